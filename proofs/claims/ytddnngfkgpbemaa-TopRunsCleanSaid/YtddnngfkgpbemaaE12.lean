/- Own work over the model of the kit. -/
import Derived.Test.YtddnngfkgpbemaaE11
import Derived.RangeFuncNested
import Derived.Test.YtddnngfkgpbemaaE9
import Derived.Lib.Bytealg
import Derived.LoopNIn
import Derived.Test.YtddnngfkgpbemaaE5
set_option linter.unnecessarySimpa false
set_option linter.unusedSimpArgs false
set_option linter.unusedVariables false
namespace Go.AM
open Go
def cutQ(P:Program)(Γ:Nat->Contract)(all:Array Oper)(Q:Exit->S->Prop)(os:List Oper):Exit->S->Prop:=fun e σ=>match e with
 | .normal=>∃σ',Le σ σ'/\awpOps P Γ all Q os σ'
 | _=>False
section
variable {P:Program} {Γ:Nat->Contract} {c:Ctx}
theorem awpOps_cut(hΓ:OkG P Γ){all:Array Oper}{Q:Exit->S->Prop}{l2:List Oper}:∀(l:List Oper) (σ:S) (a:Act) (w:World),St c σ a w->awpOps P Γ all (cutQ P Γ all Q l2) l σ->wpListIn (fen c.rd) 0 P all (lift c Q) (l++l2) a w
 | [],σ,a,w,hst,h=>by
  obtain⟨σ',h1,h2⟩:=h
  exact awpOps_sound hΓ l2 σ' a w (h1 c a w hst) h2
 | o :: os,σ,a,w,hst,h=>by
  simp only[awpOps]at h
  rw[List.cons_append]
  unfold wpListIn
  rcases opg_sound hΓ (Q:=lift c Q) hst h with⟨hw,hwp⟩|⟨hw,σ',hst',hK⟩
  ·rw[if_pos hw]
   refine Oper.wpIn_mono ?_ hwp
   rintro a' w' ⟨σ',hst',hK⟩
   exact awpOps_cut hΓ os σ' a' w' hst' hK
  ·rw[if_neg (by simp[hw])]
   exact⟨fun _ _=>trivial,awpOps_cut hΓ os σ' _ w hst' hK⟩
theorem sem_cut{id:Nat}{ops:List Oper}{Q:Exit->S->Prop}{σ:S}(n:Nat)(hΓ:OkG P Γ)(h:awpOps P Γ ops.toArray (cutQ P Γ ops.toArray Q (ops.drop n)) (ops.take n) σ):sem P (.region id ops.toArray false) Q σ:=by
 intro c a w hst
 refine wpIn_region_list ?_
 have:=awpOps_cut hΓ (ops.take n) σ a w hst h
 rwa [List.take_append_drop]at this
@[go_sem] theorem cutQ_normal {all:Array Oper} {Q:Exit->S->Prop} {os:List Oper} {σ:S}:cutQ P Γ all Q os .normal σ=∃σ',Le σ σ'/\awpOps P Γ all Q os σ':=Eq.trans rfl rfl
end
theorem le_normAt{s:List AV}{own:List Obj}{n0:Nat}{mv:List Nat}(i:Nat){v:AV}(h:(s.getD i .top).norm=v):Le ⟨s,own,n0,mv⟩ ⟨s.set i v,own,n0,mv⟩:=by
 rintro c a w ⟨hd,hn,F,φ,h2,h3,h4⟩
 refine⟨hd,hn,F,φ,h2,h3,?_⟩
 have hv:=R_norm (AV.Rs_get h4 i)
 rw[h]at hv
 have hset:=AV.Rs_set h4 i v _ hv
 have hself:a.tmps.toList.set i (a.tmps.toList.getD i undef)=a.tmps.toList:=by
  apply List.ext_getElem?
  intro k
  rw[List.getElem?_set]
  split
  ·rename_i hk
   subst hk
   split
   ·rename_i hlt
    simp[List.getD_eq_getElem?_getD,List.getElem?_eq_getElem hlt]
   ·rename_i hge
    rw[List.getElem?_eq_none (by omega)]
  ·rfl
 rw[hself]at hset
 exact hset
attribute [go_sem] List.take_succ_cons List.take_zero List.drop_succ_cons List.drop_zero
end Go.AM
namespace Go.AM
open Go
def opz(P:Program)(Γ:Nat->Contract)(ops:Array Oper)(C:Nat->List AV->Prop)(p:Nat)(o:Oper)(K:S->Prop)(σ:S):Prop:=C p σ.slots/\opg P Γ ops o K σ
def SwapsZ(P:Program)(Γ:Nat->Contract)(ops:Array Oper)(C:Nat->List AV->Prop)(sw:Nat->Nat->Bool):Prop:=∀p i op oi,ops[p]?=some op->ops[i]?=some oi->sw p i=true ->
 (∀(K K':S->Prop) (σ:S),(∀σ,K σ->K' σ)->opg P Γ ops op K σ->opg P Γ ops op K' σ)/\∀(K:S->Prop) (σ:S),opz P Γ ops C p op (opz P Γ ops C i oi K) σ->opz P Γ ops C i oi (opz P Γ ops C p op K) σ
def okZ(sw:Nat->Nat->Bool)(ops:Array Oper):DT->Option (List Nat)->Bool
 | .fin,none=>true
 | .stop,some _=>true
 | .one p t,none=>(t.ops.all fun i=>Region.waitsFor .any ops i p || sw p i) && okZ sw ops t none
 | .alt x t u,none=>okZ sw ops t none && okZ sw ops u (some (x :: t.ops)) && ((x :: t.ops).all fun i=>(x :: u.heads).contains i || (x :: t.ops).any fun j=>Region.waitsFor .any ops i j)
 | .alt x t u,some R=>okZ sw ops t none && sameSet R (x :: t.ops) && okZ sw ops u (some R)
 | _,_=>false
def bubZ(sw:Nat->Nat->Bool)(i:Nat):DT->Option DT
 | .one p t=>if p=i then some t else if sw p i=true then (bubZ sw i t).map (.one p) else none
 | .alt x t u=>if x=i then some t else bubZ sw i u
 | _=>none
section
variable {P:Program} {Γ:Nat->Contract}
def chZ(P:Program)(Γ:Nat->Contract)(ops:Array Oper)(C:Nat->List AV->Prop)(Q:Exit->S->Prop):DT->S->Prop
 | .fin,σ=>Q .normal σ
 | .stop,_=>True
 | .one p t,σ=>(match ops[p]? with|some o=>opz P Γ ops C p o (chZ P Γ ops C Q t) σ|none=>False)
 | .alt x t u,σ=>(match ops[x]? with|some o=>opz P Γ ops C x o (chZ P Γ ops C Q t) σ|none=>False)/\chZ P Γ ops C Q u σ
theorem bubZ_ok{sw:Nat->Nat->Bool}{C:Nat->List AV->Prop}{ops:Array Oper}(hS:SwapsZ P Γ ops C sw){Q:Exit->S->Prop}{i:Nat}{oi:Oper}(hi:ops[i]?=some oi):∀(T T':DT) (σ:S),bubZ sw i T=some T'->chZ P Γ ops C Q T σ->opz P Γ ops C i oi (chZ P Γ ops C Q T') σ
 | .fin,T',σ,h,_=>by simp[bubZ]at h
 | .stop,T',σ,h,_=>by simp[bubZ]at h
 | .one p t,T',σ,h,hc=>by
  simp only[bubZ]at h
  simp only[chZ]at hc
  by_cases e:p=i
  ·subst e
   rw[if_pos rfl]at h
   cases h
   rw[hi]at hc
   exact hc
  ·rw[if_neg e]at h
   split at h
   ·rename_i hsw
    obtain⟨t',ht,rfl⟩:=Option.map_eq_some_iff.1 h
    split at hc
    ·rename_i op hop
     have h':opz P Γ ops C p op (opz P Γ ops C i oi (chZ P Γ ops C Q t')) σ :=
      ⟨hc.1,(hS p i op oi hop hi hsw).1 _ _ _ (fun σ' hσ'=>bubZ_ok hS hi t t' σ' ht hσ') hc.2⟩
     have:=(hS p i op oi hop hi hsw).2 _ _ h'
     have e2:chZ P Γ ops C Q (.one p t')=opz P Γ ops C p op (chZ P Γ ops C Q t'):=by funext s;simp only[chZ,hop]
     rw[e2]
     exact this
    ·exact hc.elim
   ·cases h
 | .alt x t u,T',σ,h,hc=>by
  simp only[bubZ]at h
  simp only[chZ]at hc
  by_cases e:x=i
  ·subst e
   rw[if_pos rfl]at h
   cases h
   have h1:=hc.1
   rw[hi]at h1
   exact h1
  ·rw[if_neg e]at h
   exact bubZ_ok hS hi u T' σ h hc.2
def drawOkZ(sw:Nat->Nat->Bool)(ops:Array Oper)(T:DT):Bool:=okZ sw ops T none && backOk ops && edgesOk ops && allOf ops.size T.ops && nodupB T.ops
end
def allM:List Nat->Oper->List AV->Prop
 | [],_,_=>True
 | k :: L,o,s=>condM k o s/\allM L o s
def allA:List Nat->Oper->List AV->Prop
 | [],_,_=>True
 | k :: L,o,s=>condA k o s/\allA L o s
def inL(L:List Nat)(v:AV):Prop:=match v with|.ptr o _ _=>L.contains o=true|_=>False
def inLn(L:List Nat)(v:AV):Prop:=match v with|.sl o _ _=>L.contains o=true|.nils=>True|_=>False
def condML(L:List Nat)(o:Oper)(s:List AV):Prop:=match o.op with
 | .store _ a _=>inL L (ev s a)
 | _=>allM L o s
def condXL(L:List Nat)(o:Oper)(s:List AV):Prop:=match o.op with
 | .call c=>(match c.args.toList with|[x,_]=>inLn L (ev s x)|_=>False)
 | _=>allA L o s
def cMs:List (Nat×List Nat)->Nat->Oper->List AV->Prop
 | [],_,_,_=>True
 | (q,k) :: r,p,o,s=>(q=p->condML k o s)/\cMs r p o s
def cKs:List (Nat×List Nat)->Nat->Oper->List AV->Prop
 | [],_,_,_=>True
 | (q,k) :: r,p,o,s=>(q=p->condXL k o s)/\cKs r p o s
def cY(ops:Array Oper)(ms ks:List (Nat×List Nat))(p:Nat)(s:List AV):Prop:=match ops[p]? with
 | some o=>cMs ms p o s/\cKs ks p o s
 | none=>True
def hasM(ms:List (Nat×List Nat))(p i:Nat):Bool:=ms.any fun x=>x.1 == i && ms.contains (p,x.2)
def swY(pf mf:List Nat)(ms ks:List (Nat×List Nat))(ops:Array Oper)(p i:Nat):Bool :=
 match ops[p]?,ops[i]? with
 | some op,some oi=>op.apart ops oi && ((vlike pf op && vlike pf oi) || (isV op.op && (isMk mf oi || isLit oi)) || (isV op.op && isStore oi && hasM ms p i) || (isQ op && isV op.op && isApp oi && hasM ks p i) || (isMov op && isEff oi))
 | _,_=>false
section
variable {P:Program} {Γ:Nat->Contract}
theorem allM_at{o:Oper}{s:List AV}{k:Nat}:∀{L:List Nat},allM L o s->k∈L->condM k o s
 | [],_,h=>by cases h
 | q :: L,hc,h=>by
  rcases List.mem_cons.1 h with rfl|h
  ·exact hc.1
  ·exact allM_at hc.2 h
theorem allA_at{o:Oper}{s:List AV}{k:Nat}:∀{L:List Nat},allA L o s->k∈L->condA k o s
 | [],_,h=>by cases h
 | q :: L,hc,h=>by
  rcases List.mem_cons.1 h with rfl|h
  ·exact hc.1
  ·exact allA_at hc.2 h
theorem allM_mono{o:Oper}{s s':List AV}(h:∀k,condM k o s->condM k o s'):∀{L:List Nat},allM L o s->allM L o s'
 | [],_=>trivial
 | k :: L,hc=>⟨h k hc.1,allM_mono h hc.2⟩
theorem allA_mono{o:Oper}{s s':List AV}(h:∀k,condA k o s->condA k o s'):∀{L:List Nat},allA L o s->allA L o s'
 | [],_=>trivial
 | k :: L,hc=>⟨h k hc.1,allA_mono h hc.2⟩
theorem condML_congr{o:Oper}{L:List Nat}{s s':List AV}(h:∀x∈o.op.operands.toList,ev s' x=ev s x)(hc:condML L o s):condML L o s':=by
 unfold condML at hc ⊢
 split
 ·rename_i t a x hop
  rw[hop]at hc h
  rw[h a (by simp[Op.operands])]
  exact hc
 ·rename_i hn
  split at hc
  ·rename_i hop;exact(hn _ _ _ hop).elim
  ·exact allM_mono (fun k hh=>condM_congr h hh) hc
theorem condXL_congr{o:Oper}{L:List Nat}{s s':List AV}(h:∀x∈o.op.operands.toList,ev s' x=ev s x)(hc:condXL L o s):condXL L o s':=by
 unfold condXL at hc ⊢
 split
 ·rename_i c hop
  rw[hop]at hc h
  simp only at hc
  split at hc
  ·rename_i x y hargs
   rw[h x (by simp[Op.operands,Call.operands,hargs])]
   exact hc
  ·exact hc.elim
 ·rename_i hn
  split at hc
  ·rename_i hop;exact(hn _ hop).elim
  ·exact allA_mono (fun k hh=>condA_congr h hh) hc
theorem cMs_at{o:Oper}{s:List AV}{p:Nat}{k:List Nat}:∀{ms:List (Nat×List Nat)},cMs ms p o s->(p,k)∈ms->condML k o s
 | [],_,h=>by cases h
 | (q,k') :: r,hc,h=>by
  rcases List.mem_cons.1 h with e|h
  ·cases e;exact hc.1 rfl
  ·exact cMs_at hc.2 h
theorem cKs_at{o:Oper}{s:List AV}{p:Nat}{k:List Nat}:∀{ms:List (Nat×List Nat)},cKs ms p o s->(p,k)∈ms->condXL k o s
 | [],_,h=>by cases h
 | (q,k') :: r,hc,h=>by
  rcases List.mem_cons.1 h with e|h
  ·cases e;exact hc.1 rfl
  ·exact cKs_at hc.2 h
theorem cMs_mono{o:Oper}{s s':List AV}{p:Nat}(h:∀k,condML k o s->condML k o s'):∀{ms:List (Nat×List Nat)},cMs ms p o s->cMs ms p o s'
 | [],_=>trivial
 | (q,k) :: r,hc=>⟨fun e=>h k (hc.1 e),cMs_mono h hc.2⟩
theorem cKs_mono{o:Oper}{s s':List AV}{p:Nat}(h:∀k,condXL k o s->condXL k o s'):∀{ms:List (Nat×List Nat)},cKs ms p o s->cKs ms p o s'
 | [],_=>trivial
 | (q,k) :: r,hc=>⟨fun e=>h k (hc.1 e),cKs_mono h hc.2⟩
theorem cY_some{ops:Array Oper}{ms ks:List (Nat×List Nat)}{p:Nat}{o:Oper}{s:List AV}(h:ops[p]?=some o):cY ops ms ks p s=(cMs ms p o s/\cKs ks p o s):=by unfold cY;rw[h]
theorem hasM_spec{ms:List (Nat×List Nat)}{p i:Nat}(h:hasM ms p i=true):∃k,(i,k)∈ms/\(p,k)∈ms:=by
 obtain⟨⟨a,k⟩,h1,h2⟩:=List.any_eq_true.1 h
 simp only[Bool.and_eq_true,beq_iff_eq,List.contains_eq_mem,decide_eq_true_eq]at h2
 obtain⟨rfl,h2⟩:=h2
 exact⟨k,h1,h2⟩
theorem refs_kill{o k:Nat}(a:AV)(h:a.refs o=false):(a.kill k).refs o=false:=by
 cases a with
 | dat _=>rfl
 | nils=>rfl
 | nilm=>rfl
 | top=>rfl
 | rptr _ _=>rfl
 | sl o' i j=>simp only[AV.kill];split <;> first|rfl|exact h
 | ptr o' i j=>simp only[AV.kill];split <;> first|rfl|exact h
 | map o'=>simp only[AV.kill];split <;> first|rfl|exact h
 | yld o'=>simp only[AV.kill];split <;> rfl
 | agg vs=>rfl
 | tup vs=>rfl
 | fn f vs=>rfl
theorem condM_kills{o:Oper}(hq:isQ o=true){m k:Nat}{s:List AV}(h:condM m o s):condM m o (AV.kills k s):=by
 have key:(∀x∈o.op.operands.toList,(ev s x).refs m=false)->∀x∈o.op.operands.toList,(ev (AV.kills k s) x).refs m=false:=fun h x hx=>by
  rw[ev_kills];exact refs_kill _ (h x hx)
 unfold condM at h ⊢
 split
 ·rename_i t a x hop;unfold isQ at hq;rw[hop]at hq;cases hq
 ·rename_i hn
  split at h
  ·rename_i hop;exact(hn _ _ _ hop).elim
  ·exact key h
theorem condXL_A{o:Oper}(hq:isQ o=true){k:List Nat}{s:List AV}:condXL k o s=allA k o s:=by
 unfold condXL
 split
 ·rename_i c hop;unfold isQ at hq;rw[hop]at hq;cases hq
 ·rfl
theorem condML_V{o:Oper}(hq:isV o.op=true){k:List Nat}{s:List AV}:condML k o s=allM k o s:=by
 unfold condML
 split
 ·rename_i hop;rw[hop]at hq;cases hq
 ·rfl
theorem condA_kills2{o:Oper}(hq:isQ o=true){k m:Nat}{s:List AV}(hk:condA k o s)(hm:condA m o s):condA m o (AV.kills k s):=by
 unfold isQ at hq
 unfold condA at hk hm ⊢
 split at hq
 ·rename_i x hop _;rw[hop];trivial
 ·rename_i x hop _;rw[hop];trivial
 ·rename_i t x hop _
  rw[hop]at hk hm ⊢
  simp only at hk hm ⊢
  rw[ev_kills]
  cases hx:ev s x <;> rw[hx]at hk hm <;> simp only at hk hm
  ·simp only[AV.kill,hk,if_false];exact hm
  ·trivial
 ·rename_i t x f hop _
  rw[hop]at hk hm ⊢
  simp only at hk hm ⊢
  rw[ev_kills]
  cases hx:ev s x <;> rw[hx]at hk hm <;> simp only at hk hm
  ·simp only[AV.kill,hk,if_false];exact hm
  ·trivial
 ·rename_i t x i hop _
  rw[hop]at hk hm ⊢
  simp only at hk hm ⊢
  rw[ev_kills,ev_kills]
  obtain⟨hk,hi⟩:=hk
  obtain⟨hm,_⟩:=hm
  refine⟨?_,?_⟩
  ·cases hx:ev s x <;> rw[hx]at hk hm <;> simp only at hk hm
   ·trivial
   ·simp only[AV.kill,hk,if_false];exact hm
   ·simp only[AV.kill,hk,if_false];exact hm
  ·cases hy:ev s i <;> rw[hy]at hi <;> simp only at hi
   trivial
 ·rename_i x hop _
  rw[hop]at hk hm ⊢
  simp only at hk hm ⊢
  rw[ev_kills]
  cases hx:ev s x <;> rw[hx]at hk hm <;> simp only at hk hm
  ·simp only[AV.kill,hk,if_false];exact hm
  ·trivial
 ·cases hq
theorem appL_det{o:Oper}(hm:isApp o=true){L:List Nat}{K:S->Prop}{σ:S}{all:Array Oper}(hc:condXL L o σ.slots)(h:opg P Γ all o K σ) :
  ∃v own' kl,K (σ.effect o.dst v own' kl)/\((kl=[]/\∃obj,own'=σ.own++[obj])∨(∃k,k∈L/\kl=[k]/\∃obj,own'=(σ.own.map (Obj.kill k)).set k obj)) /\
   ∀(K':S->Prop) (σ':S),σ'.own=σ.own->(∀x∈o.op.operands.toList,ev σ'.slots x=ev σ.slots x)->K' (σ'.effect o.dst v own' kl)->opg P Γ all o K' σ':=by
 unfold isApp at hm
 split at hm
 ·rename_i c hop hg
  split at hm
  ·rename_i hcal
   unfold condXL at hc
   rw[hop]at hc
   simp only at hc
   split at hc
   ·rename_i x y hargs
    have e:∀(K:S->Prop) (σ:S),opg P Γ all o K σ=(match c.argTypes.toList with|[t,t']=>appTw P σ.own t t' (ev σ.slots x) (ev σ.slots y) (PutE o.dst K σ)|_=>False):=fun K σ=>by
     unfold opg
     rw[hg]
     simp only
     unfold opw
     rw[hop]
     simp only[isV,hcal,eop,Bool.false_eq_true,if_false,ecall,hargs]
     split <;> simp_all
    rw[e]at h
    split at h
    ·rename_i t t' hts
     have mem:∀z∈c.args.toList,z∈o.op.operands.toList:=fun z hz=>by
      rw[hop]
      simp[Op.operands,Call.operands,hcal,hz]
     unfold inLn at hc
     split at hc
     ·rename_i o' off len hx
      rw[hx]at h
      obtain⟨v,obj',h1,h2⟩:=appTw_det h
      refine⟨v,_,_,h1,.inr ⟨o',by simpa using hc,rfl,_,rfl⟩,fun K' σ' ho hxs hK'=>?_⟩
      rw[e,hts]
      simp only
      rw[ho,hxs x (mem x (by rw[hargs];simp)),hxs y (mem y (by rw[hargs];simp)),hx]
      exact h2 _ hK'
     ·rename_i hx
      rw[hx]at h
      obtain⟨v,obj',h1,h2⟩:=appTn_det h
      refine⟨v,_,_,h1,.inl ⟨rfl,_,rfl⟩,fun K' σ' ho hxs hK'=>?_⟩
      rw[e,hts]
      simp only
      rw[ho,hxs x (mem x (by rw[hargs];simp)),hxs y (mem y (by rw[hargs];simp)),hx]
      exact h2 _ hK'
     ·exact hc.elim
    ·exact h.elim
   ·exact hc.elim
  ·cases hm
 ·cases hm
theorem swapsY{pf mf:List Nat}{ms ks:List (Nat×List Nat)}(hpf:PureFns Γ pf)(hmf:MakeFns Γ mf){ops:Array Oper}:SwapsZ P Γ ops (cY ops ms ks) (swY pf mf ms ks ops):=by
 intro p i op oi hop hi hsw
 unfold swY at hsw
 rw[hi,hop]at hsw
 simp only[Bool.and_eq_true,Bool.or_eq_true]at hsw
 obtain⟨hap,hk⟩:=hsw
 have hv:vlike pf op=true:=by
  rcases hk with(((hk|hk)|hk)|hk)|hk
  ·exact hk.1
  ·simp[vlike,hk.1]
  ·simp[vlike,hk.1.1]
  ·simp[vlike,hk.1.1.2]
  ·simp[vlike,mov_v hk.1]
 refine⟨fun K K' σ h hh=>chain_mono hpf hv h hh,fun K σ h=>?_⟩
 have eO:∀(q:Nat) (o:Oper) (K:S->Prop),ops[q]?=some o->opz P Γ ops (cY ops ms ks) q o K=fun σ=>(cMs ms q o σ.slots/\cKs ks q o σ.slots)/\opg P Γ ops o K σ:=fun q o K hq=>by
  funext σ;unfold opz;rw[cY_some hq]
 rw[eO i oi _ hi,eO p op _ hop]
 rw[eO i oi _ hi,eO p op _ hop]at h
 have hC:∀(q:Nat) (o:Oper) (s s':List AV),(∀x∈o.op.operands.toList,ev s' x=ev s x)->(cMs ms q o s/\cKs ks q o s)->(cMs ms q o s'/\cKs ks q o s'):=fun q o s s' hx hc=>⟨cMs_mono (fun k hh=>condML_congr hx hh) hc.1,cKs_mono (fun k hh=>condXL_congr hx hh) hc.2⟩
 have same:∀(vp:AV) (ex:List Obj),isV op.op=true->vG P Γ pf ops op σ.slots σ.own (fun v=>v=vp)->vG P Γ pf ops op (killAll [] σ.slots) (σ.own++ex) (fun v=>v=vp):=fun vp ex hv hg=>vG_mores hv ex _ hg
 rcases hk with(((hk|hk)|hk)|hk)|hk
 ·exact swap_vvx hpf hk.1 hk.2 hap (hC p op) (hC i oi) h
 ·refine swapG hpf hv hap (hC p op) (hC i oi) (fun K σ' ho cp ci hh=>?_) h
  have hdet:∃v ex,K (σ'.effect oi.dst v (σ'.own++ex) [])/\Eff P Γ ops oi σ' v (σ'.own++ex):=by
   rcases hk.2 with hm|hl
   ·exact mk_det hmf hm hh
   ·exact lit_det hl hh
  obtain⟨v,ex,g1,g2⟩:=hdet
  exact⟨v,_,[],id,g1,g2,fun s d u=>rfl,cp,fun vp hg=>by rw[ho];exact same vp ex hk.1 hg⟩
 ·obtain⟨⟨q1,q2⟩,q3⟩:=hk
  obtain⟨k,m1,m2⟩:=hasM_spec q3
  refine swapG hpf hv hap (hC p op) (hC i oi) (fun K σ' ho cp ci hh=>?_) h
  have hs:=cMs_at ci.1 m1
  obtain⟨ob,hin,hcm⟩:∃ob,ob∈k/\condM ob oi σ'.slots:=by
   unfold isStore at q2
   split at q2
   ·rename_i t a x hop2 _ _
    unfold condML at hs
    rw[hop2]at hs
    simp only at hs
    unfold inL at hs
    split at hs
    ·rename_i ob i0 j0 hev
     refine⟨ob,by simpa using hs,?_⟩
     unfold condM
     rw[hop2]
     exact⟨i0,j0,hev⟩
    ·exact hs.elim
   ·cases q2
  obtain⟨obj',g1,g2⟩:=store_det q2 hcm hh
  refine⟨.top,_,[],id,g1,g2,fun s d u=>rfl,cp,fun vp hg=>by
   rw[ho]
   have:=cMs_at cp.1 m2
   rw[condML_V q1]at this
   exact vG_setOwn q1 (allM_at this hin) hg⟩
 ·obtain⟨⟨⟨q1,q2⟩,q4⟩,q5⟩:=hk
  obtain⟨L,m1,m2⟩:=hasM_spec q5
  refine swapG hpf hv hap (hC p op) (hC i oi) (fun K σ' ho cp ci hh=>?_) h
  have hs:=cKs_at ci.2 m1
  have hpL:=cKs_at cp.2 m2
  rw[condXL_A q1]at hpL
  have hg:op.guard=none:=by
   unfold isQ at q1
   split at q1 <;> first|assumption|cases q1
  have eG:∀(s:List AV) (own:List Obj) (k:AV->Prop),vG P Γ pf ops op s own k=vop P own s op.op k:=fun s own k=>by
   unfold vG vB
   rw[hg]
   simp only[q2,if_true]
  obtain⟨v,own',kl,g1,g2,g3⟩:=appL_det q4 hs hh
  rcases g2 with⟨rfl,obj,rfl⟩|⟨k,hkL,rfl,obj,rfl⟩
  ·exact⟨v,_,[],id,g1,g3,fun s d u=>rfl,cp,fun vp hg=>by rw[ho];exact same vp _ q2 hg⟩
  ·have hcA:=allA_at hpL hkL
   refine⟨v,_,[k],AV.kill k,g1,g3,fun s d u=>by rw[killAll_one,killAll_one,kills_put],?_,fun vp hvg=>?_⟩
   ·rw[killAll_one]
    refine⟨cMs_mono (fun m hm=>?_) cp.1,cKs_mono (fun m hm=>?_) cp.2⟩
    ·rw[condML_V q2]at hm ⊢;exact allM_mono (fun m hm=>condM_kills q1 hm) hm
    ·rw[condXL_A q1]at hm ⊢;exact allA_mono (fun m hm=>condA_kills2 q1 hcA hm) hm
   ·rw[eG]at hvg
    rw[eG,killAll_one,ho]
    have:=vop_kill q1 (obj':=obj) hcA hvg
    obtain⟨v',⟨u,rfl,rfl⟩,hy⟩:=vop_det _ op.op _ this
    exact hy _ rfl
 ·refine swapG hpf hv hap (hC p op) (hC i oi) (fun K σ' ho cp ci hh=>?_) h
  obtain⟨v,own',g1,g2⟩:=eff_det hk.2 hh
  exact⟨v,own',[],id,g1,g2,fun s d u=>rfl,cp,fun vp hg=>mov_own hk.1 hg⟩
variable {all:Array Oper} {Q:Exit->S->Prop} {p q k:Nat} {r L:List Nat} {ms ks:List (Nat×List Nat)} {t u:DT} {σ:S} {s:List AV} {own:List Obj} {n:Nat} {m:List Nat} {o:Oper}
@[go_sem] theorem cMs_nil:cMs [] p o s=True:=Eq.trans rfl rfl
@[go_sem] theorem cMs_same:cMs ((p,L) :: ms) p o s=(condML L o s/\cMs ms p o s):=by simp[cMs]
@[go_sem] theorem cMs_other (h:q≠p):cMs ((q,L) :: ms) p o s=cMs ms p o s:=by simp[cMs,h]
@[go_sem] theorem cKs_nil:cKs [] p o s=True:=Eq.trans rfl rfl
@[go_sem] theorem cKs_same:cKs ((p,L) :: ms) p o s=(condXL L o s/\cKs ms p o s):=by simp[cKs]
@[go_sem] theorem cKs_other (h:q≠p):cKs ((q,L) :: ms) p o s=cKs ms p o s:=by simp[cKs,h]
@[go_sem] theorem allM_nil:allM [] o s=True:=Eq.trans rfl rfl
@[go_sem] theorem allM_cons:allM (k :: L) o s=(condM k o s/\allM L o s):=Eq.trans rfl rfl
@[go_sem] theorem allA_nil:allA [] o s=True:=Eq.trans rfl rfl
@[go_sem] theorem allA_cons:allA (k :: L) o s=(condA k o s/\allA L o s):=Eq.trans rfl rfl
@[go_sem] theorem inL_ptr {i j:Nat}:inL L (.ptr k i j)=(L.contains k=true):=Eq.trans rfl rfl
@[go_sem] theorem inLn_sl {i j:Nat}:inLn L (.sl k i j)=(L.contains k=true):=Eq.trans rfl rfl
@[go_sem] theorem inLn_nils:inLn L .nils=True:=Eq.trans rfl rfl
section
variable {dst:Option Tmp} {ty t1:TypeId} {pos:String} {af:Array Edge} {gd:Option (Nat×Bool)} {x y a:Operand} {f:Nat}
@[go_sem] theorem condML_store:condML L ⟨dst,.store t1 a x,ty,pos,af,gd⟩ s=inL L (ev s a):=Eq.trans rfl rfl
@[go_sem] theorem condML_load:condML L ⟨dst,.load t1 x,ty,pos,af,gd⟩ s=allM L ⟨dst,.load t1 x,ty,pos,af,gd⟩ s:=Eq.trans rfl rfl
@[go_sem] theorem condML_move:condML L ⟨dst,.move x,ty,pos,af,gd⟩ s=allM L ⟨dst,.move x,ty,pos,af,gd⟩ s:=Eq.trans rfl rfl
@[go_sem] theorem condML_assign:condML L ⟨dst,.assign x,ty,pos,af,gd⟩ s=allM L ⟨dst,.assign x,ty,pos,af,gd⟩ s:=Eq.trans rfl rfl
@[go_sem] theorem condML_indexAddr:condML L ⟨dst,.indexAddr t1 x y,ty,pos,af,gd⟩ s=allM L ⟨dst,.indexAddr t1 x y,ty,pos,af,gd⟩ s:=Eq.trans rfl rfl
@[go_sem] theorem condML_fieldAddr:condML L ⟨dst,.fieldAddr t1 x f,ty,pos,af,gd⟩ s=allM L ⟨dst,.fieldAddr t1 x f,ty,pos,af,gd⟩ s:=Eq.trans rfl rfl
@[go_sem] theorem condML_nilCheck:condML L ⟨dst,.nilCheck x,ty,pos,af,gd⟩ s=allM L ⟨dst,.nilCheck x,ty,pos,af,gd⟩ s:=Eq.trans rfl rfl
@[go_sem] theorem condML_binOp {b:BinOp} {t2:TypeId}:condML L ⟨dst,.binOp b t1 x y t2,ty,pos,af,gd⟩ s=allM L ⟨dst,.binOp b t1 x y t2,ty,pos,af,gd⟩ s:=Eq.trans rfl rfl
@[go_sem] theorem condXL_call {b:Builtin} {ts:Array TypeId}:condXL L ⟨dst,.call ⟨.builtin b,#[x,y],ts⟩,ty,pos,af,gd⟩ s=inLn L (ev s x):=Eq.trans rfl rfl
@[go_sem] theorem condXL_load:condXL L ⟨dst,.load t1 x,ty,pos,af,gd⟩ s=allA L ⟨dst,.load t1 x,ty,pos,af,gd⟩ s:=Eq.trans rfl rfl
@[go_sem] theorem condXL_move:condXL L ⟨dst,.move x,ty,pos,af,gd⟩ s=allA L ⟨dst,.move x,ty,pos,af,gd⟩ s:=Eq.trans rfl rfl
@[go_sem] theorem condXL_assign:condXL L ⟨dst,.assign x,ty,pos,af,gd⟩ s=allA L ⟨dst,.assign x,ty,pos,af,gd⟩ s:=Eq.trans rfl rfl
@[go_sem] theorem condXL_indexAddr:condXL L ⟨dst,.indexAddr t1 x y,ty,pos,af,gd⟩ s=allA L ⟨dst,.indexAddr t1 x y,ty,pos,af,gd⟩ s:=Eq.trans rfl rfl
@[go_sem] theorem condXL_nilCheck:condXL L ⟨dst,.nilCheck x,ty,pos,af,gd⟩ s=allA L ⟨dst,.nilCheck x,ty,pos,af,gd⟩ s:=Eq.trans rfl rfl
@[go_sem] theorem condXL_fieldAddr:condXL L ⟨dst,.fieldAddr t1 x f,ty,pos,af,gd⟩ s=allA L ⟨dst,.fieldAddr t1 x f,ty,pos,af,gd⟩ s:=Eq.trans rfl rfl
end
def chY(P:Program)(Γ:Nat->Contract)(all:Array Oper)(ms ks:List (Nat×List Nat))(Q:Exit->S->Prop)(t:DT)(p:Nat)(s:List AV)(own:List Obj)(n:Nat)(m:List Nat)(oo:Option Oper):Prop:=match oo with
 | some o=>(cMs ms p o s/\cKs ks p o s)/\opg P Γ all o (chZ P Γ all (cY all ms ks) Q t) ⟨s,own,n,m⟩
 | none=>False
@[go_sem] theorem chY_some:chY P Γ all ms ks Q t p s own n m (some o)=((cMs ms p o s/\cKs ks p o s)/\opg P Γ all o (chZ P Γ all (cY all ms ks) Q t) ⟨s,own,n,m⟩):=Eq.trans rfl rfl
theorem chY_eq:chY P Γ all ms ks Q t p s own n m all[p]?=(match all[p]? with|some o=>opz P Γ all (cY all ms ks) p o (chZ P Γ all (cY all ms ks) Q t) ⟨s,own,n,m⟩|none=>False):=by
 cases h:all[p]? with
 | none=>rfl
 | some o=>simp only[chY,opz,cY,h]
@[go_sem] theorem chZ_fin:chZ P Γ all (cY all ms ks) Q .fin σ=Q .normal σ:=Eq.trans rfl rfl
@[go_sem] theorem chZ_stop:chZ P Γ all (cY all ms ks) Q .stop σ=True:=Eq.trans rfl rfl
@[go_sem] theorem chZ_onesNil:chZ P Γ all (cY all ms ks) Q (ones []) σ=Q .normal σ:=Eq.trans rfl rfl
@[go_sem] theorem chZ_onesCons:chZ P Γ all (cY all ms ks) Q (ones (p :: r)) ⟨s,own,n,m⟩=chY P Γ all ms ks Q (ones r) p s own n m all[p]?:=by rw[chY_eq];rfl
@[go_sem] theorem chZ_one:chZ P Γ all (cY all ms ks) Q (.one p t) ⟨s,own,n,m⟩=chY P Γ all ms ks Q t p s own n m all[p]?:=by rw[chY_eq];rfl
@[go_sem] theorem chZ_alt:chZ P Γ all (cY all ms ks) Q (.alt p t u) ⟨s,own,n,m⟩=(chY P Γ all ms ks Q t p s own n m all[p]?/\chZ P Γ all (cY all ms ks) Q u ⟨s,own,n,m⟩):=by rw[chY_eq];rfl
end
end Go.AM
namespace Go.AM
open Go
mutual
def AV.frzB(o:Nat)(ds:List D):AV->AV
 | .sl o' i j=>if o'=o then .top else .sl o' i j
 | .ptr o' i j=>if o'=o then (if i=0/\j=0 then .rptr (some ds.length) (.agg ds) else .top) else .ptr o' i j
 | .map o'=>if o'=o then .top else .map o'
 | .yld o'=>if o'=o then .top else .yld o'
 | .agg vs=>.agg (AV.frzBs o ds vs)
 | .tup vs=>.tup (AV.frzBs o ds vs)
 | .fn f vs=>.fn f (AV.frzBs o ds vs)
 | .dat d=>.dat d
 | .nils=>.nils
 | .nilm=>.nilm
 | .rptr a d=>.rptr a d
 | .top=>.top
def AV.frzBs(o:Nat)(ds:List D):List AV->List AV
 | []=>[]
 | a :: as=>a.frzB o ds :: AV.frzBs o ds as
end
theorem AV.frzBs_length{o:Nat}{ds:List D}:∀(cs:List AV),(AV.frzBs o ds cs).length=cs.length
 | []=>rfl
 | c :: cs=>by simp only[AV.frzBs,List.length_cons,AV.frzBs_length cs]
def Obj.frzB(o:Nat)(ds:List D):Obj->Obj
 | .box cs=>.box (AV.frzBs o ds cs)
 | .lp r cs=>.lp r (AV.frzBs o ds cs)
 | .bld T u cs=>.bld T u (AV.frzBs o ds cs)
 | .vec cs=>.vec (AV.frzBs o ds cs)
 | .tab k cs=>.tab k (AV.frzBs o ds cs)
 | x=>x
section
variable {P:Program} {F F':Nat->Prop} {φ φ':Nat->Option Loc} {w:World} {o:Nat} {ds:List D} {L:Loc}
theorem frzB_ptr(hF:∀b,F b->F' b)(ho:φ o=some L)(hFL:L.nil=false->F' L.b)(hr:ObjR F φ w (some L) (.box (ds.map .dat))){v:Value}(h:AV.R F φ w (.ptr o 0 0) v) :
  AV.R F' φ' w (.rptr (some ds.length) (.agg ds)) v:=by
 simp only[AV.R]at h
 obtain⟨L',h1,hn,rfl⟩:=h
 rw[ho]at h1
 cases h1
 simp only[ObjR]at hr
 obtain⟨_,hb,arr,ty,h3,h4,h5⟩:=hr
 have h6:=Cs_dats h5
 have hl:=D.Cs_length _ _ h6
 simp only[AV.R]
 refine⟨L.b,0,arr,by rw[hb];simp,hFL hn,by simpa [es] using hl,fun j hj=>?_,rfl,?_⟩
 ·simp[World.cell?,h3]
 ·simp only[D.C]
  exact D.Cs_mono hF (Same.refl F w) _ _ h6
mutual
theorem AV.R_frzB(hF:∀b,F b->F' b)(hφ:∀o' L',o'≠o->φ o'=some L'->φ' o'=some L')(ho:φ o=some L)(hFL:L.nil=false->F' L.b)(hr:ObjR F φ w (some L) (.box (ds.map .dat))) :
  ∀(a:AV) (v:Value),AV.R F φ w a v->AV.R F' φ' w (a.frzB o ds) v
 | .dat d,v,h=>by
  simp only[AV.frzB,AV.R]at h ⊢
  exact D.R_mono hF (Same.refl F w) h
 | .nils,_,h=>by simpa only[AV.frzB,AV.R] using h
 | .nilm,_,h=>by simpa only[AV.frzB,AV.R] using h
 | .sl o' i j,v,h=>by
  simp only[AV.frzB]
  split
  ·simp only[AV.R]
  ·rename_i hne
   simp only[AV.R]at h ⊢
   obtain⟨L',h1,h2⟩:=h
   exact⟨L',hφ o' L' hne h1,h2⟩
 | .ptr o' i j,v,h=>by
  simp only[AV.frzB]
  split
  ·rename_i e
   subst e
   split
   ·rename_i hij
    obtain⟨rfl,rfl⟩:=hij
    exact frzB_ptr hF ho hFL hr h
   ·simp only[AV.R]
  ·rename_i hne
   simp only[AV.R]at h ⊢
   obtain⟨L',h1,h2⟩:=h
   exact⟨L',hφ o' L' hne h1,h2⟩
 | .rptr a d,v,h=>by
  simp only[AV.frzB,AV.R]at h ⊢
  obtain⟨b,off,cs,h1,h2,h5,h3,h6,h4⟩:=h
  exact⟨b,off,cs,h1,hF b h2,h5,h3,h6,D.C_mono hF (Same.refl F w) _ _ h4⟩
 | .agg vs,v,h=>by
  simp only[AV.frzB,AV.R]at h ⊢
  obtain⟨arr,h1,h2⟩:=h
  exact⟨arr,h1,AV.Ra_frzB hF hφ ho hFL hr vs arr h2⟩
 | .tup vs,v,h=>by
  simp only[AV.frzB,AV.R]at h ⊢
  obtain⟨arr,h1,h2⟩:=h
  exact⟨arr,h1,AV.Rs_frzB hF hφ ho hFL hr vs arr h2⟩
 | .map o',v,h=>by
  simp only[AV.frzB]
  split
  ·simp only[AV.R]
  ·rename_i hne
   simp only[AV.R]at h ⊢
   obtain⟨L',h1,h2⟩:=h
   exact⟨L',hφ o' L' hne h1,h2⟩
 | .yld o',v,h=>by
  simp only[AV.frzB]
  split
  ·simp only[AV.R]
  ·rename_i hne
   simp only[AV.R]at h ⊢
   obtain⟨L',h1,h2⟩:=h
   exact⟨L',hφ o' L' hne h1,h2⟩
 | .fn f vs,v,h=>by
  simp only[AV.frzB,AV.R]at h ⊢
  obtain⟨arr,h1,h2⟩:=h
  exact⟨arr,h1,AV.Rs_frzB hF hφ ho hFL hr vs arr h2⟩
 | .top,_,_=>by simp only[AV.frzB,AV.R]
theorem AV.Rs_frzB(hF:∀b,F b->F' b)(hφ:∀o' L',o'≠o->φ o'=some L'->φ' o'=some L')(ho:φ o=some L)(hFL:L.nil=false->F' L.b)(hr:ObjR F φ w (some L) (.box (ds.map .dat))) :
  ∀(as:List AV) (vs:List Value),AV.Rs F φ w as vs->AV.Rs F' φ' w (AV.frzBs o ds as) vs
 | [],_,h=>by simpa only[AV.frzBs,AV.Rs] using h
 | a :: as,vs,h=>by
  simp only[AV.frzBs,AV.Rs]at h ⊢
  obtain⟨v,vs',h1,h2,h3⟩:=h
  exact⟨v,vs',h1,AV.R_frzB hF hφ ho hFL hr a v h2,AV.Rs_frzB hF hφ ho hFL hr as vs' h3⟩
theorem AV.Ra_frzB(hF:∀b,F b->F' b)(hφ:∀o' L',o'≠o->φ o'=some L'->φ' o'=some L')(ho:φ o=some L)(hFL:L.nil=false->F' L.b)(hr:ObjR F φ w (some L) (.box (ds.map .dat))) :
  ∀(as:List AV) (vs:List Value),AV.Ra F φ w as vs->AV.Ra F' φ' w (AV.frzBs o ds as) vs
 | [],_,h=>by simpa only[AV.frzBs,AV.Ra] using h
 | a :: as,vs,h=>by
  simp only[AV.frzBs,AV.Ra]at h ⊢
  obtain⟨v,vs',h1,h0,h2,h3⟩:=h
  exact⟨v,vs',h1,h0,AV.R_frzB hF hφ ho hFL hr a v h2,AV.Ra_frzB hF hφ ho hFL hr as vs' h3⟩
end
theorem le_freezeB{s:List AV}{own:List Obj}{n0:Nat}{mv:List Nat}(o:Nat){ds:List D}(ho:own[o]?=some (.box (ds.map .dat)))(h0:n0<=o) :
  Le ⟨s,own,n0,mv⟩ ⟨AV.frzBs o ds s,(own.map (Obj.frzB o ds)).set o .dead,n0,mv⟩:=by
 rintro c a w ⟨hd,hn,F,φ,h2,h3,h4⟩
 have hlt:o<own.length:=by
  rcases Nat.lt_or_ge o own.length with h|h
  ·exact h
  ·rw[List.getElem?_eq_none h]at ho;cases ho
 have hrep:=h3.rep o _ ho
 obtain⟨L,hL⟩:∃L,φ o=some L:=by
  cases hl:φ o with
  | none=>rw[hl]at hrep;simp only[ObjR]at hrep
  | some L=>exact⟨L,rfl⟩
 rw[hL]at hrep
 let F':Nat->Prop:=fun b=>F b∨(L.nil=false/\b=L.b)
 let φ':Nat->Option Loc:=fun i=>if i=o then none else φ i
 have hF:∀b,F b->F' b:=fun b hb=>.inl hb
 have hFL:L.nil=false->F' L.b:=fun hn=>.inr ⟨hn,rfl⟩
 have hφ:∀o' L',o'≠o->φ o'=some L'->φ' o'=some L':=fun o' L' hne h=>by simp only[φ',hne,if_false];exact h
 refine⟨hd,hn,F',φ',⟨fun b hb=>hF b (h2.sub b hb),h2.ext,fun o' L' hlt' hm h=>?_,h2.rest,fun o' L' ho' hn'=>?_,fun b hb=>?_⟩,?_,AV.Rs_frzB hF hφ hL hFL hrep _ _ h4⟩
 ·have:o'≠o:=by rw[← hn]at hlt';simp only at hlt';omega
  exact hφ o' L' this (h2.keep o' L' hlt' hm h)
 ·simp only[φ']at ho'
  split at ho'
  ·cases ho'
  ·exact h2.orig o' L' ho' hn'
 ·rcases hb with hb|⟨hn',rfl⟩
  ·exact h2.frsh b hb
  ·rcases h2.orig o L hL hn' with h|h
   ·exact .inr (.inl h)
   ·exact .inr (.inr h)
 ·constructor
  ·intro b hb
   rcases hb with hb|⟨hn',rfl⟩
   ·exact h3.fb b hb
   ·exact(h3.live o L hL hn').2
  ·intro o' L' ho' hn'
   simp only[φ']at ho'
   split at ho'
   ·cases ho'
   ·rename_i hne
    refine⟨fun hF'=>?_,(h3.live o' L' ho' hn').2⟩
    rcases hF' with hF'|⟨hn2,hb⟩
    ·exact(h3.live o' L' ho' hn').1 hF'
    ·exact h3.inj o' o L' L ho' hL hn' hn2 hne hb
  ·intro o1 o2 L1 L2 h1 h2' n1 n2 hne
   simp only[φ']at h1 h2'
   split at h1 <;> split at h2' <;> first|exact h3.inj o1 o2 L1 L2 h1 h2' n1 n2 hne|cases h1|cases h2'
  ·intro o' obj ho'
   rw[List.getElem?_set]at ho'
   by_cases e:o=o'
   ·subst e
    simp only[if_true,List.length_map,hlt,Option.some.injEq]at ho'
    subst ho'
    simp only[φ',if_true,ObjR]
   ·simp only[e,if_false,List.getElem?_map,Option.map_eq_some_iff]at ho'
    obtain⟨ob,hob,rfl⟩:=ho'
    have hrep':=h3.rep o' ob hob
    simp only[φ',if_neg (fun e':o'=o=>e e'.symm)]
    cases hl:φ o' with
    | none=>rw[hl]at hrep';cases ob <;> simp only[ObjR,Obj.frzB]at hrep' ⊢
    | some L' =>
     rw[hl]at hrep'
     cases ob with
     | vec cs =>
      simp only[ObjR,Obj.frzB]at hrep' ⊢
      obtain⟨q1,q2⟩:=hrep'
      refine⟨q1,?_⟩
      have hl':(AV.frzBs o ds cs).length=cs.length:=AV.frzBs_length _
      rcases q2 with⟨q2,q3⟩|⟨q2,arr,ty,q3,q4,q5,vs,q6,q7⟩
      ·subst q3;exact .inl ⟨q2,rfl⟩
      ·exact .inr ⟨q2,arr,ty,q3,q4,by rw[hl'];exact q5,vs,AV.Ra_frzB hF hφ hL hFL hrep _ _ q6,by rw[hl'];exact q7⟩
     | tab k0 cs =>
      simp only[ObjR,Obj.frzB]at hrep' ⊢
      obtain⟨q1,q2⟩:=hrep'
      refine⟨q1,?_⟩
      have hl':(AV.frzBs o ds cs).length=cs.length:=AV.frzBs_length _
      rcases q2 with⟨q2,q3⟩|⟨q2,arr,ty,q3,q4,q5,vs,q6,q7⟩
      ·subst q3;exact .inl ⟨q2,rfl⟩
      ·exact .inr ⟨q2,arr,ty,q3,q4,by rw[hl'];exact q5,vs,AV.Ra_frzB hF hφ hL hFL hrep _ _ q6,by rw[hl'];exact q7⟩
     | box cs =>
      simp only[ObjR,Obj.frzB]at hrep' ⊢
      obtain⟨q1,q2,arr,ty,q3,q4,q5⟩:=hrep'
      exact⟨q1,q2,arr,ty,q3,q4,AV.Ra_frzB hF hφ hL hFL hrep _ _ q5⟩
     | lp r0 cs =>
      simp only[ObjR,Obj.frzB]at hrep' ⊢
      obtain⟨q1,q2,arr,ty,q3,q4,q5⟩:=hrep'
      exact⟨q1,q2,arr,ty,q3,q4,AV.Rs_frzB hF hφ hL hFL hrep _ _ q5⟩
     | bld T0 u0 cs =>
      simp only[ObjR,Obj.frzB]at hrep' ⊢
      obtain⟨q1,q2,arr,ty,q3,q4,q5⟩:=hrep'
      exact⟨q1,q2,arr,ty,q3,q4,AV.Rs_frzB hF hφ hL hFL hrep _ _ q5⟩
     | row ag' xs' =>
      simp only[ObjR,Obj.frzB]at hrep' ⊢
      obtain⟨q1,q2⟩:=hrep'
      refine⟨q1,?_⟩
      rcases q2 with q2|⟨q2,q3,q4,q5⟩
      ·exact .inl q2
      ·exact .inr ⟨q2,q3,q4,D.Cr_congr hF (Same.refl F w) ag' L'.b L'.b _ _ _ (fun _ _=>rfl) q5⟩
     | brow e0 bs0=>simpa only[ObjR,Obj.frzB] using hrep'
     | map m =>
      simp only[ObjR,Obj.frzB]at hrep' ⊢
      obtain⟨q1,es,clock,q3,q4⟩:=hrep'
      exact⟨q1,es,clock,q3,mapR_mono hF (Same.refl F w) _ _ q4⟩
     | dead=>simp only[ObjR,Obj.frzB]
  ·intro o' ho'
   simp only[List.length_set,List.length_map]at ho'
   simp only[φ']
   rw[if_neg (by omega)]
   exact h3.out o' ho'
  ·exact h3.glob.mono hF (Same.refl F w)
end
attribute [go_sem] AV.frzB AV.frzBs Obj.frzB
@[go_sem] theorem frzBs_dats {o:Nat} {ds:List D}:∀(xs:List D),AV.frzBs o ds (xs.map .dat)=xs.map .dat
 | []=>rfl
 | d :: xs=>by simp only[List.map_cons,AV.frzBs,AV.frzB,frzBs_dats xs]
end Go.AM
namespace Go.AM
open Go
def isFar(o:Oper):Bool :=
 match o.op,o.guard with
 | .move _,none|.assign _,none|.fieldAddr _ _ _,none|.nilCheck _,none|.binOp _ _ _ _ _,none|.unOp _ _ _,none|.extract _ _,none|.field _ _ _,none|.convert _ _ _,none|.build _ _,none|.pick _ _ _,none|.index _ _ _,none=>true
 | _,_=>false
def isIdx(o:Oper):Bool :=
 match o.op,o.guard with
 | .indexAddr _ _ _,none=>true
 | _,_=>false
def Obj.knd:Obj->Nat×Option Nat
 | .row ag _=>(0,ag)
 | .vec _=>(1,none)
 | .tab k _=>(5,some k)
 | .box _=>(2,none)
 | .lp _ _=>(6,none)
 | .bld _ _ _=>(7,none)
 | .map _=>(3,none)
 | .brow _ _=>(8,none)
 | .dead=>(4,none)
def swV(pf mf:List Nat)(ms ks:List (Nat×List Nat))(ops:Array Oper)(p i:Nat):Bool :=
 swY pf mf ms ks ops p i || (match ops[p]?,ops[i]? with|some op,some oi=>op.apart ops oi && ((isFar op && isEff oi) || (isIdx op && isStore oi))|_,_=>false)
section
variable {P:Program} {Γ:Nat->Contract}
theorem far_own{pf:List Nat}{all:Array Oper}{o:Oper}(hm:isFar o=true){s:List AV}{own own':List Obj}{k:AV->Prop}(h:vG P Γ pf all o s own k):vG P Γ pf all o s own' k:=by
 unfold isFar at hm
 split at hm <;> first
  | (rename_i hop hg;unfold vG vB at h ⊢;rw[hg]at h ⊢;simp only[hop,isV,if_true,vop]at h ⊢;exact h)
  | cases hm
theorem far_v{o:Oper}(hm:isFar o=true):isV o.op=true:=by
 unfold isFar at hm
 split at hm <;> first|(rename_i hop hg;rw[hop];rfl)|cases hm
theorem idx_v{o:Oper}(hm:isIdx o=true):isV o.op=true:=by
 unfold isIdx at hm
 split at hm <;> first|(rename_i hop hg;rw[hop];rfl)|cases hm
theorem storeObj_det2{τ:Ty}{obj:Obj}{i j:Nat}{x:AV}{K:Obj->Prop}(h:storeObj τ obj i j x K):∃obj',K obj'/\(∀K':Obj->Prop,K' obj'->storeObj τ obj i j x K')/\obj'.knd=obj.knd:=by
 unfold storeObj at h ⊢
 split at h
 ·split at h
  ·obtain⟨h2,h3,h4,h⟩:=h
   split at h
   ·exact⟨_,h.2,fun K' hK'=>⟨h2,h3,h4,h.1,hK'⟩,rfl⟩
   ·exact h.elim
  ·obtain⟨h2,h3,h4,h⟩:=h
   split at h
   ·exact⟨_,h.2,fun K' hK'=>⟨h2,h3,h4,h.1,hK'⟩,rfl⟩
   ·exact h.elim
 ·obtain⟨h1,h⟩:=h
  split at h
  ·split at h
   ·rename_i ha
    refine⟨_,h.2.2.2,fun K' hK'=>⟨h1,?_⟩,rfl⟩
    rw[if_pos ha]
    exact⟨h.1,h.2.1,h.2.2.1,hK'⟩
   ·rename_i ha
    refine⟨_,h.2.2.2,fun K' hK'=>⟨h1,?_⟩,rfl⟩
    rw[if_neg ha]
    exact⟨h.1,h.2.1,h.2.2.1,hK'⟩
  ·exact h.elim
 ·obtain⟨h1,h2,h3,h⟩:=h
  split at h
  ·exact⟨_,h,fun K' hK'=>⟨h1,h2,h3,hK'⟩,rfl⟩
  ·exact h.elim
 ·split at h
  ·exact⟨_,h.2.2,fun K' hK'=>⟨h.1,h.2.1,hK'⟩,rfl⟩
  ·exact h.elim
 ·obtain⟨h1,h2,h3,h⟩:=h
  split at h
  ·exact⟨_,h,fun K' hK'=>⟨h1,h2,h3,hK'⟩,rfl⟩
  ·exact h.elim
 ·obtain⟨h1,h⟩:=h
  split at h
  ·exact⟨_,h.2.2,fun K' hK'=>⟨h1,h.1,h.2.1,hK'⟩,rfl⟩
  ·exact h.elim
 ·exact h.elim
theorem store_knd{o:Oper}(hm:isStore o=true){K:S->Prop}{σ:S}{all:Array Oper}(h:opg P Γ all o K σ) :
  ∃v own',K (σ.effect o.dst v own' [])/\Eff P Γ all o σ v own'/\∀k,(own'.getD k .dead).knd=(σ.own.getD k .dead).knd:=by
 unfold isStore at hm
 split at hm
 ·rename_i t a x hop hdst hg
  have e:∀(K:S->Prop) (σ:S),opg P Γ all o K σ=storew (tyOf P t) σ.own (ev σ.slots a) (ev σ.slots x) (PutE o.dst K σ):=fun K σ=>by
   unfold opg;rw[hg];simp only;unfold opw
   simp only[hop,isV,Bool.false_eq_true,if_false,eop]
  have h':=h
  rw[e]at h
  unfold storew at h
  split at h
  ·rename_i τ o' i j hτ ha
   obtain⟨obj',h1,h2,hk⟩:=storeObj_det2 h
   refine⟨.top,σ.own.set o' obj',h1,fun K' σ' ho hx hK'=>?_,fun k=>?_⟩
   ·rw[e,hx a (by rw[hop];simp[Op.operands]),hx x (by rw[hop];simp[Op.operands]),ho,ha,hτ]
    exact h2 (fun obj=>PutE o.dst K' σ' .top (σ.own.set o' obj) []) (by rw[← ho]at hK' ⊢;exact hK')
   ·simp only[List.getD_eq_getElem?_getD,List.getElem?_set]
    by_cases ek:o'=k
    ·subst ek
     rw[if_pos rfl]
     split
     ·rw[Option.getD_some]
      simpa [List.getD_eq_getElem?_getD] using hk
     ·rename_i hge
      rw[List.getElem?_eq_none (by omega)]
    ·rw[if_neg ek]
  ·exact h.elim
 ·cases hm
theorem knd_row{a:Obj}{ag:Option Nat}{xs:List D}(h:a.knd=(Obj.row ag xs).knd):∃ys,a=.row ag ys:=by
 cases a <;> simp only[Obj.knd,Prod.mk.injEq,true_and]at h
 ·subst h;exact⟨_,rfl⟩
 all_goals (exact absurd h.1 (by decide))
theorem knd_vec{a:Obj}{xs:List AV}(h:a.knd=(Obj.vec xs).knd):∃ys,a=.vec ys:=by
 cases a <;> simp only[Obj.knd,Prod.mk.injEq,and_true]at h
 all_goals first|exact⟨_,rfl⟩|exact absurd h (by decide)|exact absurd h.1 (by decide)
theorem knd_tab{a:Obj}{k:Nat}{xs:List AV}(h:a.knd=(Obj.tab k xs).knd):∃ys,a=.tab k ys:=by
 cases a <;> simp only[Obj.knd,Prod.mk.injEq,true_and,and_true]at h
 all_goals first|(simp only[Option.some.injEq]at h;subst h;exact⟨_,rfl⟩)|exact absurd h.1 (by decide)|exact absurd h (by decide)
theorem knd_box{a:Obj}{xs:List AV}(h:a.knd=(Obj.box xs).knd):∃ys,a=.box ys:=by
 cases a <;> simp only[Obj.knd,Prod.mk.injEq,and_true]at h
 all_goals first|exact⟨_,rfl⟩|exact absurd h (by decide)|exact absurd h.1 (by decide)
theorem idxw_own{τ:Option Ty}{x i:AV}{own own':List Obj}(hk:∀k,(own'.getD k .dead).knd=(own.getD k .dead).knd){k:AV->Prop}(h:idxAddrw P τ own x i k):idxAddrw P τ own' x i k:=by
 unfold idxAddrw at h
 split at h
 ·rename_i τ o off len kk n
  rw[idxAddrw_sl]
  split at h
  ·rename_i e he
   rw[he]
   simp only
   split at h
   ·rename_i τe hτ
    rw[hτ]
    obtain⟨h1,h2,h3,h4⟩:=h
    refine⟨h1,h2,?_,h4⟩
    rcases h3 with⟨ag,xs,h3,h5⟩|⟨cs,h3,h5⟩|⟨k9,cs,h3,h5⟩
    ·have hh:=hk o
     rw[h3]at hh
     obtain⟨ys,hy⟩:=knd_row hh
     exact .inl ⟨ag,ys,hy,h5⟩
    ·have hh:=hk o
     rw[h3]at hh
     obtain⟨ys,hy⟩:=knd_vec hh
     exact .inr (.inl ⟨ys,hy,h5⟩)
    ·have hh:=hk o
     rw[h3]at hh
     obtain⟨ys,hy⟩:=knd_tab hh
     exact .inr (.inr ⟨_,ys,hy,h5⟩)
   ·exact h.elim
  ·exact h.elim
 ·rw[idxAddrw_dat];exact h
 ·rename_i τ o i0 j kk n
  unfold idxAddrw
  simp only
  split at h
  ·rename_i m e he
   split at h
   ·rename_i τe hτ
    obtain⟨h1,h2,h3⟩:=h
    refine⟨h1,h2,?_⟩
    split at h3
    ·rename_i xs hobj
     have hh:=hk o
     rw[hobj]at hh
     obtain⟨ys,hy⟩:=knd_row hh
     rw[hy];exact h3
    ·rename_i q xs hobj
     have hh:=hk o
     rw[hobj]at hh
     obtain⟨ys,hy⟩:=knd_row hh
     rw[hy];exact h3
    ·rename_i xs hobj
     have hh:=hk o
     rw[hobj]at hh
     obtain⟨ys,hy⟩:=knd_box hh
     rw[hy];exact h3
    ·exact h3.elim
   ·exact h.elim
  ·exact h.elim
 ·rw[idxAddrw_rptr];exact h
 ·exact h.elim
theorem idx_own{pf:List Nat}{all:Array Oper}{o:Oper}(hm:isIdx o=true){s:List AV}{own own':List Obj}(hk:∀k,(own'.getD k .dead).knd=(own.getD k .dead).knd){k:AV->Prop}(h:vG P Γ pf all o s own k):vG P Γ pf all o s own' k:=by
 unfold isIdx at hm
 split at hm
 ·rename_i t x i hop hg
  unfold vG vB at h ⊢
  rw[hg]at h ⊢
  simp only[hop,isV,if_true,vop]at h ⊢
  exact idxw_own hk h
 ·cases hm
theorem swapsV{pf mf:List Nat}{ms ks:List (Nat×List Nat)}(hpf:PureFns Γ pf)(hmf:MakeFns Γ mf){ops:Array Oper}:SwapsZ P Γ ops (cY ops ms ks) (swV pf mf ms ks ops):=by
 intro p i op oi hop hi hsw
 unfold swV at hsw
 rw[Bool.or_eq_true]at hsw
 rcases hsw with hsw|hsw
 ·exact swapsY hpf hmf p i op oi hop hi hsw
 rw[hi,hop]at hsw
 simp only[Bool.and_eq_true,Bool.or_eq_true]at hsw
 obtain⟨hap,hk⟩:=hsw
 have hv:vlike pf op=true:=by
  rcases hk with hk|hk
  ·simp[vlike,far_v hk.1]
  ·simp[vlike,idx_v hk.1]
 refine⟨fun K K' σ h hh=>chain_mono hpf hv h hh,fun K σ h=>?_⟩
 have eO:∀(q:Nat) (o:Oper) (K:S->Prop),ops[q]?=some o->opz P Γ ops (cY ops ms ks) q o K=fun σ=>(cMs ms q o σ.slots/\cKs ks q o σ.slots)/\opg P Γ ops o K σ:=fun q o K hq=>by
  funext σ;unfold opz;rw[cY_some hq]
 rw[eO i oi _ hi,eO p op _ hop]
 rw[eO i oi _ hi,eO p op _ hop]at h
 have hC:∀(q:Nat) (o:Oper) (s s':List AV),(∀x∈o.op.operands.toList,ev s' x=ev s x)->(cMs ms q o s/\cKs ks q o s)->(cMs ms q o s'/\cKs ks q o s'):=fun q o s s' hx hc=>⟨cMs_mono (fun k hh=>condML_congr hx hh) hc.1,cKs_mono (fun k hh=>condXL_congr hx hh) hc.2⟩
 refine swapG hpf hv hap (hC p op) (hC i oi) (fun K σ' ho cp ci hh=>?_) h
 rcases hk with hk|hk
 ·obtain⟨v,own',g1,g2⟩:=eff_det hk.2 hh
  exact⟨v,own',[],id,g1,g2,fun s d u=>rfl,cp,fun vp hg=>far_own hk.1 hg⟩
 ·obtain⟨v,own',g1,g2,g3⟩:=store_knd hk.2 hh
  exact⟨v,own',[],id,g1,g2,fun s d u=>rfl,cp,fun vp hg=>idx_own hk.1 (fun k=>by rw[g3 k,ho]) hg⟩
end
end Go.AM
namespace Go.AM
open Go
def tw(ops:Array Oper)(L:List Nat):Nat->Nat->Nat->Bool
 | 0,i,p=>Region.waitsFor .any ops i p
 | n+1,i,p=>Region.waitsFor .any ops i p || L.any fun j=>Region.waitsFor .any ops i j && tw ops L n j p
theorem tw_ready{ops:Array Oper}{L:List Nat}{p i:Nat}:∀n,(∀q∈p :: L,Region.waitsFor .any ops i q=false)->tw ops L n i p=false
 | 0,h=>h p (by simp)
 | n+1,h=>by
  unfold tw
  rw[h p (by simp),Bool.false_or,List.any_eq_false]
  intro j hj
  rw[h j (by simp[hj])];simp
theorem tw_del{ops:Array Oper}{L L':List Nat}{p i:Nat}(hw:∀q∈p :: L,Region.waitsFor .any ops i q=false)(hL:∀j,j∈L'↔j∈L/\j≠i):∀n k,tw ops L n k p=true->k≠i->tw ops L' n k p=true
 | 0,k,h,_=>h
 | n+1,k,h,hk=>by
  unfold tw at h ⊢
  rcases Bool.or_eq_true_iff.1 h with h|h
  ·rw[h];rfl
  ·obtain⟨j,hj,hjj⟩:=List.any_eq_true.1 h
   rw[Bool.and_eq_true]at hjj
   have hne:j≠i:=by
    rintro rfl
    rw[tw_ready n hw]at hjj
    exact absurd hjj.2 (by decide)
   refine Bool.or_eq_true_iff.2 (.inr (List.any_eq_true.2 ⟨j,(hL j).2 ⟨hj,hne⟩,?_⟩))
   rw[hjj.1,tw_del hw hL n j hjj.2 hne];rfl
def okW(sw:Nat->Nat->Bool)(ops:Array Oper):DT->Option (List Nat)->Bool
 | .fin,none=>true
 | .stop,some _=>true
 | .one p t,none=>(t.ops.all fun i=>tw ops t.ops 4 i p || sw p i) && okW sw ops t none
 | .alt x t u,none=>okW sw ops t none && okW sw ops u (some (x :: t.ops)) && ((x :: t.ops).all fun i=>(x :: u.heads).contains i || (x :: t.ops).any fun j=>Region.waitsFor .any ops i j)
 | .alt x t u,some R=>okW sw ops t none && sameSet R (x :: t.ops) && okW sw ops u (some R)
 | _,_=>false
section
variable {P:Program} {Γ:Nat->Contract}
theorem bubW_total{sw:Nat->Nat->Bool}{ops:Array Oper}{i:Nat}:∀(T:DT),
  (okW sw ops T none=true->T.ops.Nodup->i∈T.ops->(∀p∈T.ops,Region.waitsFor .any ops i p=false)->∃T',bubZ sw i T=some T'/\okW sw ops T' none=true/\(∀j,j∈T'.ops↔j∈T.ops/\j≠i)/\T'.ops.length+1=T.ops.length/\T'.ops.Nodup) /\
  (∀R,okW sw ops T (some R)=true->i∈T.heads->∃T',bubZ sw i T=some T'/\okW sw ops T' none=true/\(∀j,j∈T'.ops↔j∈R/\j≠i)/\T'.ops.length+1=R.length/\T'.ops.Nodup)
 | .fin=>⟨fun _ _ h=>by simp[DT.ops]at h,fun R h=>by simp[okW]at h⟩
 | .stop=>⟨fun h=>by simp[okW]at h,fun R _ h=>by simp[DT.heads]at h⟩
 | .one p t=>by
  refine⟨fun h hn hm hw=>?_,fun R h=>by simp[okW]at h⟩
  simp only[okW,Bool.and_eq_true]at h
  simp only[DT.ops]at hn hm hw
  obtain⟨n1,n2⟩:=List.nodup_cons.1 hn
  by_cases e:p=i
  ·subst e
   refine⟨t,by simp[bubZ],h.2,fun j=>?_,by simp[DT.ops],n2⟩
   simp only[DT.ops,List.mem_cons]
   constructor
   ·intro hj;exact⟨.inr hj,fun ej=>n1 (ej ▸ hj)⟩
   ·rintro ⟨hj|hj,hne⟩
    ·exact(hne hj).elim
    ·exact hj
  ·have hmt:i∈t.ops:=by
    rcases List.mem_cons.1 hm with h1|h1
    ·exact(e h1.symm).elim
    ·exact h1
   obtain⟨T',b1,b2,b3,b4,b5⟩:=(bubW_total (i:=i) t).1 h.2 n2 hmt (fun q hq=>hw q (by simp[hq]))
   have hno:∀n,tw ops t.ops n i p=false:=fun n=>tw_ready n fun q hq=>hw q hq
   have hsw:sw p i=true:=by
    have:=List.all_eq_true.1 h.1 i hmt
    rw[hno]at this
    simpa using this
   refine⟨.one p T',by simp[bubZ,e,hsw,b1],?_,fun j=>?_,by simp only[DT.ops,List.length_cons];omega,?_⟩
   ·simp only[okW,Bool.and_eq_true]
    refine⟨List.all_eq_true.2 fun j hj=>?_,b2⟩
    have hj':=(b3 j).1 hj
    have:=List.all_eq_true.1 h.1 j hj'.1
    rcases Bool.or_eq_true_iff.1 this with h4|h4
    ·rw[tw_del (fun q hq=>hw q hq) b3 _ j h4 hj'.2];rfl
    ·rw[h4];simp
   ·simp only[DT.ops,List.mem_cons,b3]
    constructor
    ·rintro (rfl|⟨h1,h2⟩)
     ·exact⟨.inl rfl,e⟩
     ·exact⟨.inr h1,h2⟩
    ·rintro ⟨h1|h1,h2⟩
     ·exact .inl h1
     ·exact .inr ⟨h1,h2⟩
   ·exact List.nodup_cons.2 ⟨fun hp=>n1 ((b3 p).1 hp).1,b5⟩
 | .alt x t u=>by
  refine⟨fun h hn hm hw=>?_,fun R h hm=>?_⟩
  ·simp only[okW,Bool.and_eq_true]at h
   obtain⟨⟨h1,h2⟩,h3⟩:=h
   simp only[DT.ops]at hn hm hw
   obtain⟨n1,n2⟩:=List.nodup_cons.1 hn
   have hhead:i∈x :: u.heads:=by
    have:=List.all_eq_true.1 h3 i hm
    rcases Bool.or_eq_true_iff.1 this with h4|h4
    ·simpa using h4
    ·obtain⟨j,hj,hwj⟩:=List.any_eq_true.1 h4
     rw[hw j hj]at hwj
     cases hwj
   by_cases e:x=i
   ·subst e
    refine⟨t,by simp[bubZ],h1,fun j=>?_,by simp[DT.ops],n2⟩
    simp only[DT.ops,List.mem_cons]
    constructor
    ·intro hj;exact⟨.inr hj,fun ej=>n1 (ej ▸ hj)⟩
    ·rintro ⟨hj|hj,hne⟩
     ·exact(hne hj).elim
     ·exact hj
   ·have hu:i∈u.heads:=by
     rcases List.mem_cons.1 hhead with h4|h4
     ·exact(e h4.symm).elim
     ·exact h4
    obtain⟨T',b1,b2,b3,b4,b5⟩:=(bubW_total (i:=i) u).2 (x :: t.ops) h2 hu
    exact⟨T',by simp[bubZ,e,b1],b2,fun j=>by simp only[DT.ops];exact b3 j,by simpa only[DT.ops] using b4,b5⟩
  ·simp only[okW,Bool.and_eq_true]at h
   obtain⟨⟨h1,h2⟩,h3⟩:=h
   obtain⟨s1,s2,s3⟩:=sameSet_spec h2
   obtain⟨n1,n2⟩:=List.nodup_cons.1 s3
   by_cases e:x=i
   ·subst e
    refine⟨t,by simp[bubZ],h1,fun j=>?_,by simpa using s1.symm,n2⟩
    rw[s2 j]
    simp only[List.mem_cons]
    constructor
    ·intro hj;exact⟨.inr hj,fun ej=>n1 (ej ▸ hj)⟩
    ·rintro ⟨hj|hj,hne⟩
     ·exact(hne hj).elim
     ·exact hj
   ·have hu:i∈u.heads:=by
     rcases List.mem_cons.1 (show i∈x :: u.heads from hm) with h4|h4
     ·exact(e h4.symm).elim
     ·exact h4
    obtain⟨T',b1,b2,b3,b4,b5⟩:=(bubW_total (i:=i) u).2 R h3 hu
    exact⟨T',by simp[bubZ,e,b1],b2,b3,b4,b5⟩
theorem okW_fin{sw:Nat->Nat->Bool}{ops:Array Oper}{T:DT}(h:okW sw ops T none=true)(he:T.ops=[]):T=.fin:=by
 cases T with
 | fin=>rfl
 | stop=>simp[okW]at h
 | one p t=>simp[DT.ops]at he
 | alt x t u=>simp[DT.ops]at he
theorem wpAny_of_W{sw:Nat->Nat->Bool}{C:Nat->List AV->Prop}{ops:Array Oper}(hΓ:OkG P Γ)(hS:SwapsZ P Γ ops C sw){Q:Exit->S->Prop}(hback:backOk ops=true)(hedges:edgesOk ops=true){c:Ctx}:∀(fuel:Nat) (T:DT) (listed:Array Bool) (σ:S) (a:Act) (w:World),listed.size=ops.size ->
  okW sw ops T none=true->T.ops.Nodup->(∀i,i<ops.size->(listed.getD i true=false↔i∈T.ops))->(∀i∈T.ops,i<ops.size)->T.ops.length<=fuel->St c σ a w->chZ P Γ ops C Q T σ->wpAnyIn (fen c.rd) 0 P .any ops (lift c Q) fuel listed a w:=by
 intro fuel
 induction fuel with
 | zero =>
  intro T listed σ a w hsz hok hnd hset hlt hf hst hch
  have he:T.ops=[]:=List.eq_nil_of_length_eq_zero (by omega)
  obtain rfl:=okW_fin hok he
  refine⟨?_,lift_mk hst hch⟩
  rw[List.eq_nil_iff_forall_not_mem]
  intro i hi
  obtain⟨g1,o,g2,_⟩:=mem_ready.1 hi
  have hi':i<ops.size:=(Array.getElem?_eq_some_iff.1 g2).1
  have:=(hset i hi').1 g1
  rw[he]at this
  cases this
 | succ fuel ih =>
  intro T listed σ a w hsz hok hnd hset hlt hf hst hch
  refine⟨fun hr=>?_,fun i hi=>?_⟩
  ·have he:T.ops=[]:=by
    rw[List.eq_nil_iff_forall_not_mem]
    intro i hi
    have h1:=ready_nil hback hedges hsz hr i (hlt i hi)
    rw[(hset i (hlt i hi)).2 hi]at h1
    cases h1
   obtain rfl:=okW_fin hok he
   exact lift_mk hst hch
  ·obtain⟨g1,o,g2,g3⟩:=mem_ready.1 hi
   have hi':i<ops.size:=(Array.getElem?_eq_some_iff.1 g2).1
   have him:=(hset i hi').1 g1
   obtain⟨T',b1,b2,b3,b4,b5⟩:=(bubW_total (i:=i) T).1 hok hnd him (fun p hp=>not_waits g2 g3 ((hset p (hlt p hp)).2 hp))
   have hb:=bubZ_ok hS g2 T T' σ b1 hch
   have hset':∀j,j<ops.size->((listed.setIfInBounds i true).getD j true=false↔j∈T'.ops):=fun j hj=>by
    rw[b3 j]
    by_cases e:i=j
    ·subst e
     simp[hsz,hi']
    ·have e':j≠i:=fun h=>e h.symm
     have h1:(listed.setIfInBounds i true).getD j true=listed.getD j true:=by simp[Array.getElem?_setIfInBounds_ne e]
     rw[h1,hset j hj]
     simp[e']
   have hlt':∀j∈T'.ops,j<ops.size:=fun j hj=>hlt j ((b3 j).1 hj).1
   unfold wpOpIn
   simp only[g2]
   rcases opg_sound hΓ (Q:=lift c Q) hst hb.2 with⟨hw,hwp⟩|⟨hw,σ',hst',hK⟩
   ·rw[if_pos hw]
    refine Oper.wpIn_mono ?_ hwp
    rintro a' w' ⟨σ',hst',hK⟩
    exact ih T' _ σ' a' w' (by simp[hsz]) b2 b5 hset' hlt' (by omega) hst' hK
   ·rw[if_neg (by simp[hw])]
    exact⟨fun _ _=>trivial,ih T' _ σ' _ w (by simp[hsz]) b2 b5 hset' hlt' (by omega) hst' hK⟩
def drawOkW(sw:Nat->Nat->Bool)(ops:Array Oper)(T:DT):Bool:=okW sw ops T none && backOk ops && edgesOk ops && allOf ops.size T.ops && nodupB T.ops
theorem sem_drawW{sw:Nat->Nat->Bool}{C:Nat->List AV->Prop}(hm:P.follows .mixedOrders=true)(hΓ:OkG P Γ){id:Nat}{ops:Array Oper}(hS:SwapsZ P Γ ops C sw){Q:Exit->S->Prop}{σ:S}(T:DT)(hok:drawOkW sw ops T=true)
  (h:chZ P Γ ops C Q T σ):sem P (.region id ops true) Q σ:=by
 intro c a w hst
 refine wpIn_region_any hm ?_
 have hst':St c σ a { w with drawn:=w.drawn+1 }:=by
  obtain⟨hd,hn,F,φ,h2,h3,h4⟩:=hst
  refine⟨hd,hn,F,φ,⟨h2.sub,⟨h2.ext.os,h2.ext.tape,h2.ext.output,h2.ext.size,h2.ext.same,Nat.le_trans h2.ext.drn (Nat.le_succ _)⟩,h2.keep,h2.rest,h2.orig,h2.frsh⟩,h3.drew,?_⟩
  exact AV.Rs_mono (fun _ h=>h) same_drew (fun _ _ h=>h) _ _ h4
 simp only[drawOkW,Bool.and_eq_true]at hok
 obtain⟨⟨⟨⟨h1,h2⟩,h3⟩,h4⟩,h5⟩:=hok
 simp only[allOf,Bool.and_eq_true,List.all_eq_true,List.mem_range,List.contains_eq_mem,decide_eq_true_eq]at h4
 obtain⟨⟨m1,m2⟩,m3⟩:=h4
 refine wpAny_of_W hΓ hS h2 h3 ops.size T _ σ a _ (by simp) h1 (nodup_of h5) (fun i hi=>?_) m3 (by omega) hst' h
 simp[hi,m1 i hi]
theorem sem_drawX{pf mf:List Nat}(ms ks:List (Nat×List Nat))(hm:P.follows .mixedOrders=true)(hΓ:OkG P Γ)(hpf:PureFns Γ pf)(hmf:MakeFns Γ mf){id:Nat}{ops:Array Oper}{Q:Exit->S->Prop}{σ:S}(T:DT)(hok:drawOkW (swV pf mf ms ks ops) ops T=true)
  (h:chZ P Γ ops (cY ops ms ks) Q T σ):sem P (.region id ops true) Q σ:=sem_drawW hm hΓ (swapsV hpf hmf) T hok h
end
section
variable {P:Program} {F:Nat->Prop} {φ:Nat->Option Loc} {w:World}
end
attribute [go_sem] AV.tcells appendTw
@[go_sem] theorem ex_tabO {k n:Nat} {cs:List AV}:(∃k' cs',Obj.tab k cs=Obj.tab k' cs'/\n=k')=(n=k):=by
 apply propext;constructor
 ·rintro ⟨k',cs',h,rfl⟩;cases h;rfl
 ·rintro rfl;exact⟨_,_,rfl,rfl⟩
end Go.AM
namespace Go.AM
open Go
section
variable {P:Program} {Γ:Nat->Contract}
def yieldOp(P:Program)(o:Oper)(K:S->Prop)(σ:S):Prop :=
 match o.guard,o.op with
 | none,.call c=>(match c.callee with
  | .value f=>(match ev σ.slots f with
   | .yld oo=>yieldw P oo (c.args.toList.map (ev σ.slots)) σ.own (PutE o.dst K σ)
   | _=>False)
  | _=>False)
 | _,_=>False
theorem yieldOp_sound{c:Ctx}{all:Array Oper}{o:Oper}{K:S->Prop}{σ:S}{a:Act}{w:World}{Q:Exit->Act->World->Prop}(hst:St c σ a w)(h:yieldOp P o K σ) :
  Region.wanted o (yielded all a.tmps)=true/\o.wpIn (fen c.rd) 0 P a w (fun a' w'=>∃σ',St c σ' a' w'/\K σ') Q:=by
 obtain⟨hd,hn,F,φ,h2,h3,h4⟩:=hst
 obtain⟨dst,op,ty,pos,after,guard⟩:=o
 unfold yieldOp at h
 split at h
 ·rename_i call hg hop
  simp only at hg hop
  subst hg;subst hop
  obtain⟨callee,args,ts⟩:=call
  split at h
  ·rename_i f hcal
   simp only at hcal
   subst hcal
   split at h
   ·rename_i oo hf
    refine⟨by simp[Region.wanted],?_⟩
    obtain⟨r,cs,b,own',mv,hobj,hsz,hround,hK⟩:=h
    have hfR:=ev_R (F:=F) (φ:=φ) (w:=w) h3.glob h4 f
    rw[hf]at hfR
    simp only[AV.R]at hfR
    obtain⟨L,hL,hLn,hfe⟩:=hfR
    have hr0:=getObj_rep h3 hL
    rw[hobj]at hr0
    simp only[ObjR]at hr0
    obtain⟨_,_,arr,_,hheap,_,hcs⟩:=hr0
    have hargs:=Rs_map (F:=F) (φ:=φ) (w:=w) h3.glob h4 args.toList
    have hal:=AV.Rs_length hargs
    have hrd:=hround F φ w _ L arr.toArray h3 hargs hL hheap
    have hrun:(execOp a.eval { dst:=dst,op:=.call { callee:=.value f,args:=args,argTypes:=ts },type:=ty,pos:=pos,after:=after,guard:=none }).run P w=.ok (.round L.b r.fn ((r.params.zip (args.toList.map a.eval).toArray).foldl (fun tmps (t,a)=>tmps.setIfInBounds t a) arr.toArray) r.assign r.body) w:=by
     have e:args.map a.eval=(args.toList.map a.eval).toArray:=by
      apply Array.ext'
      simp
     have hy:=run_yield (P:=P) (w:=w) (args:=(args.toList.map a.eval).toArray) hheap (by rw[List.size_toArray,hsz];simp)
     simp only[execOp,resolve,Deferred.ofValue,hfe,pure_bind,invoke,Array.empty_append,e]
     exact hy
    unfold Oper.wpIn
    refine⟨fun _ _=>trivial,?_⟩
    rw[Oper.semAt_eq _ _ _ (fun d e=>by cases e),hrun,Oper.uponIn_round]
    refine⟨fun h=>Bool.noConfusion (show false=true from h),?_⟩
    have hci:RoundIn (fen c.rd) 0 P L.b r.fn _ r.assign r.body w _:=hrd
    refine hci.mono fun e w' hpost=>?_
    obtain⟨F',φ',rfl,ha⟩:=hpost
    exact⟨_,St.effect hd hn h2 h4 ha (R_bool.2 rfl),hK⟩
   ·exact h.elim
  ·exact h.elim
 ·exact h.elim
def awpOpsY(P:Program)(Γ:Nat->Contract)(all:Array Oper)(Q:Exit->S->Prop):List Oper->S->Prop
 | [],σ=>Q .normal σ
 | o :: os,σ=>yieldOp P o (awpOpsY P Γ all Q os) σ∨opg P Γ all o (awpOpsY P Γ all Q os) σ
end
end Go.AM
namespace Go.AM
open Go
section
variable {P:Program} {Γ:Nat->Contract}
def setPs:List Tmp->List AV->List AV->List AV
 | t :: ts,a :: as,s=>setPs ts as (s.set t a)
 | _,_,s=>s
theorem setPs_R{F:Nat->Prop}{φ:Nat->Option Loc}{w:World}:∀(ts:List Tmp) (as:List AV) (vs:List Value) (s:List AV) (arr:Array Value),AV.Rs F φ w as vs->AV.Rs F φ w s arr.toList ->
  AV.Rs F φ w (setPs ts as s) ((ts.zip vs).foldl (fun tmps (x:Tmp×Value)=>tmps.setIfInBounds x.1 x.2) arr).toList
 | [],as,vs,s,arr,_,h=>by simpa only[setPs,List.zip_nil_left,List.foldl_nil] using h
 | t :: ts,[],vs,s,arr,ha,h=>by
  simp only[AV.Rs]at ha
  subst ha
  simpa only[setPs,List.zip_nil_right,List.foldl_nil] using h
 | t :: ts,a :: as,vs,s,arr,ha,h=>by
  simp only[AV.Rs]at ha
  obtain⟨v,vs',rfl,h1,h2⟩:=ha
  simp only[setPs,List.zip_cons_cons,List.foldl_cons]
  exact setPs_R ts as vs' _ _ h2 (by rw[Array.toList_setIfInBounds];exact AV.Rs_set h t a v h1)
def roundQ(b:Bool)(ownB:List Obj)(mvB:List Nat)(pend:Option Code):Exit->S->Prop:=fun e s =>
 (match e with
  | .normal=>b=true/\pend=none
  | .ret=>b=false/\pend=some .ret
  | .exit i=>b=false/\pend=some (.exit i)
  | .goto t=>b=false/\pend=some (.goto t)
  | _=>False)/\Le ⟨[],s.own,s.n0,s.mv⟩ ⟨[],ownB,s.n0,mvB⟩
theorem run_endR{w:World}{l:Nat}{r:Loop}{pend:Option Code}(h:w.heap[l]?=some (.loop r)) :
  (Instr.endRound l pend).run P w=.ok (.bool pend.isNone) (w.putObj l (.loop { r with state:=if pend.isNone then .ready else .done,pending:=pend })):=run_endRound pend h
theorem round_ok{o:Nat}{r:Loop}{cs args:List AV}{own:List Obj}{b:Bool}{ownB:List Obj}{mvB:List Nat}{pend:Option Code}(hobj:own.getD o .dead=.lp r cs)(hst:r.state=.ready)(hpd:r.pending=none)
  (hol:o<ownB.length)
  (h:sem P r.assign (fun e s=>e=.normal/\s.mv=[]/\sem P r.body (roundQ b ownB mvB pend) s) ⟨setPs r.params.toList (killAll [o] args) (killAll [o] cs),(own.map (Obj.killAll [o])).set o .dead,own.length,[]⟩) :
  RoundW P o r args own b ((ownB.map (Obj.killAll [o])).set o (.lp (if b then r else { r with state:=.done,pending:=pend }) (killAll mvB cs))) mvB:=by
 intro F φ w vs L arr hc hvs ho hheap
 have hrep:=getObj_rep hc ho
 rw[hobj]at hrep
 simp only[ObjR]at hrep
 obtain⟨hLn,hLb,arr',_,hheap',_,hcs⟩:=hrep
 have harr:arr'.toArray=arr:=by
  rw[hheap]at hheap'
  simp only[Option.some.injEq,Obj.loop.injEq,Loop.mk.injEq]at hheap'
  exact hheap'.2.2.2.1.symm
 have hcs0:AV.Rs F φ w cs arr.toList:=by rw[← harr];simpa using hcs
 have hlt:L.b<w.heap.size:=(hc.live o L ho hLn).2
 have holt:o<own.length:=by
  rcases Nat.lt_or_ge o own.length with h|h
  ·exact h
  ·rw[hc.out o h]at ho;cases ho
 let φ0:Nat->Option Loc:=fun i=>if i=o then none else φ i
 have hφ0:∀i L',φ0 i=some L'->i≠o/\φ i=some L':=fun i L' h=>by
  simp only[φ0]at h
  split at h
  ·cases h
  ·rename_i hne;exact⟨hne,h⟩
 have hφk:∀i L',i∉[o]->φ i=some L'->φ0 i=some L':=fun i L' h1 h2=>by
  simp only[φ0]
  rw[if_neg (by simpa using h1)];exact h2
 let c:Ctx:=⟨F,w,φ0,own.length,some L.b,[]⟩
 have third:∀i L',φ i=some L'->L'.nil=false->i≠o->L'.b≠L.b:=fun i L' h1 h2 hne=>hc.inj i o L' L h1 ho h2 hLn hne
 have cok:c.ok:=by
  refine⟨fun l hl=>?_,fun _ h=>(by cases h),List.nodup_nil,fun i L' h1 h2=>(hc.live i L' (hφ0 i L' h1).2 h2).2⟩
  cases hl
  exact⟨⟨hlt,(hc.live o L ho hLn).1,fun i L' h1 h2=>third i L' (hφ0 i L' h1).2 h2 (hφ0 i L' h1).1⟩,_,hheap⟩
 have hc0:Conc F φ0 ((own.map (Obj.killAll [o])).set o .dead) w:=by
  refine⟨hc.fb,fun i L' h1 h2=>hc.live i L' (hφ0 i L' h1).2 h2,fun i j Li Lj h1 h2 n1 n2 hne=>hc.inj i j Li Lj (hφ0 i Li h1).2 (hφ0 j Lj h2).2 n1 n2 hne,fun i obj hi=>?_,fun i hi=>?_,hc.glob⟩
  ·rw[List.getElem?_set]at hi
   by_cases e:o=i
   ·subst e
    simp only[if_true,List.length_map,holt,Option.some.injEq]at hi
    subst hi
    simp only[φ0,if_true,ObjR]
   ·simp only[e,if_false,List.getElem?_map,Option.map_eq_some_iff]at hi
    obtain⟨ob,hob,rfl⟩:=hi
    have e':φ0 i=φ i:=by simp only[φ0];rw[if_neg (fun h=>e h.symm)]
    rw[e']
    exact ObjR_killAll (fun _ h=>h) (Same.refl F w) hφk (fun _ _ _=>rfl) (hc.rep i ob hob)
  ·simp only[List.length_set,List.length_map]at hi
   simp only[φ0]
   split
   ·rfl
   ·exact hc.out i hi
 have hs0:AV.Rs F φ0 w (setPs r.params.toList (killAll [o] args) (killAll [o] cs)) ((r.params.zip vs.toArray).foldl (fun tmps (t,a)=>tmps.setIfInBounds t a) arr).toList:=by
  have h1:=setPs_R (F:=F) (φ:=φ0) (w:=w) r.params.toList (killAll [o] args) vs (killAll [o] cs) arr (killAll_R (fun _ h=>h) (Same.refl F w) [o] hφk hvs) (killAll_R (fun _ h=>h) (Same.refl F w) [o] hφk hcs0)
  have e:(r.params.zip vs.toArray)=(r.params.toList.zip vs).toArray:=by
   apply Array.ext'
   simp
  rw[e,List.foldl_toArray]
  exact h1
 have hst0:St c ⟨setPs r.params.toList (killAll [o] args) (killAll [o] cs),(own.map (Obj.killAll [o])).set o .dead,own.length,[]⟩ { tmps:=(r.params.zip vs.toArray).foldl (fun tmps (t,a)=>tmps.setIfInBounds t a) arr,defers:=[] } w :=
  ⟨⟨rfl,cok⟩,rfl,F,φ0,⟨fun _ h=>h,Ext.refl F w,fun _ _ _ _ h=>h,fun _ _ _=>rfl,fun i L' h1 h2=>.inr ⟨i,L',h1,h2,rfl⟩,fun b hb=>.inl hb⟩,hc0,hs0⟩
 refine roundIn_of_wpIn trivial ?_
 refine wpIn_mono (h c _ w hst0) ?_
 rintro e a₁ w₁ ⟨c1,σ1,hx1,hst1,he,hmv1,hbody⟩
 subst he
 obtain⟨⟨hd1,hok1⟩,hn1,F1,φ1,s1,k1,t1⟩:=hst1
 rw[hmv1]at s1
 have s1c:=hx1.since _ _ _ _ s1
 obtain⟨q1,q2,q3,q4⟩:=s1c.third (cok.rnd _ rfl).1
 have hh1:w₁.heap[L.b]?=some (.loop { r with tmps:=arr }):=q4.trans hheap
 refine⟨_,run_beginRound hh1 hst,?_⟩
 generalize hw2:w₁.putObj L.b (.loop { { r with tmps:=arr } with state:=.busy })=w₂
 have off2:∀b,b≠L.b->w₂.heap[b]?=w₁.heap[b]?:=fun b hb=>by rw[← hw2];exact World.putObj_heap_other hb
 have size2:w₂.heap.size=w₁.heap.size:=by rw[← hw2];exact World.putObj_size
 have same2:Same F1 w₁ w₂:=fun b hb=>off2 b fun e=>q2 (e ▸ hb)
 have hh2:w₂.heap[L.b]?=some (.loop { { r with tmps:=arr } with state:=.busy }):=by rw[← hw2];exact World.putObj_heap_same q1
 have own2:∀i L',φ1 i=some L'->L'.nil=false->w₂.heap[L'.b]?=w₁.heap[L'.b]?:=fun i L' h1 h2=>off2 _ (q3 i L' h1 h2)
 let c2:Ctx:=⟨F1,w₂,φ1,own.length,some L.b,a₁.defers⟩
 have l2:c2.third L.b:=⟨by show L.b<w₂.heap.size;omega,q2,q3⟩
 have cok2:c2.ok:=by
  refine⟨fun l hl=>?_,fun d hd=>?_,?_,fun i L' h1 h2=>(show L'.b<w₂.heap.size from by rw[size2];exact(k1.live i L' h1 h2).2)⟩
  ·cases hl;exact⟨l2,_,hh2⟩
  ·have hd':d∈c1.ds:=by rw[← hd1];exact hd
   obtain⟨b',e1,e2,e3⟩:=hok1.mks d hd'
   obtain⟨z1,z2,z3,z4⟩:=s1.third e2
   have hne:b'≠L.b:=fun e=>by have h9:=hh1;rw[← e,z4,e3]at h9;cases h9
   exact⟨b',e1,⟨by show b'<w₂.heap.size;omega,z2,z3⟩,(off2 b' hne).trans (z4.trans e3)⟩
  ·show a₁.defers.Nodup
   rw[hd1];exact hok1.nod
 have hst2:St c2 σ1 a₁ w₂:=⟨⟨rfl,cok2⟩,hn1.trans hx1.n0,F1,φ1,by rw[hmv1];exact⟨fun _ h=>h,Ext.refl _ _,fun _ _ _ _ h=>h,fun _ _ _=>rfl,fun i L' h1 h2=>.inr ⟨i,L',h1,h2,rfl⟩,fun b hb=>.inl hb⟩,
  k1.beside (by omega) same2 own2,AV.Rs_mono (fun _ h=>h) same2 (fun _ _ h=>h) _ _ t1⟩
 refine wpIn_mono (hbody c2 _ w₂ hst2) ?_
 rintro e a₃ w₃ ⟨c3,σ3,hx3,hst3,he,hle⟩
 have hst3':St c3 ⟨[],σ3.own,σ3.n0,σ3.mv⟩ { tmps:=#[],defers:=a₃.defers } w₃:=by
  obtain⟨hd,hn,F3,φ3,x1,x2,x3⟩:=hst3
  exact⟨hd,hn,F3,φ3,x1,x2,by simp only[AV.Rs]⟩
 obtain⟨⟨hd3,hok3⟩,hn3,F3,φ3,s3,k3,_⟩:=hle c3 _ w₃ hst3'
 simp only at hn3 s3 k3
 have s3c:=hx3.since _ _ _ _ s3
 obtain⟨p1,p2,p3,p4⟩:=s3c.third l2
 have hh3:w₃.heap[L.b]?=some (.loop { { r with tmps:=arr } with state:=.busy }):=p4.trans hh2
 have fin:∀(st:LoopState) (pd:Option Code),∃F' φ',After F φ w F' φ' ((ownB.map (Obj.killAll [o])).set o (.lp { r with state:=st,pending:=pd } (killAll mvB cs))) (w₃.putObj L.b (.loop { { { r with tmps:=arr } with state:=.busy } with state:=st,pending:=pd })) mvB:=by
  intro st pd
  generalize hw4:w₃.putObj L.b (.loop { { { r with tmps:=arr } with state:=.busy } with state:=st,pending:=pd })=w₄
  have off4:∀b,b≠L.b->w₄.heap[b]?=w₃.heap[b]?:=fun b hb=>by rw[← hw4];exact World.putObj_heap_other hb
  have size4:w₄.heap.size=w₃.heap.size:=by rw[← hw4];exact World.putObj_size
  have hh4:w₄.heap[L.b]?=some (.loop { r with tmps:=arr,state:=st,pending:=pd }):=by rw[← hw4];exact World.putObj_heap_same p1
  have same4:Same F3 w₃ w₄:=fun b hb=>off4 b fun e=>p2 (e ▸ hb)
  have os4:w₄.os=w₃.os/\w₄.tape=w₃.tape/\w₄.output=w₃.output:=by rw[← hw4];exact⟨rfl,rfl,rfl⟩
  have dr4:w₃.drawn<=w₄.drawn:=by rw[← hw4];exact Nat.le_refl _
  have dr2:w₁.drawn<=w₂.drawn:=by rw[← hw2];exact Nat.le_refl _
  have os2:w₂.os=w₁.os/\w₂.tape=w₁.tape/\w₂.output=w₁.output:=by rw[← hw2];exact⟨rfl,rfl,rfl⟩
  let φ4:Nat->Option Loc:=fun i=>if i=o then some L else φ3 i
  have hφ4:∀i L',i∉[o]->φ3 i=some L'->φ4 i=some L':=fun i L' h1 h2=>by
   simp only[φ4]
   rw[if_neg (by simpa using h1)];exact h2
  have h04:φ4 o=some L:=by simp only[φ4,if_true]
  have F13:∀b,F1 b->F3 b:=s3c.sub
  have F03:∀b,F b->F3 b:=fun b hb=>F13 b (s1c.sub b hb)
  have same04:Same F w w₄:=fun b hb=>by
   rw[same4 b (F03 b hb),s3c.ext.same b (s1c.sub b hb),same2 b (s1c.sub b hb),s1c.ext.same b hb]
  have size04:w.heap.size<=w₄.heap.size:=by
   have h1:=s1c.ext.size
   have h2:=s3c.ext.size
   have h1':w.heap.size<=w₁.heap.size:=h1
   have h2':w₂.heap.size<=w₃.heap.size:=h2
   omega
  have keep:∀i L',i∉mvB->φ i=some L'->φ4 i=some L':=fun i L' h1 h2=>by
   by_cases e:i=o
   ·subst e;rw[ho]at h2;cases h2;exact h04
   ·have hil:i<own.length:=by
     rcases Nat.lt_or_ge i own.length with h|h
     ·exact h
     ·rw[hc.out i h]at h2;cases h2
    refine hφ4 i L' (by simpa using e) (s3c.keep i L' hil h1 (s1c.keep i L' hil (by simp) (hφk i L' (by simpa using e) h2)))
  have orig3:∀i L',φ3 i=some L'->L'.nil=false->w.heap.size<=L'.b∨∃j Lj,φ j=some Lj/\Lj.nil=false/\Lj.b=L'.b:=fun i L' h1 h2=>by
   rcases s3c.orig i L' h1 h2 with h|⟨j,Lj,g1,g2,g3⟩
   ·have h':w₂.heap.size<=L'.b:=h
    have:w.heap.size<=w₁.heap.size:=s1c.ext.size
    exact .inl (by omega)
   ·rcases s1c.orig j Lj g1 g2 with h|⟨j',Lj',g4,g5,g6⟩
    ·exact .inl (by rw[← g3];exact h)
    ·exact .inr ⟨j',Lj',(hφ0 _ _ g4).2,g5,g6.trans g3⟩
  refine⟨F3,φ4,F03,⟨os4.1.trans (s3c.ext.os.trans (os2.1.trans s1c.ext.os)),os4.2.1.trans (s3c.ext.tape.trans (os2.2.1.trans s1c.ext.tape)),os4.2.2.trans (s3c.ext.output.trans (os2.2.2.trans s1c.ext.output)),size04,same04,Nat.le_trans s1c.ext.drn (Nat.le_trans dr2 (Nat.le_trans s3c.ext.drn dr4))⟩,?_,keep,?_,?_,?_⟩
  ·
   refine⟨fun b hb=>by rw[size4];exact k3.fb b hb,fun i L' h1 h2=>?_,fun i j Li Lj h1 h2 n1 n2 hne=>?_,fun i obj hi=>?_,fun i hi=>?_,k3.glob.mono (fun _ h=>h) same4⟩
   ·simp only[φ4]at h1
    split at h1
    ·cases h1;exact⟨p2,by omega⟩
    ·exact⟨(k3.live i L' h1 h2).1,by rw[size4];exact(k3.live i L' h1 h2).2⟩
   ·simp only[φ4]at h1 h2
    split at h1 <;> split at h2
    ·rename_i e1 e2;exact absurd (e1.trans e2.symm) hne
    ·cases h1;exact fun e=>p3 j Lj h2 n2 e.symm
    ·cases h2;exact p3 i Li h1 n1
    ·exact k3.inj i j Li Lj h1 h2 n1 n2 hne
   ·rw[List.getElem?_set]at hi
    by_cases e:o=i
    ·subst e
     simp only[if_true,List.length_map,hol,Option.some.injEq]at hi
     subst hi
     rw[h04]
     simp only[ObjR]
     refine⟨hLn,hLb,arr.toList,(),?_,trivial,killAll_R (F:=F) (w:=w) F03 same04 mvB keep hcs0⟩
     rw[hh4]
    ·simp only[e,if_false,List.getElem?_map,Option.map_eq_some_iff]at hi
     obtain⟨ob,hob,rfl⟩:=hi
     have e':φ4 i=φ3 i:=by simp only[φ4];rw[if_neg (fun h=>e h.symm)]
     rw[e']
     exact ObjR_killAll (fun _ h=>h) same4 hφ4 (fun L' h1 h2=>off4 _ (p3 i L' h1 h2)) (k3.rep i ob hob)
   ·simp only[List.length_set,List.length_map]at hi
    simp only[φ4]
    rw[if_neg (by omega)]
    exact k3.out i hi
  ·
   intro b hb hall
   have hbl:b≠L.b:=fun e=>hall o L ho hLn e.symm
   have h1:w₁.heap[b]?=w.heap[b]?:=s1c.rest b hb fun i L' g1 g2=>hall i L' (hφ0 i L' g1).2 g2
   have hb2:b<w₂.heap.size:=by
    have:w.heap.size<=w₁.heap.size:=s1c.ext.size
    omega
   have h3:w₃.heap[b]?=w₂.heap[b]?:=s3c.rest b hb2 fun i L' g1 g2 e=>by
    rcases s1c.orig i L' g1 g2 with g|⟨j,Lj,g4,g5,g6⟩
    ·have g':w.heap.size<=L'.b:=g
     omega
    ·exact hall j Lj (hφ0 _ _ g4).2 g5 (g6.trans e)
   rw[off4 b hbl,h3,off2 b hbl,h1]
  ·
   intro i L' h1 h2
   simp only[φ4]at h1
   split at h1
   ·cases h1;exact .inr ⟨o,L,ho,hLn,rfl⟩
   ·exact orig3 i L' h1 h2
  ·
   intro b hb
   rcases s3c.frsh b hb with h|h|⟨i,L',g1,g2,g3⟩
   ·rcases s1c.frsh b h with h|h|⟨i,L',g1,g2,g3⟩
    ·exact .inl h
    ·exact .inr (.inl h)
    ·exact .inr (.inr ⟨i,L',(hφ0 _ _ g1).2,g2,g3⟩)
   ·have h':w₂.heap.size<=b:=h
    have:w.heap.size<=w₁.heap.size:=s1c.ext.size
    exact .inr (.inl (by omega))
   ·rcases s1c.orig i L' g1 g2 with g|⟨j,Lj,g4,g5,g6⟩
    ·exact .inr (.inl (by rw[← g3];exact g))
    ·exact .inr (.inr ⟨j,Lj,(hφ0 _ _ g4).2,g5,g6.trans g3⟩)
 cases e with
 | normal =>
  obtain⟨rfl,rfl⟩:=he
  refine⟨_,_,run_endR hh3,?_⟩
  obtain⟨F',φ',hA⟩:=fin .ready none
  refine⟨F',φ',rfl,?_⟩
  have e:({ r with state:=.ready,pending:=none }:Loop)=r:=by cases r;simp only at hst hpd;subst hst;subst hpd;rfl
  rw[e]at hA
  exact hA
 | ret =>
  obtain⟨rfl,rfl⟩:=he
  obtain⟨F',φ',hA⟩:=fin .done (some .ret)
  exact⟨_,_,run_endR hh3,F',φ',rfl,hA⟩
 | exit i =>
  obtain⟨rfl,rfl⟩:=he
  obtain⟨F',φ',hA⟩:=fin .done (some (.exit i))
  exact⟨_,_,run_endR hh3,F',φ',rfl,hA⟩
 | goto t =>
  obtain⟨rfl,rfl⟩:=he
  obtain⟨F',φ',hA⟩:=fin .done (some (.goto t))
  exact⟨_,_,run_endR hh3,F',φ',rfl,hA⟩
 | _=>exact he.elim
end
end Go.AM
namespace Go.AM
open Go
section
variable {P:Program} {Γ:Nat->Contract}
def newLoop(fn dfr:Nat)(ps:Array Tmp)(assign body:Code):Loop:={ state:=.ready,pending:=none,fn:=fn,tmps:=#[],params:=ps,assign:=assign,body:=body,defers:=dfr }
def jumpQ(Q:Exit->S->Prop):Option Code->S->Prop
 | none,s=>Q .normal s
 | some .ret,s=>Q .ret s
 | some (.exit i),s=>Q (.exit i) s
 | some (.goto t),s=>Q (.goto t) s
 | _,_=>False
def rangeW(Γ:Nat->Contract)(f:Nat)(caps:List AV)(ps:Array Tmp)(assign body:Code)(Q:Exit->S->Prop)(σ:S):Prop :=
 ∀fn dfr,∃v own' mv r' cs',Γ f (.yld σ.own.length :: caps) (σ.own++[.lp (newLoop fn dfr ps assign body) σ.slots]) v own' mv /\
  own'.getD σ.own.length .dead=.lp r' cs'/\r'.state≠.busy/\σ.own.length<own'.length/\σ.own.length∉mv /\
  jumpQ Q r'.pending ⟨killAll (σ.own.length :: mv) σ.slots,(own'.map (Obj.killAll [σ.own.length])).set σ.own.length .dead,σ.n0,addMv σ.n0 σ.mv mv⟩
theorem restart{c:Ctx}{mv:List Nat}{F:Nat->Prop}{φ:Nat->Option Loc}{w:World}{D:Nat}(hs:Since c mv F φ w)(hr:c.rd=none)(hok:c.ok)(hD:D<w.heap.size)(hD0:c.w0.heap.size<=D)(hDF:¬F D)(hDo:∀o L,φ o=some L->L.nil=false->L.b≠D)(hlive:∀o L,φ o=some L->L.nil=false->L.b<w.heap.size)
  (hh:w.heap[D]?=some (.deferred (some []))) :
  ∃c',CExt c c'/\c'.ok/\c'.ds=markD D :: c.ds/\Since c' mv F φ w:=by
 let ψ:Nat->Option Loc:=fun i=>if i<c.n0 then c.φ0 i else φ (i - c.n0)
 have hψ:∀i L,ψ i=some L->(i<c.n0/\c.φ0 i=some L)∨φ (i - c.n0)=some L:=fun i L h=>by
  simp only[ψ]at h
  split at h
  ·rename_i h1;exact .inl ⟨h1,h⟩
  ·exact .inr h
 have hφψ:∀i L,φ i=some L->ψ (i+c.n0)=some L:=fun i L h=>by
  simp only[ψ]
  rw[if_neg (by omega),Nat.add_sub_cancel];exact h
 let c':Ctx:=⟨F,w,ψ,c.n0,none,markD D :: c.ds⟩
 have hsince:Since c' mv F φ w:=⟨fun _ h=>h,Ext.refl _ _,fun o L ho hm h=>by
   have h':ψ o=some L:=h
   simp only[ψ]at h'
   have ho':o<c.n0:=ho
   rw[if_pos ho']at h'
   exact hs.keep o L ho' hm h',fun _ _ _=>rfl,fun o L h hn=>.inr ⟨_,L,hφψ o L h,hn,rfl⟩,fun b h=>.inl h⟩
 have blk:∀i L,ψ i=some L->L.nil=false->L.b≠D:=fun i L h hn=>by
  rcases hψ i L h with⟨_,h1⟩|h1
  ·have:=hok.old i L h1 hn
   omega
  ·exact hDo _ L h1 hn
 have blt:∀i L,ψ i=some L->L.nil=false->L.b<w.heap.size:=fun i L h hn=>by
  rcases hψ i L h with⟨_,h1⟩|h1
  ·exact Nat.lt_of_lt_of_le (hok.old i L h1 hn) hs.ext.size
  ·exact hlive _ L h1 hn
 have third':∀b,c.third b->c'.third b:=fun b hb=>by
  obtain⟨q1,q2,q3,q4⟩:=hs.third hb
  refine⟨q1,q2,fun i L h hn=>?_⟩
  rcases hψ i L h with⟨_,h1⟩|h1
  ·exact hb.2.2 i L h1 hn
  ·exact q3 _ L h1 hn
 have hDds:markD D∉c.ds:=fun hm=>by
  obtain⟨b,e,h1,h2⟩:=hok.mks _ hm
  have e':D=b:=by simpa [markD] using e
  subst e'
  have:=h1.1
  omega
 refine⟨c',⟨hr.symm,rfl,hs.ext.size,fun mv' F' φ' w' h=>?_,fun d hd=>?_⟩,⟨fun l hl=>(by cases hl),fun d hd=>?_,?_,blt⟩,rfl,hsince⟩
 ·refine⟨fun b hb=>h.sub b (hs.sub b hb),hs.ext.trans (h.ext.mono fun b hb=>hs.sub b hb),fun o L ho hm h0=>?_,fun b hb hall=>?_,fun o L' ho hn=>?_,fun b hb=>?_⟩
  ·refine h.keep o L ho hm ?_
   show ψ o=some L
   simp only[ψ]
   rw[if_pos ho];exact h0
  ·have hb2:b<w.heap.size:=Nat.lt_of_lt_of_le hb hs.ext.size
   rw[h.rest b hb2 (fun i L h1 hn e=>?_)]
   ·exact hs.rest b hb hall
   ·rcases hψ i L h1 with⟨_,h2⟩|h2
    ·exact hall i L h2 hn e
    ·rcases hs.orig _ L h2 hn with h3|⟨o',L',g1,g2,g3⟩
     ·omega
     ·exact hall o' L' g1 g2 (g3.trans e)
  ·rcases h.orig o L' ho hn with h1|⟨i,L,h1,h2,h3⟩
   ·exact .inl (Nat.le_trans hs.ext.size h1)
   ·rcases hψ i L h1 with⟨_,h4⟩|h4
    ·exact .inr ⟨i,L,h4,h2,h3⟩
    ·rcases hs.orig _ L h4 h2 with h5|⟨o',L2,g1,g2,g3⟩
     ·exact .inl (by rw[← h3];exact h5)
     ·exact .inr ⟨o',L2,g1,g2,g3.trans h3⟩
  ·rcases h.frsh b hb with h1|h1|⟨i,L,h1,h2,h3⟩
   ·exact hs.frsh b h1
   ·exact .inr (.inl (Nat.le_trans hs.ext.size h1))
   ·rcases hψ i L h1 with⟨_,h4⟩|h4
    ·exact .inr (.inr ⟨i,L,h4,h2,h3⟩)
    ·rcases hs.orig _ L h4 h2 with h5|⟨o',L2,g1,g2,g3⟩
     ·exact .inr (.inl (by rw[← h3];exact h5))
     ·exact .inr (.inr ⟨o',L2,g1,g2,g3.trans h3⟩)
 ·rcases List.mem_cons.1 hd with rfl|hd
  ·exact .inr ⟨D,rfl,hD0⟩
  ·exact .inl hd
 ·rcases List.mem_cons.1 hd with rfl|hd
  ·exact⟨D,rfl,⟨hD,hDF,blk⟩,hh⟩
  ·obtain⟨b,e,h1,h2⟩:=hok.mks d hd
   exact⟨b,e,third' b h1,(hs.third h1).2.2.2.trans h2⟩
 ·exact List.nodup_cons.2 ⟨hDds,hok.nod⟩
theorem enter_ok{c:Ctx}{mv:List Nat}{F:Nat->Prop}{φ:Nat->Option Loc}{w:World}(hs:Since c mv F φ w)(hok:c.ok)(fn:Nat)(tmps:Array Value)(ps:Array Tmp)(assign body:Code) :
  ∃l mark w₁ dfr,(Instr.enterLoop fn tmps ps assign body c.rd).run P w=.ok (l,mark) w₁/\w.heap.size<=l/\l<w₁.heap.size/\w₁.heap[l]?=some (.loop { newLoop fn dfr ps assign body with tmps:=tmps }) /\
   (∀b,b<w.heap.size->w₁.heap[b]?=w.heap[b]?)/\w.heap.size<=w₁.heap.size/\w₁.os=w.os/\w₁.tape=w.tape/\(w₁.output=w.output/\w.drawn<=w₁.drawn) /\
   ((c.rd≠none/\mark=[])∨(c.rd=none/\∃D,mark=[markD D]/\w.heap.size<=D/\D<w₁.heap.size/\D≠l/\w₁.heap[D]?=some (.deferred (some [])))):=by
 cases hr:c.rd with
 | some l0 =>
  obtain⟨h1,r0,h2⟩:=hok.rnd l0 hr
  have hh:w.heap[l0]?=some (.loop r0):=(hs.third h1).2.2.2.trans h2
  refine⟨w.heap.size,[],_,r0.defers,run_enterLoop_inner hh fn tmps ps assign body,Nat.le_refl _,by rw[World.size_alloc];omega,World.alloc_heap_new w _,fun b hb=>heap_alloc_old w _ hb,by rw[World.size_alloc];omega,rfl,rfl,⟨rfl,Nat.le_refl _⟩,.inl ⟨by simp,rfl⟩⟩
 | none =>
  refine⟨w.heap.size+1,[markD w.heap.size],_,w.heap.size,run_enterLoop_outer fn tmps ps assign body,by omega,by rw[World.size_alloc,World.size_alloc];omega,?_,fun b hb=>?_,by rw[World.size_alloc,World.size_alloc];omega,rfl,rfl,⟨rfl,Nat.le_refl _⟩,
   .inr ⟨rfl,w.heap.size,rfl,Nat.le_refl _,by rw[World.size_alloc,World.size_alloc];omega,by omega,?_⟩⟩
  ·have:=World.alloc_heap_new (w.alloc (.deferred (some []))) (.loop { newLoop fn w.heap.size ps assign body with tmps:=tmps })
   rwa [World.size_alloc]at this
  ·rw[heap_alloc_old _ _ (by rw[World.size_alloc];omega),heap_alloc_old w _ hb]
  ·rw[heap_alloc_old _ _ (by rw[World.size_alloc];omega)]
   exact World.alloc_heap_new w _
theorem sem_range(hΓ:OkG P Γ){g:Operand}{ps:Array Tmp}{assign body:Code}{Q:Exit->S->Prop}{σ:S}{f:Nat}{caps:List AV}(hg:ev σ.slots g=.fn f caps)(h:rangeW Γ f caps ps assign body Q σ) :
  sem P (.rangeFunc g ps assign body) Q σ:=by
 intro c a w hst
 obtain⟨⟨hd,hok⟩,hn,F,φ,h2,h3,h4⟩:=hst
 refine wpIn_rangeFunc ?_
 intro fn _
 have hgR:=ev_R (F:=F) (φ:=φ) (w:=w) h3.glob h4 g
 rw[hg]at hgR
 simp only[AV.R]at hgR
 obtain⟨carr,hfe,hcaps⟩:=hgR
 obtain⟨l,mark,w₁,dfr,henter,hl1,hl2,hl3,hold,hsz,hos1,htp1,hou1,hmark⟩:=enter_ok (P:=P) h2 hok fn a.tmps ps assign body
 obtain⟨v,own',mv,r',cs',hΓg,hobj',hbusy,hlen,hnmv,hQ⟩:=h fn dfr
 obtain⟨⟨fnd,bd,hfn,hbody,hname⟩,hcalls⟩:=hΓ f _ _ _ _ _ hΓg
 let L:Loc:=⟨false,l,0,0,0⟩
 have hF1:Same F w w₁:=fun b hb=>hold b (h3.fb b hb)
 have hconc1:Conc F (ext φ σ.own.length L) (σ.own++[.lp (newLoop fn dfr ps assign body) σ.slots]) w₁:=by
  refine h3.new hsz hold (fun _=>⟨hl1,hl2⟩) ?_
  simp only[ObjR]
  refine⟨rfl,rfl,a.tmps.toList,(),?_,trivial,AV.Rs_mono (fun _ h=>h) hF1 (ext_old h3 L) _ _ h4⟩
  simpa using hl3
 have hoL:ext φ σ.own.length L σ.own.length=some L:=ext_self _ _ _
 have hargs:AV.Rs F (ext φ σ.own.length L) w₁ (.yld σ.own.length :: caps) (.func (.yield l) #[] #[] :: carr):=by
  simp only[AV.Rs,AV.R]
  exact⟨_,_,rfl,⟨L,hoL,rfl,rfl⟩,AV.Rs_mono (fun _ h=>h) hF1 (ext_old h3 L) _ _ hcaps⟩
 have hc':=hcalls F _ w₁ _ hconc1 hargs
 have hbn:fnd.body.isNone=false:=by rw[hbody];rfl
 have hnm : (fnd.name == "runtime.NumGoroutine") = false := by simpa using hname
 have hout:φ σ.own.length=none:=h3.out _ (Nat.le_refl _)
 refine⟨l,mark,w₁,{ target:=.fn (.func f) carr.toArray,args:=#[.func (.yield l) #[] #[]] },w₁,f,(.func (.yield l) #[] #[] :: carr).toArray,w₁,henter,?_,fun _ _=>trivial,?_,fun h=>Bool.noConfusion (show false=true from h),?_⟩
 ·have hy:a.eval (.const (.func (.yield l) #[] #[]))=.func (.yield l) #[] #[]:=rfl
  simp only[resolve,Deferred.ofValue,hfe,Sem.run_pure,List.map_toArray,List.map_cons,List.map_nil,hy,Array.empty_append]
 ·have e:(#[.func (.yield l) #[] #[]]++carr.toArray:Array Value)=(.func (.yield l) #[] #[] :: carr).toArray:=by simp
  simp only[invoke,callFunc,Sem.run_bind,run_program,Result.andThen_ok,hfn,hnm,hbn,Bool.false_eq_true,if_false,Sem.run_pure,e]
 ·have hci:CallsIn (fen c.rd) (0 - 1) P f (.func (.yield l) #[] #[] :: carr).toArray w₁ _:=(callsIn_wide (n:=0)).2 hc'
  refine hci.mono ?_
  rintro e w' ⟨rv,F',φ',rfl,ha,hv⟩
  have hφo:φ' σ.own.length=some L:=ha.keep _ L hnmv hoL
  have hrep:=getObj_rep ha.conc hφo
  rw[hobj']at hrep
  simp only[ObjR]at hrep
  obtain⟨_,_,arr',_,hh',_,_⟩:=hrep
  refine⟨r'.pending,_,run_endLoop (r:={ r' with tmps:=arr'.toArray }) hh' hbusy,?_⟩
  generalize hw4:w'.putObj l (.loop { { r' with tmps:=arr'.toArray } with state:=.exhausted })=w₄
  have off4:∀b,b≠l->w₄.heap[b]?=w'.heap[b]?:=fun b hb=>by rw[← hw4];exact World.putObj_heap_other hb
  have size4:w₄.heap.size=w'.heap.size:=by rw[← hw4];exact World.putObj_size
  have dr4:w'.drawn<=w₄.drawn:=by rw[← hw4];exact Nat.le_refl _
  have os4:w₄.os=w'.os/\w₄.tape=w'.tape/\w₄.output=w'.output:=by rw[← hw4];exact⟨rfl,rfl,rfl⟩
  have hlF:¬F' l:=(ha.conc.live _ L hφo rfl).1
  have same4:Same F' w' w₄:=fun b hb=>off4 b fun e=>hlF (e ▸ hb)
  have inj4:∀i L',φ' i=some L'->L'.nil=false->i≠σ.own.length->L'.b≠l:=fun i L' h1 h2 hne=>ha.conc.inj i _ L' L h1 hφo h2 rfl hne
  let φ4:Nat->Option Loc:=fun i=>if i=σ.own.length then none else φ' i
  have hφ4:∀i L',φ4 i=some L'->i≠σ.own.length/\φ' i=some L':=fun i L' h=>by
   simp only[φ4]at h
   split at h
   ·cases h
   ·rename_i hne;exact⟨hne,h⟩
  have hφk:∀i L',i∉[σ.own.length]->φ' i=some L'->φ4 i=some L':=fun i L' h1 h2=>by
   simp only[φ4]
   rw[if_neg (by simpa using h1)];exact h2
  have hblk1:∀i L',ext φ σ.own.length L i=some L'->L'.nil=false->L'.b=l∨(∃j Lj,φ j=some Lj/\Lj.nil=false/\Lj.b=L'.b):=fun i L' h1 h2=>by
   unfold ext at h1
   split at h1
   ·cases h1;exact .inl rfl
   ·exact .inr ⟨i,L',h1,h2,rfl⟩
  have hconc4:Conc F' φ4 ((own'.map (Obj.killAll [σ.own.length])).set σ.own.length .dead) w₄:=by
   refine⟨fun b hb=>by rw[size4];exact ha.conc.fb b hb,fun i L' h1 h2=>⟨(ha.conc.live i L' (hφ4 i L' h1).2 h2).1,by rw[size4];exact(ha.conc.live i L' (hφ4 i L' h1).2 h2).2⟩,
    fun i j Li Lj h1 h2 n1 n2 hne=>ha.conc.inj i j Li Lj (hφ4 i Li h1).2 (hφ4 j Lj h2).2 n1 n2 hne,fun i obj hi=>?_,fun i hi=>?_,ha.conc.glob.mono (fun _ h=>h) same4⟩
   ·rw[List.getElem?_set]at hi
    by_cases e:σ.own.length=i
    ·subst e
     simp only[if_true,List.length_map,hlen,Option.some.injEq]at hi
     subst hi
     simp only[φ4,if_true,ObjR]
    ·simp only[e,if_false,List.getElem?_map,Option.map_eq_some_iff]at hi
     obtain⟨ob,hob,rfl⟩:=hi
     have e':φ4 i=φ' i:=by simp only[φ4];rw[if_neg (fun h=>e h.symm)]
     rw[e']
     exact ObjR_killAll (fun _ h=>h) same4 hφk (fun L' h1 h2=>off4 _ (inj4 i L' h1 h2 (fun h=>e h.symm))) (ha.conc.rep i ob hob)
   ·simp only[List.length_set,List.length_map]at hi
    simp only[φ4]
    split
    ·rfl
    ·exact ha.conc.out i hi
  have ha4:After F φ w F' φ4 ((own'.map (Obj.killAll [σ.own.length])).set σ.own.length .dead) w₄ mv:=by
   refine⟨ha.sub,⟨os4.1.trans (ha.ext.os.trans hos1),os4.2.1.trans (ha.ext.tape.trans htp1),os4.2.2.trans (ha.ext.output.trans hou1.1),by have:=ha.ext.size;omega,fun b hb=>by rw[same4 b (ha.sub b hb),ha.ext.same b hb,hF1 b hb],Nat.le_trans hou1.2 (Nat.le_trans ha.ext.drn dr4)⟩,hconc4,fun i L' h1 h2=>?_,fun b hb hall=>?_,fun i L' h1 h2=>?_,fun b hb=>?_⟩
   ·have hne:i≠σ.own.length:=fun e=>by rw[e,hout]at h2;cases h2
    exact hφk i L' (by simpa using hne) (ha.keep i L' h1 (by unfold ext;rw[if_neg hne];exact h2))
   ·rw[off4 b (by omega),ha.rest b (by omega) (fun i L' g1 g2 e=>?_),hold b hb]
    rcases hblk1 i L' g1 g2 with h|⟨j,Lj,g3,g4,g5⟩
    ·omega
    ·exact hall j Lj g3 g4 (g5.trans e)
   ·rcases ha.orig i L' (hφ4 i L' h1).2 h2 with h|⟨j,Lj,g1,g2,g3⟩
    ·exact .inl (by omega)
    ·rcases hblk1 j Lj g1 g2 with h|⟨k,Lk,g4,g5,g6⟩
     ·exact .inl (by omega)
     ·exact .inr ⟨k,Lk,g4,g5,g6.trans g3⟩
   ·rcases ha.frsh b hb with h|h|⟨j,Lj,g1,g2,g3⟩
    ·exact .inl h
    ·exact .inr (.inl (by omega))
    ·rcases hblk1 j Lj g1 g2 with h|⟨k,Lk,g4,g5,g6⟩
     ·exact .inr (.inl (by omega))
     ·exact .inr (.inr ⟨k,Lk,g4,g5,g6.trans g3⟩)
  have s4:Since c (addMv c.n0 σ.mv mv) F' φ4 w₄:=h2.after ha4
  have hsl:AV.Rs F' φ4 w₄ (killAll (σ.own.length :: mv) σ.slots) a.tmps.toList:=by
   refine killAll_R ha4.sub ha4.ext.same _ (fun i L' h1 h2=>?_) h4
   simp only[List.mem_cons,not_or]at h1
   exact ha4.keep i L' h1.2 h2
  have key:∃c',CExt c c'/\St c' ⟨killAll (σ.own.length :: mv) σ.slots,(own'.map (Obj.killAll [σ.own.length])).set σ.own.length .dead,σ.n0,addMv σ.n0 σ.mv mv⟩ { a with defers:=mark++a.defers } w₄:=by
   rcases hmark with⟨_,rfl⟩|⟨hr,D,rfl,hD1,hD2,hD3,hD4⟩
   ·exact⟨c,.refl c,⟨by simpa using hd,hok⟩,hn,F',φ4,by rw[hn];exact s4,hconc4,hsl⟩
   ·have hDnot:∀i L',ext φ σ.own.length L i=some L'->L'.nil=false->L'.b≠D:=fun i L' g1 g2 e=>by
     rcases hblk1 i L' g1 g2 with h|⟨j,Lj,g3,g4,g5⟩
     ·omega
     ·have:=(h3.live j Lj g3 g4).2;omega
    have hDF:¬F' D:=fun hF=>by
     rcases ha.frsh D hF with h|h|⟨j,Lj,g1,g2,g3⟩
     ·have:=h3.fb D h;omega
     ·omega
     ·exact hDnot j Lj g1 g2 g3
    have hDo:∀i L',φ4 i=some L'->L'.nil=false->L'.b≠D:=fun i L' g1 g2 e=>by
     rcases ha.orig i L' (hφ4 i L' g1).2 g2 with h|⟨j,Lj,g3,g4,g5⟩
     ·omega
     ·exact hDnot j Lj g3 g4 (g5.trans e)
    have hDh:w₄.heap[D]?=some (.deferred (some [])):=by
     rw[off4 D hD3,ha.rest D hD2 (fun i L' g1 g2=>hDnot i L' g1 g2)];exact hD4
    have hDl:D<w₄.heap.size:=by have:=ha.ext.size;omega
    obtain⟨c',hx,hok',hds,hs'⟩:=restart s4 hr hok hDl (Nat.le_trans h2.ext.size hD1) hDF hDo (fun i L' g1 g2=>(hconc4.live i L' g1 g2).2) hDh
    refine⟨c',hx,⟨by rw[hds,hd];rfl,hok'⟩,hn.trans hx.n0.symm,F',φ4,by rw[hn];exact hs',hconc4,hsl⟩
  obtain⟨c',hx,hst'⟩:=key
  cases hpj:r'.pending with
  | none =>
   rw[hpj]at hQ
   exact⟨c',_,hx,hst',hQ⟩
  | some jc =>
   rw[hpj]at hQ
   cases jc with
   | ret=>exact wpIn_ret ⟨c',_,hx,hst',hQ⟩
   | exit i=>exact wpIn_exit ⟨c',_,hx,hst',hQ⟩
   | goto t=>exact wpIn_goto ⟨c',_,hx,hst',hQ⟩
   | _=>exact hQ.elim
end
end Go.AM
namespace Go.AM
open Go
section
variable {P:Program} {Γ:Nat->Contract}
def ExtOk(P:Program)(g:Nat)(args:List AV)(v:AV):Prop :=
 ∀F φ w vs,AV.Rs F φ w args vs->∃r,(callFunc g vs.toArray).run P w=.ok (.value r) w/\AV.R F φ w v r
def externOp(P:Program)(o:Oper)(K:S->Prop)(σ:S):Prop :=
 match o.guard,o.op with
 | none,.call c=>(match c.callee with
  | .value (.func g)=>∃v,ExtOk P g (c.args.toList.map (ev σ.slots)) v/\PutV o.dst K σ v
  | _=>False)
 | _,_=>False
def awpOpsE(P:Program)(Γ:Nat->Contract)(all:Array Oper)(Q:Exit->S->Prop):List Oper->S->Prop
 | [],σ=>Q .normal σ
 | o :: os,σ=>externOp P o (awpOpsE P Γ all Q os) σ∨opg P Γ all o (awpOpsE P Γ all Q os) σ
@[go_sem] theorem awpOpsY_nil {all:Array Oper} {Q:Exit->S->Prop} {σ:S}:awpOpsY P Γ all Q [] σ=Q .normal σ:=Eq.trans rfl rfl
@[go_sem] theorem awpOpsE_nil {all:Array Oper} {Q:Exit->S->Prop} {σ:S}:awpOpsE P Γ all Q [] σ=Q .normal σ:=Eq.trans rfl rfl
def yieldE(P:Program)(f:AV)(args:List AV)(own:List Obj)(K:AV->List Obj->List Nat->Prop):Prop:=match f with|.yld o=>yieldw P o args own K|_=>False
@[go_sem] theorem yieldE_yld {o:Nat} {args:List AV} {own:List Obj} {K:AV->List Obj->List Nat->Prop}:yieldE P (.yld o) args own K=yieldw P o args own K:=Eq.trans rfl rfl
variable {σ:S} {K:S->Prop} {dst:Option Tmp} {ty:TypeId} {pos:String} {af:Array Edge}
@[go_sem] theorem yieldOp_call {f:Operand} {args:List Operand} {ts:Array TypeId}:yieldOp P ⟨dst,.call { callee:=.value f,args:=args.toArray,argTypes:=ts },ty,pos,af,none⟩ K σ=yieldE P (ev σ.slots f) (args.map (ev σ.slots)) σ.own (PutE dst K σ):=by
 unfold yieldOp yieldE
 simp only
 try (split <;> simp_all)
@[go_sem] theorem slicew_str {τ:Ty} {own:List Obj} {s:List UInt8} {lo hi:Option AV} {K:AV->Prop}:slicew P (some τ) own (.dat (.str s)) lo hi K=(match τ.desc with
  | .string=>(match optInt lo 0,optInt hi s.length with
   | some l,some h=>0<=l/\l<=h/\h<=s.length/\K (.dat (.str ((s.drop l.toNat).take (h - l).toNat)))
   | _,_=>False)
  | _=>False):=Eq.trans rfl rfl
end
end Go.AM
namespace Go.AM
open Go
def rounds(P:Program)(body:Code)(Q:Exit->S->Prop):Nat->S->Prop
 | 0,_=>False
 | m+1,σ=>sem P body (fun e s=>match e with|.normal=>rounds P body Q m s|e=>Q e s) σ
def nextRound(P:Program)(body:Code)(Q:Exit->S->Prop)(m:Nat):Exit->S->Prop:=fun e s=>match e with|.normal=>rounds P body Q m s|e=>Q e s
section
variable {P:Program} {body:Code} {Q:Exit->S->Prop}
@[go_sem] theorem nextRound_normal {m:Nat} {s:S}:nextRound P body Q m .normal s=rounds P body Q m s:=Eq.trans rfl rfl
@[go_sem] theorem nextRound_exit {m i:Nat} {s:S}:nextRound P body Q m (.exit i) s=Q (.exit i) s:=Eq.trans rfl rfl
@[go_sem] theorem nextRound_ret {m:Nat} {s:S}:nextRound P body Q m .ret s=Q .ret s:=Eq.trans rfl rfl
end
end Go.AM
namespace Go.AM
open Go
section
variable {P:Program} {Γ:Nat->Contract}
def GrowFns(Γ:Nat->Contract)(pf:List Nat):Prop:=∀g args own v,g∈pf->Γ g args own v own []->∀ex,Γ g args (own++ex) v (own++ex) []
def swU(pf mf:List Nat)(ms ks:List (Nat×List Nat))(ops:Array Oper)(p i:Nat):Bool :=
 swV pf mf ms ks ops p i || (match ops[p]?,ops[i]? with|some op,some oi=>op.apart ops oi && (callOf pf op).isSome && op.guard.isNone && isMk mf oi|_,_=>false)
end
end Go.AM
namespace Go.AM
open Go
@[go_sem] theorem awpK_range {P:Program} {Γ:Nat->Contract} {ks:List Nat} {Q:Exit->S->Prop} {σ:S} {f:Operand} {ps:Array Tmp} {a b:Code}:awpK ks P Γ (.rangeFunc f ps a b) Q σ=sem P (.rangeFunc f ps a b) Q σ:=Eq.trans rfl rfl
@[go_sem] theorem awp_range {P:Program} {Γ:Nat->Contract} {Q:Exit->S->Prop} {σ:S} {f:Operand} {ps:Array Tmp} {a b:Code}:awp P Γ (.rangeFunc f ps a b) Q σ=sem P (.rangeFunc f ps a b) Q σ:=Eq.trans rfl rfl
end Go.AM
namespace Go.AM
open Go
section
variable {P:Program} {Γ:Nat->Contract}
def cutR(R:S->Prop):Exit->S->Prop:=fun e s=>e=.normal/\∃s',Le s s'/\R s'
def cutS(P:Program)(Γ:Nat->Contract)(all:Array Oper)(Q:Exit->S->Prop):List Nat->List Oper->S->Prop
 | [],os,σ=>awpOps P Γ all Q os σ
 | n :: ns,os,σ=>awpOps P Γ all (cutR (cutS P Γ all Q ns (os.drop n))) (os.take n) σ
variable {all:Array Oper} {Q:Exit->S->Prop} {n:Nat} {ns:List Nat} {os:List Oper} {σ:S} {R:S->Prop}
@[go_sem] theorem cutS_nil:cutS P Γ all Q [] os σ=awpOps P Γ all Q os σ:=Eq.trans rfl rfl
@[go_sem] theorem cutS_cons:cutS P Γ all Q (n :: ns) os σ=awpOps P Γ all (cutR (cutS P Γ all Q ns (os.drop n))) (os.take n) σ:=Eq.trans rfl rfl
end
end Go.AM
namespace Go.AM
open Go
section
variable {P:Program} {F:Nat->Prop} {φ:Nat->Option Loc} {own:List Obj} {w:World}
def Peek(own:List Obj)(x:AV)(d:D):Prop:=∀F φ w c,Conc F φ own w->AV.R F φ w x c->D.R (wide F φ) w d c
def PeekL(own:List Obj):List AV->List D->Prop
 | [],[]=>True
 | x :: xs,d :: ds=>Peek own x d/\PeekL own xs ds
 | _,_=>False
def peekC(R:List D->AV->Prop):Contract:=fun args own v own' mv=>∃ds,PeekL own args ds/\R ds v/\own'=own/\mv=[]/\v.scal=true
def D.plain1:D->Bool
 | .int _ _=>true
 | .bool _=>true
 | .str _=>true
 | _=>false
def madeS(ag:Option Nat)(R:List D->List D->Prop)(ds:List D)(v:AV)(ob:List Obj):Prop:=∃xs,R ds xs/\v=.sl 0 0 xs.length/\ob=[.row ag xs]
def peekS(ag:Option Nat)(R:List D->List D->Prop):Contract:=fun args own v own' mv =>
 ∃ds xs,PeekL own args ds/\R ds xs/\(∀x∈xs,x.plain1=true)/\v=.sl own.length 0 xs.length/\own'=own++[.row ag xs]/\mv=[]
attribute [go_sem] clearw zero1
@[go_sem] theorem opw_clear {Γ:Nat->Contract} {σ:S} {K:S->Prop} {dst:Option Tmp} {ty t:TypeId} {pos:String} {af:Array Edge} {gd:Option (Nat×Bool)} {x:Operand} :
  opw P Γ ⟨dst,.call { callee:=.builtin .clear,args:=#[x],argTypes:=#[t] },ty,pos,af,gd⟩ K σ=clearw P (tyOf P t) σ.own (ev σ.slots x) (PutE dst K σ):=Eq.trans rfl rfl
end
end Go.AM
namespace Go.AM
open Go
section
variable {P:Program} {Γ:Nat->Contract}
def ytail(P:Program)(Γ:Nat->Contract)(ops:Array Oper)(Q:Exit->S->Prop)(yi j:Nat)(σ:S):Prop :=
 match ops[yi]?,ops[j]? with
 | some oy,some oj=>yieldOp P oy (fun σ1=>opg P Γ ops oj (fun σ2=>Q .normal σ2) σ1) σ
 | _,_=>False
@[go_sem] theorem ytail_go {ops:Array Oper} {Q:Exit->S->Prop} {yi j:Nat} {s:List AV} {own:List Obj} {n:Nat} {m:List Nat}:ytail P Γ ops Q yi j ⟨s,own,n,m⟩=(match ops[yi]?,ops[j]? with
 | some oy,some oj=>yieldOp P oy (fun σ1=>opg P Γ ops oj (fun σ2=>Q .normal σ2) σ1) ⟨s,own,n,m⟩
 | _,_=>False):=Eq.trans rfl rfl
def drawYdOk(pf:List Nat)(ops:Array Oper)(L1:List Nat)(yi j:Nat):Bool :=
 pairsOk pf ops L1 && backOk ops && edgesOk ops && allOf ops.size (L1++[yi,j]) && nodupB (L1++[yi,j]) && Region.waitsFor .any ops j yi && (L1.all fun p=>(L1++[yi]).any fun s=>decide (p<s) && Region.waitsFor .any ops s p)
theorem waits_lst{ops:Array Oper}{i p:Nat}{o:Oper}{listed:Array Bool}(g2:ops[i]?=some o)(g3:∀e∈o.after,Region.binds .any e=true->listed.getD e.on false=true)(h:Region.waitsFor .any ops i p=true):listed.getD p true=true:=by
 cases hx:listed.getD p true with
 | true=>rfl
 | false=>rw[not_waits g2 g3 hx]at h;cases h
theorem wpAny_done{ops:Array Oper}{Q:Exit->S->Prop}{c:Ctx}(fuel:Nat)(listed:Array Bool)(σ:S)(a:Act)(w:World)(hall:∀i,i<ops.size->listed.getD i true=true)(hst:St c σ a w)(hq:Q .normal σ):wpAnyIn (fen c.rd) 0 P .any ops (lift c Q) fuel listed a w:=by
 have hr:∀i,i∉Region.ready .any ops listed:=fun i hi=>by
  obtain⟨g1,o,g2,_⟩:=mem_ready.1 hi
  rw[hall i (Array.getElem?_eq_some_iff.1 g2).1]at g1
  cases g1
 cases fuel with
 | zero=>exact⟨List.eq_nil_iff_forall_not_mem.2 hr,lift_mk hst hq⟩
 | succ fuel=>exact⟨fun _=>lift_mk hst hq,fun i hi=>(hr i hi).elim⟩
theorem set_getD{listed:Array Bool}{i j n:Nat}(hsz:listed.size=n)(hi:i<n):(listed.setIfInBounds i true).getD j true=if i=j then true else listed.getD j true:=by
 by_cases e:i=j
 ·subst e
  simp[hsz,hi]
 ·simp[Array.getElem?_setIfInBounds_ne e,e]
theorem wpAny_one{ops:Array Oper}(hΓ:OkG P Γ){Q:Exit->S->Prop}{c:Ctx}{j:Nat}{oj:Oper}(hback:backOk ops=true)(hedges:edgesOk ops=true)(hj:ops[j]?=some oj)(fuel:Nat)(listed:Array Bool)(σ:S)(a:Act)(w:World)(hsz:listed.size=ops.size)
  (hall:∀i,i<ops.size->i≠j->listed.getD i true=true) (hjn:listed.getD j true=false) (hst:St c σ a w) (h:opg P Γ ops oj (fun σ2=>Q .normal σ2) σ):wpAnyIn (fen c.rd) 0 P .any ops (lift c Q) (fuel+1) listed a w:=by
 have hjl:j<ops.size:=(Array.getElem?_eq_some_iff.1 hj).1
 refine⟨fun hr=>?_,fun i hi=>?_⟩
 ·have:=ready_nil hback hedges hsz hr j hjl
  rw[hjn]at this
  cases this
 ·obtain⟨g1,o,g2,g3⟩:=mem_ready.1 hi
  have hi':i<ops.size:=(Array.getElem?_eq_some_iff.1 g2).1
  have e:i=j:=by
   by_cases e:i=j
   ·exact e
   ·rw[hall i hi' e]at g1;cases g1
  subst e
  rw[hj]at g2
  cases g2
  have hl:∀k,k<ops.size->(listed.setIfInBounds i true).getD k true=true:=fun k hk=>by
   rw[set_getD hsz hi']
   split
   ·rfl
   ·rename_i h;exact hall k hk (fun e=>h e.symm)
  unfold wpOpIn
  simp only[hj]
  rcases opg_sound hΓ (Q:=lift c Q) hst h with⟨hw,hwp⟩|⟨hw,σ',hst',hK⟩
  ·rw[if_pos hw]
   refine Oper.wpIn_mono ?_ hwp
   rintro a' w' ⟨σ',hst',hK⟩
   exact wpAny_done fuel _ σ' a' w' hl hst' hK
  ·rw[if_neg (by simp[hw])]
   exact⟨fun _ _=>trivial,wpAny_done fuel _ σ' _ w hl hst' hK⟩
theorem exists_max(f:Nat->Bool):∀(L:List Nat),L.filter f≠[]->∃p∈L,f p=true/\∀q∈L,f q=true->q<=p
 | [],h=>absurd rfl h
 | a :: L,h=>by
  by_cases hL:L.filter f=[]
  ·have ha:f a=true:=by
    cases hf:f a with
    | true=>rfl
    | false=>rw[List.filter_cons_of_neg (by simp[hf]),hL]at h;exact absurd rfl h
   refine⟨a,by simp,ha,fun q hq hfq=>?_⟩
   rcases List.mem_cons.1 hq with rfl|hq
   ·exact Nat.le_refl _
   ·have:q∈L.filter f:=List.mem_filter.2 ⟨hq,hfq⟩
    rw[hL]at this
    cases this
  ·obtain⟨p,h1,h2,h3⟩:=exists_max f L hL
   by_cases ha:f a=true/\p<a
   ·refine⟨a,by simp,ha.1,fun q hq hfq=>?_⟩
    rcases List.mem_cons.1 hq with rfl|hq
    ·exact Nat.le_refl _
    ·have:=h3 q hq hfq;omega
   ·refine⟨p,by simp[h1],h2,fun q hq hfq=>?_⟩
    rcases List.mem_cons.1 hq with rfl|hq
    ·have:¬p<q:=fun h=>ha ⟨hfq,h⟩
     omega
    ·exact h3 q hq hfq
theorem wpAny_of_yd{pf:List Nat}(hΓ:OkG P Γ)(hpf:PureFns Γ pf){ops:Array Oper}{Q:Exit->S->Prop}{L1:List Nat}{yi j:Nat}(hok:drawYdOk pf ops L1 yi j=true){c:Ctx}:∀(fuel:Nat) (listed:Array Bool) (σ:S) (a:Act) (w:World),listed.size=ops.size ->
  (∀i p,i<ops.size->listed.getD i true=true->Region.waitsFor .any ops i p=true->listed.getD p true=true)->listed.getD yi true=false->listed.getD j true=false ->
  (L1.filter fun i=>!listed.getD i true).length+2<=fuel->St c σ a w->chainI P Γ ops (fun _ σ=>ytail P Γ ops Q yi j σ) (L1.filter fun i=>!listed.getD i true) σ->wpAnyIn (fen c.rd) 0 P .any ops (lift c Q) fuel listed a w:=by
 simp only[drawYdOk,Bool.and_eq_true]at hok
 obtain⟨⟨⟨⟨⟨⟨hpairs,hback⟩,hedges⟩,hall⟩,hnd⟩,hjy⟩,hsucc⟩:=hok
 have hnodup:=nodup_of hnd
 simp only[allOf,Bool.and_eq_true,List.all_eq_true,List.mem_range,List.contains_eq_mem,decide_eq_true_eq]at hall
 obtain⟨⟨hmem,hlen⟩,hlt⟩:=hall
 have hn1:L1.Nodup:=(List.nodup_append.1 hnodup).1
 have hyj:yi≠j:=by
  have:=(List.nodup_append.1 hnodup).2.1
  simp at this
  exact this
 have hyL:yi∉L1:=fun h=>(List.nodup_append.1 hnodup).2.2 yi h yi (by simp) rfl
 have hjL:j∉L1:=fun h=>(List.nodup_append.1 hnodup).2.2 j h j (by simp) rfl
 have hyl:yi<ops.size:=hlt yi (by simp)
 have hjl:j<ops.size:=hlt j (by simp)
 intro fuel
 induction fuel with
 | zero=>intro listed σ a w _ _ _ _ hf;omega
 | succ fuel ih =>
  intro listed σ a w hsz hcl hy hj hf hst hch
  refine⟨fun hr=>?_,fun i hi=>?_⟩
  ·have:=ready_nil hback hedges hsz hr yi hyl
   rw[hy]at this
   cases this
  ·obtain⟨g1,o,g2,g3⟩:=mem_ready.1 hi
   have hi':i<ops.size:=(Array.getElem?_eq_some_iff.1 g2).1
   have hw1:=fun p hp=>waits_lst (p:=p) g2 g3 hp
   have hcl':∀k p,k<ops.size->(listed.setIfInBounds i true).getD k true=true->Region.waitsFor .any ops k p=true->(listed.setIfInBounds i true).getD p true=true:=fun k p hk hlk hwk=>by
    rw[set_getD hsz hi']at hlk ⊢
    by_cases e:i=p
    ·rw[if_pos e]
    ·rw[if_neg e]
     by_cases e2:i=k
     ·subst e2;exact hw1 p hwk
     ·rw[if_neg e2]at hlk;exact hcl k p hk hlk hwk
   rcases List.mem_append.1 (hmem i hi') with hiL|hiL
   ·have hiy:i≠yi:=fun e=>hyL (e ▸ hiL)
    have hij:i≠j:=fun e=>hjL (e ▸ hiL)
    obtain⟨pre,post,e1,e2⟩:=filter_erase hn1 hiL (f:=fun i=>!listed.getD i true) (by simp[g1])
    have hfr:=pairs_front (pairs_filter (fun i=>!listed.getD i true) hpairs) pre i post e1
    rw[e1]at hch
    have hb:=bubble hpf g2 pre post σ (fun p hp=>by
     rcases hfr p hp with h|h
     ·exfalso
      have hpm:p∈(L1.filter fun i=>!listed.getD i true):=by rw[e1];simp[hp]
      have hun:=(List.mem_filter.1 hpm).2
      have:listed.getD p true=false:=by simpa using hun
      rw[hw1 p h]at this
      cases this
     ·exact h) hch
    unfold wpOpIn
    simp only[g2]
    have hnext:(L1.filter fun j=>!(listed.setIfInBounds i true).getD j true)=pre++post:=by
     rw[← e2]
     refine List.filter_congr fun k hk=>?_
     rw[set_getD hsz hi']
     by_cases e:i=k
     ·subst e;simp
     ·have e':¬(k=i):=fun h=>e h.symm
      simp[e,e']
    have hlen':(L1.filter fun j=>!(listed.setIfInBounds i true).getD j true).length+2<=fuel:=by
     rw[hnext]
     rw[e1]at hf
     simp only[List.length_append,List.length_cons]at hf ⊢
     omega
    have hy':(listed.setIfInBounds i true).getD yi true=false:=by rw[set_getD hsz hi',if_neg hiy];exact hy
    have hj':(listed.setIfInBounds i true).getD j true=false:=by rw[set_getD hsz hi',if_neg hij];exact hj
    rcases opg_sound hΓ (Q:=lift c Q) hst hb with⟨hw,hwp⟩|⟨hw,σ',hst',hK⟩
    ·rw[if_pos hw]
     refine Oper.wpIn_mono ?_ hwp
     rintro a' w' ⟨σ',hst',hK⟩
     exact ih _ σ' a' w' (by simp[hsz]) hcl' hy' hj' hlen' hst' (by rw[hnext];exact hK)
    ·rw[if_neg (by simp[hw])]
     exact⟨fun _ _=>trivial,ih _ σ' _ w (by simp[hsz]) hcl' hy' hj' hlen' hst' (by rw[hnext];exact hK)⟩
   ·simp only[List.mem_cons,List.not_mem_nil,or_false]at hiL
    rcases hiL with rfl|rfl
    ·have hnil:(L1.filter fun k=>!listed.getD k true)=[]:=by
      by_cases hne:(L1.filter fun k=>!listed.getD k true)=[]
      ·exact hne
      ·exfalso
       obtain⟨p,h1,h2,h3⟩:=exists_max _ L1 hne
       have hpu:listed.getD p true=false:=by simpa using h2
       obtain⟨s,hs,hps⟩:=List.any_eq_true.1 (List.all_eq_true.1 hsucc p h1)
       simp only[Bool.and_eq_true,decide_eq_true_eq]at hps
       have hpl:listed.getD p true=true:=by
        rcases List.mem_append.1 hs with hs|hs
        ·refine hcl s p (hlt s (by simp[hs])) ?_ hps.2
         cases hsl:listed.getD s true with
         | true=>rfl
         | false =>
          have:=h3 s hs (by simp[hsl])
          omega
        ·rw[List.mem_singleton]at hs
         subst hs
         exact hw1 p hps.2
       rw[hpl]at hpu
       cases hpu
     rw[hnil]at hch hf
     have hch':ytail P Γ ops Q i j σ:=hch
     unfold ytail at hch'
     rw[g2,Array.getElem?_eq_getElem hjl]at hch'
     simp only at hch'
     obtain⟨hw,hwp⟩:=yieldOp_sound (all:=ops) (Q:=lift c Q) hst hch'
     unfold wpOpIn
     simp only[g2]
     rw[if_pos hw]
     refine Oper.wpIn_mono ?_ hwp
     rintro a' w' ⟨σ',hst',hK⟩
     obtain⟨fuel,rfl⟩:∃f,fuel=f+1:=⟨fuel - 1,by simp at hf;omega⟩
     refine wpAny_one hΓ hback hedges (Array.getElem?_eq_getElem hjl) fuel _ σ' a' w' (by simp[hsz]) (fun k hk hkj=>?_) (by rw[set_getD hsz hi',if_neg hyj];exact hj) hst' hK
     rw[set_getD hsz hi']
     by_cases e:i=k
     ·rw[if_pos e]
     ·rw[if_neg e]
      rcases List.mem_append.1 (hmem k hk) with hkL|hkL
      ·cases hkl:listed.getD k true with
       | true=>rfl
       | false =>
        have:k∈(L1.filter fun k=>!listed.getD k true):=List.mem_filter.2 ⟨hkL,by simp[hkl]⟩
        rw[hnil]at this
        cases this
      ·simp only[List.mem_cons,List.not_mem_nil,or_false]at hkL
       rcases hkL with h|h
       ·exact absurd h.symm e
       ·exact absurd h hkj
    ·have:=hw1 yi hjy
     rw[hy]at this
     cases this
theorem sem_drawYd{pf:List Nat}(hm:P.follows .mixedOrders=true)(hΓ:OkG P Γ)(hpf:PureFns Γ pf){id:Nat}{ops:Array Oper}{Q:Exit->S->Prop}{σ:S}(L1:List Nat)(yi j:Nat)(hok:drawYdOk pf ops L1 yi j=true)
  (h:chainI P Γ ops (fun _ σ=>ytail P Γ ops Q yi j σ) L1 σ):sem P (.region id ops true) Q σ:=by
 intro c a w hst
 refine wpIn_region_any hm ?_
 have hst':St c σ a { w with drawn:=w.drawn+1 }:=by
  obtain⟨hd,hn,F,φ,h2,h3,h4⟩:=hst
  refine⟨hd,hn,F,φ,⟨h2.sub,⟨h2.ext.os,h2.ext.tape,h2.ext.output,h2.ext.size,h2.ext.same,Nat.le_trans h2.ext.drn (Nat.le_succ _)⟩,h2.keep,h2.rest,h2.orig,h2.frsh⟩,h3.drew,?_⟩
  exact AV.Rs_mono (fun _ h=>h) same_drew (fun _ _ h=>h) _ _ h4
 have hok':=hok
 simp only[drawYdOk,Bool.and_eq_true]at hok'
 obtain⟨⟨⟨⟨⟨⟨_,_⟩,_⟩,hall⟩,_⟩,_⟩,_⟩:=hok'
 simp only[allOf,Bool.and_eq_true,List.all_eq_true,List.mem_range,List.contains_eq_mem,decide_eq_true_eq]at hall
 obtain⟨⟨hmem,hlen⟩,hlt⟩:=hall
 have h0:∀i,i<ops.size->(Array.replicate ops.size false).getD i true=false:=fun i hi=>by simp[hi]
 have hf:(L1.filter fun i=>!(Array.replicate ops.size false).getD i true)=L1:=by
  rw[List.filter_eq_self]
  intro i hi
  rw[h0 i (hlt i (by simp[hi]))]
  rfl
 refine wpAny_of_yd hΓ hpf hok ops.size _ σ a _ (by simp) (fun i p hi hl _=>by rw[h0 i hi]at hl;cases hl) (h0 yi (hlt yi (by simp))) (h0 j (hlt j (by simp))) ?_ hst' (by rw[hf];exact h)
 rw[hf]
 simp only[List.length_append,List.length_cons,List.length_nil]at hlen
 omega
end
end Go.AM

