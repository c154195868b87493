/- Own work over the model of the kit. -/
import Derived.Test.YtjfoclncfhiffaaD7
import Derived.Scope
set_option linter.unnecessarySimpa false
set_option linter.unusedSimpArgs false
set_option linter.unusedVariables false
namespace Go.AM
open Go
section
variable {P:Program} {t:TypeId} {K:AV->Prop} {a b:Int}
@[go_sem] theorem bin_addu:binTop P .add t (.dat (.int .u64 a)) (.dat (.int .u64 b)) K=K (.dat (.int .u64 (IntKind.u64.wrap (a+b)))):=by simp[binTop,eqOk,eqTy,binw,intw,fitw,isSigned]
@[go_sem] theorem bin_subu:binTop P .sub t (.dat (.int .u64 a)) (.dat (.int .u64 b)) K=K (.dat (.int .u64 (IntKind.u64.wrap (a - b)))):=by simp[binTop,eqOk,eqTy,binw,intw,fitw,isSigned]
@[go_sem] theorem bin_mulu:binTop P .mul t (.dat (.int .u64 a)) (.dat (.int .u64 b)) K=K (.dat (.int .u64 (IntKind.u64.wrap (a*b)))):=by simp[binTop,eqOk,eqTy,binw,intw,fitw,isSigned]
@[go_sem] theorem un_negu:unw .neg (.dat (.int .u64 a)) K=K (.dat (.int .u64 (IntKind.u64.wrap (0 - a)))):=by simp[unw,fitw,isSigned]
@[go_sem] theorem un_xoru:unw .xor (.dat (.int .u64 a)) K=K (.dat (.int .u64 (bitsV .xor .u64 IntKind.u64.max a))):=by simp[unw,IntKind.signed]
@[go_sem] theorem isS_u64:isSigned .u64=false:=Eq.trans rfl rfl
@[go_sem] theorem isS_u8:isSigned .u8=false:=Eq.trans rfl rfl
@[go_sem] theorem isS_i64:isSigned .i64=true:=Eq.trans rfl rfl
@[go_sem] theorem isS_i32:isSigned .i32=true:=Eq.trans rfl rfl
@[go_sem] theorem isS_u32:isSigned .u32=false:=Eq.trans rfl rfl
@[go_sem] theorem eqTy_slD {τ:Ty} {ag:Option Nat} {xs:List D}:eqTy (some τ) (.dat (.sl ag xs))=(match τ.desc with|.slice _=>true|_=>false):=Eq.trans rfl rfl
@[go_sem] theorem eqTy_slO {τ:Ty} {o i n:Nat}:eqTy (some τ) (.sl o i n)=(match τ.desc with|.slice _=>true|_=>false):=Eq.trans rfl rfl
@[go_sem] theorem eqTy_nils {τ:Ty}:eqTy (some τ) .nils=(match τ.desc with|.slice _=>true|_=>false):=Eq.trans rfl rfl
@[go_sem] theorem bin_eqlN {ag:Option Nat} {xs:List D}:binTop P .eql t (.dat (.sl ag xs)) .nils K=(eqTy (tyOf P t) (.dat (.sl ag xs))=true/\xs≠[]/\K (.dat (.bool false))):=Eq.trans rfl rfl
@[go_sem] theorem bin_neqN {ag:Option Nat} {xs:List D}:binTop P .neq t (.dat (.sl ag xs)) .nils K=(eqTy (tyOf P t) (.dat (.sl ag xs))=true/\xs≠[]/\K (.dat (.bool true))):=Eq.trans rfl rfl
@[go_sem] theorem bin_eqlO {o i n:Nat}:binTop P .eql t (.sl o i n) .nils K=(eqTy (tyOf P t) (.sl o i n)=true/\0<n/\K (.dat (.bool false))):=Eq.trans rfl rfl
@[go_sem] theorem bin_neqO {o i n:Nat}:binTop P .neq t (.sl o i n) .nils K=(eqTy (tyOf P t) (.sl o i n)=true/\0<n/\K (.dat (.bool true))):=Eq.trans rfl rfl
@[go_sem] theorem bin_eqlNN:binTop P .eql t .nils .nils K=(eqTy (tyOf P t) .nils=true/\K (.dat (.bool true))):=Eq.trans rfl rfl
@[go_sem] theorem bin_neqNN:binTop P .neq t .nils .nils K=(eqTy (tyOf P t) .nils=true/\K (.dat (.bool false))):=Eq.trans rfl rfl
end
def forkw(P:Program)(o:Oper)(K:S->Prop)(σ:S):Prop :=
 match o.op with
 | .binOp op t x (.const (.slice none 0 0)) _=>(op=.eql∨op=.neq)/\(∃ag,ev σ.slots x=.dat (.sl ag []))/\(∃e,P.underlying t=some (.slice e))/\∀b:Bool,K (σ.put o.dst (.dat (.bool b)))
 | _=>False
def awpOpsF(P:Program)(Γ:Nat->Contract)(all:Array Oper)(Q:Exit->S->Prop):List Oper->S->Prop
 | [],σ=>Q .normal σ
 | o :: os,σ=>(o.guard=none/\forkw P o (awpOpsF P Γ all Q os) σ)∨opg P Γ all o (awpOpsF P Γ all Q os) σ
section
variable {P:Program} {Γ:Nat->Contract} {c:Ctx}
theorem fork_sound{o:Oper}{K:S->Prop}{σ:S}{a:Act}{w:World}{Q:Exit->Act->World->Prop}(hst:St c σ a w)(h:forkw P o K σ) :
  o.wpIn (fen c.rd) 0 P a w (fun a' w'=>∃σ',St c σ' a' w'/\K σ') Q:=by
 obtain⟨hd,hn,F,φ,h2,h3,h4⟩:=hst
 obtain⟨dst,op,ty,pos,after,guard⟩:=o
 unfold forkw at h
 simp only at h
 split at h
 ·rename_i op t x t2
  obtain⟨hop,⟨ag,hx⟩,⟨e,hu⟩,hK⟩:=h
  have hv:=ev_R (F:=F) (φ:=φ) (w:=w) h3.glob h4 x
  rw[hx]at hv
  obtain⟨ad,cap,hc,_⟩:=R_sl.1 hv
  have he:a.eval (.const (.slice none 0 0))=.slice none 0 0:=rfl
  have hrun:∃b:Bool,(execOp a.eval { dst:=dst,op:=.binOp op t x (.const (.slice none 0 0)) t2,type:=ty,pos:=pos,after:=after,guard:=guard }).run P w=.ok (.value (.bool b)) w:=by
   rcases hop with rfl|rfl
   ·refine⟨ad.isNone,?_⟩
    simp only[execOp,hc,he,Sem.run_bind,run_eqGuard (show calmV (.slice ad ([]:List D).length cap)=true from rfl),Result.andThen_ok,binOp,equal_slice_nil hu,Sem.run_pure]
   ·refine⟨!ad.isNone,?_⟩
    simp only[execOp,hc,he,Sem.run_bind,run_eqGuard (show calmV (.slice ad ([]:List D).length cap)=true from rfl),Result.andThen_ok,binOp,equal_slice_nil hu,Sem.run_pure]
  obtain⟨b,hrun⟩:=hrun
  exact wp_value (fun _ e=>by cases e) hrun ⟨_,St.put hd hn h2 h3 h4 (R_bool.2 rfl),hK b⟩
 ·exact h.elim
theorem awpOpsF_sound(hΓ:OkG P Γ){all:Array Oper}{Q:Exit->S->Prop}:∀(l:List Oper) (σ:S) (a:Act) (w:World),St c σ a w->awpOpsF P Γ all Q l σ->wpListIn (fen c.rd) 0 P all (lift c Q) l a w
 | [],σ,a,w,hst,h=>lift_mk hst h
 | o :: os,σ,a,w,hst,h=>by
  simp only[awpOpsF]at h
  unfold wpListIn
  rcases h with⟨hg,h⟩|h
  ·rw[if_pos (by simp[Region.wanted,hg])]
   refine Oper.wpIn_mono ?_ ( (fork_sound (Q:=lift c Q) hst h))
   rintro a' w' ⟨σ',hst',hK⟩
   exact awpOpsF_sound hΓ os σ' a' w' hst' hK
  ·rcases opg_sound hΓ (Q:=lift c Q) hst h with⟨hw,hwp⟩|⟨hw,σ',hst',hK⟩
   ·rw[if_pos hw]
    refine Oper.wpIn_mono ?_ hwp
    rintro a' w' ⟨σ',hst',hK⟩
    exact awpOpsF_sound hΓ os σ' a' w' hst' hK
   ·rw[if_neg (by simp[hw])]
    exact⟨fun _ _=>trivial,awpOpsF_sound hΓ os σ' _ w hst' hK⟩
theorem sem_regionF(hΓ:OkG P Γ){id:Nat}{ops:Array Oper}{Q:Exit->S->Prop}{σ:S}(h:awpOpsF P Γ ops Q ops.toList σ):sem P (.region id ops false) Q σ :=
 fun c a w hst=>wpIn_region_list (awpOpsF_sound hΓ ops.toList σ a w hst h)
end
end Go.AM
namespace Go.AM
open Go
theorem le_addnilR{s:List AV}{own:List Obj}{n0:Nat}{mv:List Nat}(o j:Nat)(ag:Option Nat){cs:List AV}(ho:own[o]?=some (.box cs))(hj:cs.getD j .top=.nils)(h0:n0<=own.length) :
  Le ⟨s,own,n0,mv⟩ ⟨s,own.set o (.box (cs.set j (.sl own.length 0 0)))++[.row ag []],n0,mv⟩:=by
 rintro c a w ⟨hd,hn,F,φ,h2,h3,h4⟩
 let L:Loc:=⟨true,0,0,0,es ag⟩
 have hmono:=ext_old h3 L
 have h4':=AV.Rs_mono (fun _ h=>h) (Same.refl F w) hmono _ _ h4
 have h5:=h3.new (L:=L) (obj:=Obj.row ag []) (Nat.le_refl _) (fun _ _=>rfl) (fun hn'=>by cases hn') (by simp only[ObjR];exact⟨rfl,.inl ⟨rfl,trivial⟩⟩)
 refine⟨hd,hn,F,ext φ own.length L,⟨h2.sub,h2.ext,fun o L' hlt hm h=>hmono o L' (h2.keep o L' hlt hm h),h2.rest,fun o L' ho' hn'=>?_,h2.frsh⟩,?_,h4'⟩
 ·unfold ext at ho'
  split at ho'
  ·cases ho';cases hn'
  ·exact h2.orig o L' ho' hn'
 ·have holt:o<own.length:=by
   rcases Nat.lt_or_ge o own.length with h|h
   ·exact h
   ·rw[List.getElem?_eq_none h]at ho;cases ho
  refine⟨h5.fb,h5.live,h5.inj,fun o' obj ho'=>?_,fun o' ho'=>h5.out o' (by simpa using ho'),h5.glob⟩
  have hset:own.set o (.box (cs.set j (.sl own.length 0 0)))++[Obj.row ag []]=(own++[Obj.row ag []]).set o (Obj.box (cs.set j (.sl own.length 0 0))):=by rw[List.set_append_left _ _ holt]
  simp only at ho'
  rw[hset,List.getElem?_set]at ho'
  by_cases e:o=o'
  ·subst e
   simp only[if_true,List.length_append,List.length_cons,List.length_nil,show o<own.length+(0+1) by omega,Option.some.injEq]at ho'
   subst ho'
   have hr:=h5.rep o (.box cs) (by rw[List.getElem?_append_left holt];exact ho)
   cases hl:ext φ own.length L o with
   | none=>rw[hl]at hr;simp only[ObjR]at hr
   | some L' =>
    rw[hl]at hr
    simp only[ObjR]at hr ⊢
    obtain⟨q1,q2,arr,ty,q3,q4,q5⟩:=hr
    refine⟨q1,q2,arr,ty,q3,q4,?_⟩
    have hget:=AV.Rs_get (AV.Ra_iff.1 q5).1 j
    rw[hj]at hget
    have hv:=R_nils.1 hget
    have key:=AV.Ra_set q5 j (.sl own.length 0 0) (.slice none 0 0) rfl (by
     simp only[AV.R]
     exact⟨L,ext_self _ _ _,.inl ⟨rfl,by simp⟩⟩)
    have hself:arr.set j (.slice none 0 0)=arr:=by
     apply List.ext_getElem?
     intro k
     rw[List.getElem?_set]
     split
     ·rename_i hk
      subst hk
      split
      ·rename_i hlt
       rw[← hv]
       simp[List.getD_eq_getElem?_getD,List.getElem?_eq_getElem hlt]
      ·rename_i hge
       rw[List.getElem?_eq_none (by omega)]
     ·rfl
    rw[hself]at key
    exact key
  ·simp only[e,if_false]at ho'
   exact h5.rep o' obj ho'
end Go.AM
namespace Go.AM
open Go
section
variable {P:Program} {Γ:Nat->Contract} {ob:Nat}
theorem wpAny_of_chainX{pf mf ms:List Nat}(hΓ:OkG P Γ)(hpf:PureFns Γ pf)(hmf:MakeFns Γ mf){ops:Array Oper}{Q:Exit->S->Prop}{L:List Nat}(hback:backOk ops=true)(hedges:edgesOk ops=true)(hall:allOf ops.size L=true)(hnd:nodupB L=true){c:Ctx}:∀(fuel:Nat) (listed:Array Bool) (σ:S) (a:Act) (w:World),listed.size=ops.size->pairsOkM pf mf ms ops (L.filter fun i=>!listed.getD i true)=true ->
  (L.filter fun i=>!listed.getD i true).length<=fuel->St c σ a w->chainM P Γ ops ob ms Q (L.filter fun i=>!listed.getD i true) σ->wpAnyIn (fen c.rd) 0 P .any ops (lift c Q) fuel listed a w:=by
 have hnodup:=nodup_of hnd
 simp only[allOf,Bool.and_eq_true,List.all_eq_true,List.mem_range,List.contains_eq_mem,decide_eq_true_eq]at hall
 obtain⟨⟨hmem,hlen⟩,hlt⟩:=hall
 have ready:∀(listed:Array Bool),listed.size=ops.size->Region.ready .any ops listed=[]->(L.filter fun i=>!listed.getD i true)=[]:=by
  intro listed hsz hr
  rw[List.filter_eq_nil_iff]
  have key:∀i,i<ops.size->listed.getD i true=true:=by
   intro i
   induction i using Nat.strongRecOn with
   | _ i ih =>
    intro hlt'
    cases hx:listed.getD i true with
    | true=>rfl
    | false =>
     exfalso
     have:i∈Region.ready .any ops listed:=by
      refine mem_ready.2 ⟨hx,ops[i],Array.getElem?_eq_getElem hlt',fun e he hb=>?_⟩
      have hw:Region.waitsFor .any ops i e.on=true:=by
       simp only[Region.waitsFor,Array.getElem?_eq_getElem hlt',Array.any_eq_true']
       exact⟨e,he,by simp[hb]⟩
      have hon:e.on<ops.size:=by
       have h1:=Array.all_eq_true'.1 hedges ops[i] (Array.getElem_mem hlt')
       have h2:=Array.all_eq_true'.1 h1 e he
       simpa [hb] using h2
      have hlt2:e.on<i:=by
       have h1:=List.all_eq_true.1 hback i (List.mem_range.2 hlt')
       have h2:=List.all_eq_true.1 h1 e.on (List.mem_range.2 hon)
       simpa [hw] using h2
      have h3:=ih e.on hlt2 hon
      have h4:e.on<listed.size:=by omega
      simp[h4]at h3 ⊢
      exact h3
     rw[hr]at this
     cases this
  intro i hi
  simp only[Bool.not_eq_true',Bool.not_eq_false]
  exact key i (hlt i hi)
 intro fuel
 induction fuel with
 | zero =>
  intro listed σ a w hsz hpairs hf hst hch
  have h0:(L.filter fun i=>!listed.getD i true)=[]:=List.eq_nil_of_length_eq_zero (by omega)
  rw[h0]at hch
  refine⟨?_,lift_mk hst hch⟩
  rw[List.eq_nil_iff_forall_not_mem]
  intro i hi
  obtain⟨g1,o,g2,_⟩:=mem_ready.1 hi
  have hi':i<ops.size:=(Array.getElem?_eq_some_iff.1 g2).1
  have:i∈(L.filter fun i=>!listed.getD i true):=List.mem_filter.2 ⟨hmem i hi',by simp[g1]⟩
  rw[h0]at this
  cases this
 | succ fuel ih =>
  intro listed σ a w hsz hpairs hf hst hch
  refine⟨fun hr=>?_,fun i hi=>?_⟩
  ·rw[ready listed hsz hr]at hch
   exact lift_mk hst hch
  ·obtain⟨g1,o,g2,g3⟩:=mem_ready.1 hi
   have hi':i<ops.size:=(Array.getElem?_eq_some_iff.1 g2).1
   obtain⟨pre,post,e1,e2⟩:=filter_erase hnodup (hmem i hi') (f:=fun i=>!listed.getD i true) (by simp[g1])
   have hfr:=pairs_frontM hpairs pre i post e1
   rw[e1]at hch
   have hb:=bubbleM hpf hmf g2 pre post σ (fun p hp=>by
    rcases hfr p hp with h|h
    ·exfalso
     have hpm:p∈(L.filter fun i=>!listed.getD i true):=by rw[e1];simp[hp]
     have hun:=(List.mem_filter.1 hpm).2
     simp only[Region.waitsFor,g2,Array.any_eq_true',Bool.and_eq_true,beq_iff_eq]at h
     obtain⟨e,he,hb,hon⟩:=h
     have hl:=g3 e he hb
     rw[hon]at hl
     have:listed.getD p true=false:=by simpa using hun
     rw[getD_both this]at hl
     cases hl
    ·exact h) hch
   unfold wpOpIn
   simp only[g2]
   have hnext:(L.filter fun j=>!(listed.setIfInBounds i true).getD j true)=pre++post:=by
    rw[← e2]
    refine List.filter_congr fun j hj=>?_
    have hj':=hlt j hj
    by_cases e:i=j
    ·subst e
     simp[hsz,hi']
    ·have e':¬(j=i):=fun h=>e h.symm
     simp[Array.getElem?_setIfInBounds_ne e,e']
   have hpairs':pairsOkM pf mf ms ops (L.filter fun j=>!(listed.setIfInBounds i true).getD j true)=true:=by
    have e3:(L.filter fun j=>!(listed.setIfInBounds i true).getD j true)=(L.filter fun j=>!listed.getD j true).filter (fun j=>decide (j≠i)):=by
     rw[List.filter_filter]
     refine List.filter_congr fun j hj=>?_
     by_cases e:i=j
     ·subst e
      have hj':=hlt i hj
      simp[hsz,hj']
     ·have e':¬(j=i):=fun h=>e h.symm
      simp[Array.getElem?_setIfInBounds_ne e,e']
    rw[e3]
    exact pairs_filterM _ hpairs
   have hlen':(L.filter fun j=>!(listed.setIfInBounds i true).getD j true).length<=fuel:=by
    rw[hnext]
    rw[e1]at hf
    simp only[List.length_append,List.length_cons]at hf ⊢
    omega
   rcases opg_sound hΓ (Q:=lift c Q) hst hb.2 with⟨hw,hwp⟩|⟨hw,σ',hst',hK⟩
   ·rw[if_pos hw]
    refine Oper.wpIn_mono ?_ hwp
    rintro a' w' ⟨σ',hst',hK⟩
    exact ih _ σ' a' w' (by simp[hsz]) hpairs' hlen' hst' (by rw[hnext];exact hK)
   ·rw[if_neg (by simp[hw])]
    exact⟨fun _ _=>trivial,ih _ σ' _ w (by simp[hsz]) hpairs' hlen' hst' (by rw[hnext];exact hK)⟩
def pairsOkX(x:Nat)(pf mf ms:List Nat)(ops:Array Oper):List Nat->Bool
 | []=>true
 | p :: r=>(r.all fun i=>Region.waitsFor .any ops i p || swapOkM pf mf ms ops p i || (p == x)) && pairsOkX x pf mf ms ops r
def drawOkB(pf mf ms:List Nat)(ops:Array Oper)(pre:List Nat)(x y:Nat)(r1 r2:List Nat):Bool :=
 (pre.all fun p=>match ops[p]? with|some o=>vlike pf o|none=>false) && pairsOkX x pf mf ms ops (pre++x :: r1) && pairsOkX y pf mf ms ops (pre++y :: r2) && backOk ops && edgesOk ops &&
  allOf ops.size (pre++x :: r1) && nodupB (pre++x :: r1) && allOf ops.size (pre++y :: r2) && nodupB (pre++y :: r2) && (r1.all fun i=>i == y || Region.waitsFor .any ops i x || Region.waitsFor .any ops i y)
theorem pairsX_filter{x:Nat}{pf mf ms:List Nat}{ops:Array Oper}{f:Nat->Bool}(hx:f x=false):∀{L:List Nat},pairsOkX x pf mf ms ops L=true->pairsOkM pf mf ms ops (L.filter f)=true
 | [],_=>rfl
 | q :: r,h=>by
  simp only[pairsOkX,Bool.and_eq_true]at h
  simp only[List.filter_cons]
  split
  ·rename_i hq
   simp only[pairsOkM,Bool.and_eq_true]
   refine⟨List.all_eq_true.2 fun i hi=>?_,pairsX_filter hx h.2⟩
   have h1:=List.all_eq_true.1 h.1 i (List.mem_filter.1 hi).1
   simp only[Bool.or_eq_true]at h1
   rcases h1 with h1|h1
   ·simpa using h1
   ·simp only[beq_iff_eq]at h1
    rw[h1,hx]at hq
    cases hq
  ·exact pairsX_filter hx h.2
theorem pairsX_front{x:Nat}{pf mf ms:List Nat}{ops:Array Oper}:∀{L:List Nat},pairsOkX x pf mf ms ops L=true->∀pre i post,L=pre++i :: post->∀p∈pre,p=x∨Region.waitsFor .any ops i p=true∨swapOkM pf mf ms ops p i=true
 | [],_,pre,i,post,e,p,hp=>by cases pre <;> cases e
 | q :: r,h,pre,i,post,e,p,hp=>by
  simp only[pairsOkX,Bool.and_eq_true]at h
  cases pre with
  | nil=>cases hp
  | cons a pre =>
   simp only[List.cons_append,List.cons.injEq]at e
   obtain⟨rfl,e⟩:=e
   rcases List.mem_cons.1 hp with rfl|hp
   ·have:=List.all_eq_true.1 h.1 i (by rw[e];simp)
    simp only[Bool.or_eq_true,beq_iff_eq]at this
    rcases this with(h1|h1)|h1
    ·exact .inr (.inl h1)
    ·exact .inr (.inr h1)
    ·exact .inl h1
   ·exact pairsX_front h.2 pre i post e p hp
theorem chainM_app{ops:Array Oper}{ms:List Nat}{Q:Exit->S->Prop}:∀(pre r:List Nat) (σ:S),chainM P Γ ops ob ms (fun _ s=>chainM P Γ ops ob ms Q r s) pre σ=chainM P Γ ops ob ms Q (pre++r) σ
 | [],r,σ=>rfl
 | i :: pre,r,σ=>by
  simp only[List.cons_append,chainM]
  have:chainM P Γ ops ob ms (fun _ s=>chainM P Γ ops ob ms Q r s) pre=chainM P Γ ops ob ms Q (pre++r):=funext fun s=>chainM_app pre r s
  rw[this]
theorem ready_nil{ops:Array Oper}(hback:backOk ops=true)(hedges:edgesOk ops=true){listed:Array Bool}(hsz:listed.size=ops.size)(hr:Region.ready .any ops listed=[]):∀i,i<ops.size->listed.getD i true=true:=by
 intro i
 induction i using Nat.strongRecOn with
 | _ i ih =>
  intro hlt'
  cases hx:listed.getD i true with
  | true=>rfl
  | false =>
   exfalso
   have:i∈Region.ready .any ops listed:=by
    refine mem_ready.2 ⟨hx,ops[i],Array.getElem?_eq_getElem hlt',fun e he hb=>?_⟩
    have hw:Region.waitsFor .any ops i e.on=true:=by
     simp only[Region.waitsFor,Array.getElem?_eq_getElem hlt',Array.any_eq_true']
     exact⟨e,he,by simp[hb]⟩
    have hon:e.on<ops.size:=by
     have h1:=Array.all_eq_true'.1 hedges ops[i] (Array.getElem_mem hlt')
     have h2:=Array.all_eq_true'.1 h1 e he
     simpa [hb] using h2
    have hlt2:e.on<i:=by
     have h1:=List.all_eq_true.1 hback i (List.mem_range.2 hlt')
     have h2:=List.all_eq_true.1 h1 e.on (List.mem_range.2 hon)
     simpa [hw] using h2
    have h3:=ih e.on hlt2 hon
    have h4:e.on<listed.size:=by omega
    simp[h4]at h3 ⊢
    exact h3
   rw[hr]at this
   cases this
theorem not_waits{ops:Array Oper}{listed:Array Bool}{i p:Nat}{o:Oper}(g2:ops[i]?=some o)(g3:∀e∈o.after,Region.binds .any e=true->listed.getD e.on false=true)(hun:listed.getD p true=false):Region.waitsFor .any ops i p=false:=by
 cases h:Region.waitsFor .any ops i p with
 | false=>rfl
 | true =>
  exfalso
  simp only[Region.waitsFor,g2,Array.any_eq_true',Bool.and_eq_true,beq_iff_eq]at h
  obtain⟨e,he,hb,hon⟩:=h
  have hl:=g3 e he hb
  rw[hon]at hl
  rw[getD_both hun]at hl
  cases hl
theorem chosen{pf mf ms:List Nat}(hΓ:OkG P Γ)(hpf:PureFns Γ pf)(hmf:MakeFns Γ mf){ops:Array Oper}{Q:Exit->S->Prop}{pre r:List Nat}{x:Nat}(hp:pairsOkX x pf mf ms ops (pre++x :: r)=true)
  (hback:backOk ops=true) (hedges:edgesOk ops=true) (hall:allOf ops.size (pre++x :: r)=true) (hnd:nodupB (pre++x :: r)=true) {c:Ctx} {fuel:Nat} {listed:Array Bool} {σ:S} {a:Act} {w:World} (hsz:listed.size=ops.size)
  (hun:∀i,i∉pre->i<ops.size->listed.getD i true=false) (hf:(pre.filter fun i=>!listed.getD i true).length+r.length<=fuel) (hst:St c σ a w) {o:Oper} (g2:ops[x]?=some o) (g3:∀e∈o.after,Region.binds .any e=true->listed.getD e.on false=true)
  (h:chainM P Γ ops ob ms (fun _ s=>chainM P Γ ops ob ms Q (x :: r) s) (pre.filter fun i=>!listed.getD i true) σ):wpOpIn (fen c.rd) 0 P ops (lift c Q) x (wpAnyIn (fen c.rd) 0 P .any ops (lift c Q) fuel (listed.setIfInBounds x true)) a w:=by
 have hnodup:=nodup_of hnd
 have hall':=hall
 simp only[allOf,Bool.and_eq_true,List.all_eq_true,List.mem_range,List.contains_eq_mem,decide_eq_true_eq]at hall'
 obtain⟨⟨_,_⟩,hlt⟩:=hall'
 have hx:x<ops.size:=(Array.getElem?_eq_some_iff.1 g2).1
 have hd:=List.nodup_append.1 hnodup
 have hxpre:x∉pre:=fun h=>hd.2.2 x h x (by simp) rfl
 have hrpre:∀i∈r,i∉pre:=fun i hi h=>hd.2.2 i h i (by simp[hi]) rfl
 have hxr:x∉r:=(List.nodup_cons.1 hd.2.1).1
 have hset:∀j,j≠x->(listed.setIfInBounds x true).getD j true=listed.getD j true:=fun j hj=>by
  simp[Array.getElem?_setIfInBounds_ne (fun e:x=j=>hj e.symm)]
 have hself:(listed.setIfInBounds x true).getD x true=true:=by simp[hsz,hx]
 have hleft:((pre++x :: r).filter fun i=>!(listed.setIfInBounds x true).getD i true)=(pre.filter fun i=>!listed.getD i true)++r:=by
  rw[List.filter_append,List.filter_cons,hself]
  simp only[Bool.not_true,Bool.false_eq_true,if_false]
  congr 1
  ·exact List.filter_congr fun j hj=>by rw[hset j (fun e=>hxpre (e ▸ hj))]
  ·rw[List.filter_eq_self]
   intro j hj
   rw[hset j (fun e=>hxr (e ▸ hj)),hun j (hrpre j hj) (hlt j (by simp[hj]))]
   rfl
 rw[chainM_app]at h
 have hb:=bubbleM hpf hmf g2 (pre.filter fun i=>!listed.getD i true) r σ (fun p hpm=>by
  obtain⟨hp1,hp2⟩:=List.mem_filter.1 hpm
  rcases pairsX_front hp pre x r rfl p hp1 with h1|h1|h1
  ·exact(hxpre (h1 ▸ hp1)).elim
  ·rw[not_waits g2 g3 (by simpa using hp2)]at h1;cases h1
  ·exact h1) h
 have hpairs:pairsOkM pf mf ms ops ((pre++x :: r).filter fun i=>!(listed.setIfInBounds x true).getD i true)=true:=pairsX_filter (by simp only[hself];rfl) hp
 have go:=wpAny_of_chainX (ob:=ob) (ms:=ms) hΓ hpf hmf hback hedges hall hnd (Q:=Q) (c:=c) fuel (listed.setIfInBounds x true)
 unfold wpOpIn
 simp only[g2]
 rcases opg_sound hΓ (Q:=lift c Q) hst hb.2 with⟨hw,hwp⟩|⟨hw,σ',hst',hK⟩
 ·rw[if_pos hw]
  refine Oper.wpIn_mono ?_ hwp
  rintro a' w' ⟨σ',hst',hK⟩
  exact go σ' a' w' (by simp[hsz]) hpairs (by rw[hleft,List.length_append];exact hf) hst' (by rw[hleft];exact hK)
 ·rw[if_neg (by simp[hw])]
  exact⟨fun _ _=>trivial,go σ' _ w (by simp[hsz]) hpairs (by rw[hleft,List.length_append];exact hf) hst' (by rw[hleft];exact hK)⟩
end
end Go.AM
namespace Go.AM
open Go
mutual
def AV.ren(π:Nat->Nat):AV->AV
 | .sl o i j=>.sl (π o) i j
 | .ptr o i j=>.ptr (π o) i j
 | .map o=>.map (π o)
 | .yld o=>.yld (π o)
 | .agg vs=>.agg (AV.rens π vs)
 | .tup vs=>.tup (AV.rens π vs)
 | .fn f vs=>.fn f (AV.rens π vs)
 | .dat d=>.dat d
 | .nils=>.nils
 | .nilm=>.nilm
 | .rptr ag d=>.rptr ag d
 | .top=>.top
def AV.rens(π:Nat->Nat):List AV->List AV
 | []=>[]
 | a :: as=>a.ren π :: AV.rens π as
end
def Obj.ren(π:Nat->Nat):Obj->Obj
 | .box cs=>.box (AV.rens π cs)
 | .lp r cs=>.lp r (AV.rens π cs)
 | .bld T u cs=>.bld T u (AV.rens π cs)
 | .vec cs=>.vec (AV.rens π cs)
 | .tab k cs=>.tab k (AV.rens π cs)
 | x=>x
section
variable {P:Program} {Γ:Nat->Contract} {F:Nat->Prop} {φ φ':Nat->Option Loc} {w:World} {own:List Obj} {π:Nat->Nat}
mutual
theorem AV.R_ren(hφ:∀o L,φ o=some L->φ' (π o)=some L):∀(a:AV) (v:Value),AV.R F φ w a v->AV.R F φ' w (a.ren π) v
 | .dat d,v,h=>by simpa only[AV.ren,AV.R] using h
 | .nils,_,h=>by simpa only[AV.ren,AV.R] using h
 | .nilm,_,h=>by simpa only[AV.ren,AV.R] using h
 | .sl o' i j,v,h=>by
  simp only[AV.ren,AV.R]at h ⊢
  obtain⟨L,h1,h2⟩:=h
  exact⟨L,hφ o' L h1,h2⟩
 | .ptr o' i j,v,h=>by
  simp only[AV.ren,AV.R]at h ⊢
  obtain⟨L,h1,h2⟩:=h
  exact⟨L,hφ o' L h1,h2⟩
 | .rptr ag d,v,h=>by simpa only[AV.ren,AV.R] using h
 | .agg vs,v,h=>by
  simp only[AV.ren,AV.R]at h ⊢
  obtain⟨arr,h1,h2⟩:=h
  exact⟨arr,h1,AV.Ra_ren hφ vs arr h2⟩
 | .tup vs,v,h=>by
  simp only[AV.ren,AV.R]at h ⊢
  obtain⟨arr,h1,h2⟩:=h
  exact⟨arr,h1,AV.Rs_ren hφ vs arr h2⟩
 | .map o',v,h=>by
  simp only[AV.ren,AV.R]at h ⊢
  obtain⟨L,h1,h2⟩:=h
  exact⟨L,hφ o' L h1,h2⟩
 | .yld o',v,h=>by
  simp only[AV.ren,AV.R]at h ⊢
  obtain⟨L,h1,h2⟩:=h
  exact⟨L,hφ o' L h1,h2⟩
 | .fn f vs,v,h=>by
  simp only[AV.ren,AV.R]at h ⊢
  obtain⟨arr,h1,h2⟩:=h
  exact⟨arr,h1,AV.Rs_ren hφ vs arr h2⟩
 | .top,_,_=>by simp only[AV.ren,AV.R]
theorem AV.Rs_ren(hφ:∀o L,φ o=some L->φ' (π o)=some L):∀(as:List AV) (vs:List Value),AV.Rs F φ w as vs->AV.Rs F φ' w (AV.rens π as) vs
 | [],_,h=>by simpa only[AV.rens,AV.Rs] using h
 | a :: as,vs,h=>by
  simp only[AV.rens,AV.Rs]at h ⊢
  obtain⟨v,vs',h1,h2,h3⟩:=h
  exact⟨v,vs',h1,AV.R_ren hφ a v h2,AV.Rs_ren hφ as vs' h3⟩
theorem AV.Ra_ren(hφ:∀o L,φ o=some L->φ' (π o)=some L):∀(as:List AV) (vs:List Value),AV.Ra F φ w as vs->AV.Ra F φ' w (AV.rens π as) vs
 | [],_,h=>by simpa only[AV.rens,AV.Ra] using h
 | a :: as,vs,h=>by
  simp only[AV.rens,AV.Ra]at h ⊢
  obtain⟨v,vs',h1,h0,h2,h3⟩:=h
  exact⟨v,vs',h1,h0,AV.R_ren hφ a v h2,AV.Ra_ren hφ as vs' h3⟩
end
theorem AV.rens_length:∀(cs:List AV),(AV.rens π cs).length=cs.length
 | []=>rfl
 | c :: cs=>by simp only[AV.rens,List.length_cons,AV.rens_length cs]
theorem ObjR_ren(hφ:∀o L,φ o=some L->φ' (π o)=some L){l:Option Loc}{obj:Obj}(h:ObjR F φ w l obj):ObjR F φ' w l (obj.ren π):=by
 cases l with
 | none=>cases obj <;> simp only[ObjR,Obj.ren]at h ⊢
 | some L =>
  cases obj with
  | row ag xs=>simpa only[ObjR,Obj.ren] using h
  | vec cs =>
   simp only[ObjR,Obj.ren]at h ⊢
   obtain⟨h1,h2⟩:=h
   refine⟨h1,?_⟩
   rcases h2 with⟨h2,rfl⟩|⟨h2,arr,ty,h3,h4,h5,vs,h6,h7⟩
   ·exact .inl ⟨h2,rfl⟩
   ·exact .inr ⟨h2,arr,ty,h3,h4,by rw[AV.rens_length];exact h5,vs,AV.Ra_ren hφ _ _ h6,by rw[AV.rens_length];exact h7⟩
  | tab k0 cs =>
   simp only[ObjR,Obj.ren]at h ⊢
   obtain⟨h1,h2⟩:=h
   refine⟨h1,?_⟩
   rcases h2 with⟨h2,rfl⟩|⟨h2,arr,ty,h3,h4,h5,vs,h6,h7⟩
   ·exact .inl ⟨h2,rfl⟩
   ·exact .inr ⟨h2,arr,ty,h3,h4,by rw[AV.rens_length];exact h5,vs,AV.Ra_ren hφ _ _ h6,by rw[AV.rens_length];exact h7⟩
  | box cs =>
   simp only[ObjR,Obj.ren]at h ⊢
   obtain⟨h1,h2,arr,ty,h3,h4,h5⟩:=h
   exact⟨h1,h2,arr,ty,h3,h4,AV.Ra_ren hφ _ _ h5⟩
  | lp r0 cs =>
   simp only[ObjR,Obj.ren]at h ⊢
   obtain⟨h1,h2,arr,ty,h3,h4,h5⟩:=h
   exact⟨h1,h2,arr,ty,h3,h4,AV.Rs_ren hφ _ _ h5⟩
  | bld T0 u0 cs =>
   simp only[ObjR,Obj.ren]at h ⊢
   obtain⟨h1,h2,arr,ty,h3,h4,h5⟩:=h
   exact⟨h1,h2,arr,ty,h3,h4,AV.Rs_ren hφ _ _ h5⟩
  | brow e0 bs0=>simpa only[ObjR,Obj.ren] using h
  | map m=>simpa only[ObjR,Obj.ren] using h
  | dead=>simp only[ObjR,Obj.ren]
def swp(a b:Nat):Nat->Nat:=fun o=>if o=a then b else if o=b then a else o
end
end Go.AM
namespace Go.AM
open Go
section
variable {P:Program} {Γ:Nat->Contract} {F:Nat->Prop} {φ φ':Nat->Option Loc} {w:World} {own:List Obj} {π:Nat->Nat}
mutual
theorem AV.R_unren:∀(a:AV) (v:Value),AV.R F φ w (a.ren π) v->AV.R F (fun o=>φ (π o)) w a v
 | .dat d,v,h=>by simpa only[AV.ren,AV.R] using h
 | .nils,_,h=>by simpa only[AV.ren,AV.R] using h
 | .nilm,_,h=>by simpa only[AV.ren,AV.R] using h
 | .sl o' i j,v,h=>by simpa only[AV.ren,AV.R] using h
 | .ptr o' i j,v,h=>by simpa only[AV.ren,AV.R] using h
 | .rptr ag d,v,h=>by simpa only[AV.ren,AV.R] using h
 | .agg vs,v,h=>by
  simp only[AV.ren,AV.R]at h ⊢
  obtain⟨arr,h1,h2⟩:=h
  exact⟨arr,h1,AV.Ra_unren vs arr h2⟩
 | .tup vs,v,h=>by
  simp only[AV.ren,AV.R]at h ⊢
  obtain⟨arr,h1,h2⟩:=h
  exact⟨arr,h1,AV.Rs_unren vs arr h2⟩
 | .map o',v,h=>by simpa only[AV.ren,AV.R] using h
 | .yld o',v,h=>by simpa only[AV.ren,AV.R] using h
 | .fn f vs,v,h=>by
  simp only[AV.ren,AV.R]at h ⊢
  obtain⟨arr,h1,h2⟩:=h
  exact⟨arr,h1,AV.Rs_unren vs arr h2⟩
 | .top,_,_=>by simp only[AV.R]
theorem AV.Rs_unren:∀(as:List AV) (vs:List Value),AV.Rs F φ w (AV.rens π as) vs->AV.Rs F (fun o=>φ (π o)) w as vs
 | [],_,h=>by simpa only[AV.rens,AV.Rs] using h
 | a :: as,vs,h=>by
  simp only[AV.rens,AV.Rs]at h ⊢
  obtain⟨v,vs',h1,h2,h3⟩:=h
  exact⟨v,vs',h1,AV.R_unren a v h2,AV.Rs_unren as vs' h3⟩
theorem AV.Ra_unren:∀(as:List AV) (vs:List Value),AV.Ra F φ w (AV.rens π as) vs->AV.Ra F (fun o=>φ (π o)) w as vs
 | [],_,h=>by simpa only[AV.rens,AV.Ra] using h
 | a :: as,vs,h=>by
  simp only[AV.rens,AV.Ra]at h ⊢
  obtain⟨v,vs',h1,h0,h2,h3⟩:=h
  exact⟨v,vs',h1,h0,AV.R_unren a v h2,AV.Ra_unren as vs' h3⟩
end
theorem ObjR_unren{l:Option Loc}{obj:Obj}(h:ObjR F φ w l (obj.ren π)):ObjR F (fun o=>φ (π o)) w l obj:=by
 cases l with
 | none=>cases obj <;> simp only[ObjR,Obj.ren]at h ⊢
 | some L =>
  cases obj with
  | row ag xs=>simpa only[ObjR,Obj.ren] using h
  | vec cs =>
   simp only[ObjR,Obj.ren]at h ⊢
   obtain⟨h1,h2⟩:=h
   refine⟨h1,?_⟩
   rcases h2 with⟨h2,h3⟩|⟨h2,arr,ty,h3,h4,h5,vs,h6,h7⟩
   ·refine .inl ⟨h2,?_⟩
    cases cs with
    | nil=>rfl
    | cons c cs=>simp[AV.rens]at h3
   ·exact .inr ⟨h2,arr,ty,h3,h4,by rwa [AV.rens_length]at h5,vs,AV.Ra_unren _ _ h6,by rwa [AV.rens_length]at h7⟩
  | tab k0 cs =>
   simp only[ObjR,Obj.ren]at h ⊢
   obtain⟨h1,h2⟩:=h
   refine⟨h1,?_⟩
   rcases h2 with⟨h2,h3⟩|⟨h2,arr,ty,h3,h4,h5,vs,h6,h7⟩
   ·refine .inl ⟨h2,?_⟩
    cases cs with
    | nil=>rfl
    | cons c cs=>simp[AV.rens]at h3
   ·exact .inr ⟨h2,arr,ty,h3,h4,by rwa [AV.rens_length]at h5,vs,AV.Ra_unren _ _ h6,by rwa [AV.rens_length]at h7⟩
  | box cs =>
   simp only[ObjR,Obj.ren]at h ⊢
   obtain⟨h1,h2,arr,ty,h3,h4,h5⟩:=h
   exact⟨h1,h2,arr,ty,h3,h4,AV.Ra_unren _ _ h5⟩
  | lp r0 cs =>
   simp only[ObjR,Obj.ren]at h ⊢
   obtain⟨h1,h2,arr,ty,h3,h4,h5⟩:=h
   exact⟨h1,h2,arr,ty,h3,h4,AV.Rs_unren _ _ h5⟩
  | bld T0 u0 cs =>
   simp only[ObjR,Obj.ren]at h ⊢
   obtain⟨h1,h2,arr,ty,h3,h4,h5⟩:=h
   exact⟨h1,h2,arr,ty,h3,h4,AV.Rs_unren _ _ h5⟩
  | brow e0 bs0=>simpa only[ObjR,Obj.ren] using h
  | map m=>simpa only[ObjR,Obj.ren] using h
  | dead=>simp only[ObjR]
theorem ObjR_under{k:Nat}(hφ:∀o L,o<k->φ o=some L->φ' o=some L){l:Option Loc}{obj:Obj}(hu:obj.under k)(h:ObjR F φ w l obj):ObjR F φ' w l obj:=by
 cases l with
 | none=>cases obj <;> simp only[ObjR]at h ⊢
 | some L =>
  cases obj with
  | row ag xs=>simpa only[ObjR] using h
  | vec cs =>
   simp only[ObjR,Obj.under]at h hu ⊢
   obtain⟨h1,h2⟩:=h
   refine⟨h1,?_⟩
   rcases h2 with h2|⟨h2,arr,ty,h3,h4,h5,vs,h6,h7⟩
   ·exact .inl h2
   ·exact .inr ⟨h2,arr,ty,h3,h4,h5,vs,AV.Ra_under hφ _ _ hu h6,h7⟩
  | tab k0 cs =>
   simp only[ObjR,Obj.under]at h hu ⊢
   obtain⟨h1,h2⟩:=h
   refine⟨h1,?_⟩
   rcases h2 with h2|⟨h2,arr,ty,h3,h4,h5,vs,h6,h7⟩
   ·exact .inl h2
   ·exact .inr ⟨h2,arr,ty,h3,h4,h5,vs,AV.Ra_under hφ _ _ hu h6,h7⟩
  | box cs =>
   simp only[ObjR,Obj.under]at h hu ⊢
   obtain⟨h1,h2,arr,ty,h3,h4,h5⟩:=h
   exact⟨h1,h2,arr,ty,h3,h4,AV.Ra_under hφ _ _ hu h5⟩
  | lp r0 cs =>
   simp only[ObjR,Obj.under]at h hu ⊢
   obtain⟨h1,h2,arr,ty,h3,h4,h5⟩:=h
   exact⟨h1,h2,arr,ty,h3,h4,AV.Rs_under hφ _ _ hu h5⟩
  | bld T0 u0 cs =>
   simp only[ObjR,Obj.under]at h hu ⊢
   obtain⟨h1,h2,arr,ty,h3,h4,h5⟩:=h
   exact⟨h1,h2,arr,ty,h3,h4,AV.Rs_under hφ _ _ hu h5⟩
  | brow e0 bs0=>simpa only[ObjR] using h
  | map m=>simpa only[ObjR] using h
  | dead=>simp only[ObjR]
def Obj.killAll(kl:List Nat):Obj->Obj
 | .box cs=>.box (Go.AM.killAll kl cs)
 | .lp r cs=>.lp r (Go.AM.killAll kl cs)
 | .bld T u cs=>.bld T u (Go.AM.killAll kl cs)
 | .vec cs=>.vec (Go.AM.killAll kl cs)
 | .tab k cs=>.tab k (Go.AM.killAll kl cs)
 | x=>x
@[go_sem] theorem Obj.killAll_nil (x:Obj):Obj.killAll [] x=x:=by cases x <;> rfl
theorem killAll_length:∀(kl:List Nat) (cs:List AV),(killAll kl cs).length=cs.length
 | [],_=>rfl
 | o :: kl,cs=>by simp only[killAll];rw[killAll_length kl,AV.kills_length]
theorem ObjR_killAll{F':Nat->Prop}{w':World}{kl:List Nat}(hF:∀b,F b->F' b)(hw:Same F w w')(hφ:∀o L,o∉kl->φ o=some L->φ' o=some L){l:Option Loc}{obj:Obj}(hb:∀L,l=some L->L.nil=false->w'.heap[L.b]?=w.heap[L.b]?)
  (h:ObjR F φ w l obj):ObjR F' φ' w' l (obj.killAll kl):=by
 cases l with
 | none=>cases obj <;> simp only[ObjR,Obj.killAll]at h ⊢
 | some L =>
  cases obj with
  | row ag xs =>
   simp only[Obj.killAll]
   exact ObjR.mono (φ:=fun _=>none) hF hw (fun _ _ h=>by cases h) hb (by simpa only[ObjR] using h)
  | vec cs =>
   simp only[ObjR,Obj.killAll]at h ⊢
   obtain⟨h1,h2⟩:=h
   refine⟨h1,?_⟩
   rcases h2 with⟨h2,rfl⟩|⟨h2,arr,ty,h3,h4,h5,vs,h6,h7⟩
   ·exact .inl ⟨h2,List.eq_nil_of_length_eq_zero (by rw[killAll_length];rfl)⟩
   ·have h6':=AV.Ra_iff.1 h6
    exact .inr ⟨h2,arr,ty,(hb L rfl h2).trans h3,h4,by rw[killAll_length];exact h5,vs,AV.Ra_iff.2 ⟨killAll_R hF hw kl hφ h6'.1,h6'.2⟩,by rw[killAll_length];exact h7⟩
  | tab k0 cs =>
   simp only[ObjR,Obj.killAll]at h ⊢
   obtain⟨h1,h2⟩:=h
   refine⟨h1,?_⟩
   rcases h2 with⟨h2,rfl⟩|⟨h2,arr,ty,h3,h4,h5,vs,h6,h7⟩
   ·exact .inl ⟨h2,List.eq_nil_of_length_eq_zero (by rw[killAll_length];rfl)⟩
   ·have h6':=AV.Ra_iff.1 h6
    exact .inr ⟨h2,arr,ty,(hb L rfl h2).trans h3,h4,by rw[killAll_length];exact h5,vs,AV.Ra_iff.2 ⟨killAll_R hF hw kl hφ h6'.1,h6'.2⟩,by rw[killAll_length];exact h7⟩
  | box cs =>
   simp only[ObjR,Obj.killAll]at h ⊢
   obtain⟨h1,h2,arr,ty,h3,h4,h5⟩:=h
   have h5':=AV.Ra_iff.1 h5
   exact⟨h1,h2,arr,ty,(hb L rfl h1).trans h3,h4,AV.Ra_iff.2 ⟨killAll_R hF hw kl hφ h5'.1,h5'.2⟩⟩
  | lp r0 cs =>
   simp only[ObjR,Obj.killAll]at h ⊢
   obtain⟨h1,h2,arr,ty,h3,h4,h5⟩:=h
   exact⟨h1,h2,arr,ty,(hb L rfl h1).trans h3,h4,killAll_R hF hw kl hφ h5⟩
  | bld T0 u0 cs =>
   simp only[ObjR,Obj.killAll]at h ⊢
   obtain⟨h1,h2,arr,ty,h3,h4,h5⟩:=h
   exact⟨h1,h2,arr,ty,(hb L rfl h1).trans h3,h4,killAll_R hF hw kl hφ h5⟩
  | brow e0 bs0 =>
   simp only[Obj.killAll]
   exact ObjR.mono (φ:=fun _=>none) hF hw (fun _ _ h=>by cases h) hb (by simpa only[ObjR] using h)
  | map m =>
   simp only[Obj.killAll]
   exact ObjR.mono (φ:=fun _=>none) hF hw (fun _ _ h=>by cases h) hb (by simpa only[ObjR] using h)
  | dead=>simp only[ObjR,Obj.killAll]
def setAll:List Obj->List Nat->List Obj->List Obj
 | own,[],_=>own
 | own,_ :: _,[]=>own
 | own,o :: os,x :: xs=>setAll (own.set o x) os xs
theorem setAll_length:∀(own:List Obj) (os:List Nat) (xs:List Obj),(setAll own os xs).length=own.length
 | own,[],_=>by simp only[setAll]
 | own,_ :: _,[]=>rfl
 | own,o :: os,x :: xs=>by simp only[setAll];rw[setAll_length];simp
theorem setAll_out:∀(own:List Obj) (os:List Nat) (xs:List Obj) (o:Nat),o∉os->(setAll own os xs)[o]?=own[o]?
 | own,[],_,o,_=>by simp only[setAll]
 | own,_ :: _,[],o,_=>rfl
 | own,o' :: os,x :: xs,o,h=>by
  simp only[setAll]
  rw[setAll_out _ os xs o (fun hm=>h (by simp[hm]))]
  rw[List.getElem?_set]
  rw[if_neg (fun e=>h (by simp[e]))]
theorem setAll_in:∀(own:List Obj) (os:List Nat) (xs:List Obj) (j:Nat),os.Nodup->(∀o∈os,o<own.length)->j<os.length->xs.length=os.length->(setAll own os xs)[os.getD j 0]?=xs[j]?
 | own,[],_,j,_,_,h,_=>by simp at h
 | own,o' :: os,[],j,_,_,_,h=>by simp at h
 | own,o' :: os,x :: xs,j,hn,hl,hj,h=>by
  obtain⟨h1,h2⟩:=List.nodup_cons.1 hn
  simp only[setAll]
  cases j with
  | zero =>
   simp only[List.getD_cons_zero,List.getElem?_cons_zero]
   rw[setAll_out _ os xs o' h1,List.getElem?_set,if_pos rfl,if_pos (hl o' (by simp))]
  | succ j =>
   simp only[List.getD_cons_succ,List.getElem?_cons_succ]
   exact setAll_in _ os xs j h2 (fun o ho=>by rw[List.length_set];exact hl o (by simp[ho])) (by simpa using hj) (by simpa using h)
def emb(os:List Nat)(n:Nat):Nat->Nat:=fun j=>if j<os.length then os.getD j 0 else n+(j - os.length)
def lentC(R:List AV->List Obj->AV->List Obj->List Obj->List Nat->Prop):Contract:=fun args own v own' mv =>
 ∃(os:List Nat) (as:List AV) (obs:List Obj) (v0:AV) (obs' ex:List Obj) (mv0:List Nat),os.Nodup/\(∀o∈os,o<own.length)/\obs.length=os.length/\obs'.length=os.length /\
  args=AV.rens (emb os own.length) as/\AV.unders os.length as/\(∀x∈obs,x.under os.length)/\(∀j,j<os.length->own[os.getD j 0]?=some ((obs.getD j .dead).ren (emb os own.length)))/\R as obs v0 obs' ex mv0 /\
  v=v0.ren (emb os own.length)/\own'=setAll (own.map (Obj.killAll (mv0.map (emb os own.length)))) os (obs'.map (Obj.ren (emb os own.length)))++ex.map (Obj.ren (emb os own.length))/\mv=mv0.map (emb os own.length)
theorem okF_lent_raw {g : Nat} {fn : Func} {body : Code} {R : List AV -> List Obj -> AV -> List Obj -> List Obj -> List Nat -> Prop} (hf : P.funcs[g]? = some fn) (hb : fn.body = some body) (hname : fn.name ≠ "runtime.NumGoroutine")
  (h:∀as obs v0 obs' ex mv0,R as obs v0 obs' ex mv0->∀F φ w vs,(∀o L,φ o=some L->o<obs.length)->Conc F φ obs w->AV.Rs F φ w as vs->Calls P g vs.toArray w fun e w'=>∃r F' φ',e=.returned r/\After F φ w F' φ' (obs'++ex) w' mv0/\AV.R F' φ' w' v0 r):OkF P g (lentC R):=by
 intro args own v own' mv hC
 obtain⟨os,as,obs,v0,obs',ex,mv0,hnd,hlt,hlen,hlen',hargs,hun,hobu,hobs,hR,hv,hown,hmv⟩:=hC
 refine⟨⟨fn,body,hf,hb,hname⟩,fun F φ w vs hc hs=>?_⟩
 let k:=os.length
 let n:=own.length
 let π:=emb os n
 let φ0:Nat->Option Loc:=fun j=>if j<k then φ (π j) else none
 have hπ:∀j,j<k->π j=os.getD j 0:=fun j hj=>by simp only[π,emb];rw[if_pos hj]
 have hπ2:∀j,¬j<k->π j=n+(j - k):=fun j hj=>by simp only[π,emb];rw[if_neg hj]
 have hmem:∀j,j<k->os.getD j 0∈os:=fun j hj=>by
  rw[List.getD_eq_getElem?_getD,List.getElem?_eq_getElem hj]
  exact List.getElem_mem hj
 have hπlt:∀j,j<k->π j<n:=fun j hj=>by rw[hπ j hj];exact hlt _ (hmem j hj)
 have hidx:∀j,j<k->os.idxOf (os.getD j 0)=j:=fun j hj=>by
  rw[List.getD_eq_getElem?_getD,List.getElem?_eq_getElem hj]
  exact hnd.idxOf_getElem j hj
 have hπi:∀i j,π i=π j->i=j:=fun i j e=>by
  by_cases hi:i<k
  ·by_cases hj:j<k
   ·rw[hπ i hi,hπ j hj]at e
    rw[← hidx i hi,← hidx j hj,e]
   ·have:=hπlt i hi
    rw[hπ2 j hj]at e
    omega
  ·by_cases hj:j<k
   ·have:=hπlt j hj
    rw[hπ2 i hi]at e
    omega
   ·rw[hπ2 i hi,hπ2 j hj]at e
    omega
 have conc0:Conc F φ0 obs w:=by
  refine⟨hc.fb,fun j L hj=>?_,fun i j L L' hi hj n1 n2 hne=>?_,fun j obj hj=>?_,fun j hj=>?_,hc.glob⟩
  ·simp only[φ0]at hj
   split at hj
   ·exact hc.live _ L hj
   ·cases hj
  ·simp only[φ0]at hi hj
   split at hi
   ·split at hj
    ·exact hc.inj _ _ L L' hi hj n1 n2 (fun e=>hne (hπi i j e))
    ·cases hj
   ·cases hi
  ·have hjk:j<k:=by have:=(List.getElem?_eq_some_iff.1 hj).1;omega
   have hg:obs.getD j .dead=obj:=by rw[List.getD_eq_getElem?_getD,hj];rfl
   have hr:=hc.rep (π j) _ (by rw[hπ j hjk];exact hobs j hjk)
   rw[hg]at hr
   have h0:φ0 j=φ (π j):=by simp only[φ0];rw[if_pos hjk]
   rw[h0]
   exact ObjR_under (k:=k) (fun o L ho hL=>by simp only[φ0];rw[if_pos ho];exact hL) (hobu obj (List.mem_of_getElem? hj)) (ObjR_unren hr)
  ·simp only[φ0]
   rw[if_neg (by omega)]
 have hs0:AV.Rs F φ0 w as vs:=by
  rw[hargs]at hs
  exact AV.Rs_under (n:=k) (fun o L ho hL=>by simp only[φ0];rw[if_pos ho];exact hL) _ _ hun (AV.Rs_unren _ _ hs)
 refine(h as obs v0 obs' ex mv0 hR F φ0 w vs (fun o L ho=>by
  simp only[φ0]at ho
  split at ho
  ·omega
  ·cases ho) conc0 hs0).mono ?_
 rintro e w' ⟨r,F',φ',rfl,ha,hr⟩
 let φ2:Nat->Option Loc:=fun o=>if o∈os then φ' (os.idxOf o) else if o<n then φ o else φ' (k+(o - n))
 have key:∀j,φ2 (π j)=φ' j:=fun j=>by
  simp only[φ2]
  by_cases hj:j<k
  ·rw[hπ j hj,if_pos (hmem j hj),hidx j hj]
  ·rw[hπ2 j hj,if_neg (fun hm=>by have:=hlt _ hm;omega),if_neg (by omega)]
   congr 1;omega
 have hold:∀o,o∉os->o<n->φ2 o=φ o:=fun o h1 h2=>by simp only[φ2];rw[if_neg h1,if_pos h2]
 have cover:∀o,(o∉os/\o<n)∨∃j,π j=o:=fun o=>by
  by_cases h1:o∈os
  ·refine .inr ⟨os.idxOf o,?_⟩
   have hj:=List.idxOf_lt_length_of_mem h1
   rw[hπ _ hj,List.getD_eq_getElem?_getD,List.getElem?_eq_getElem hj]
   simp
  ·by_cases h2:o<n
   ·exact .inl ⟨h1,h2⟩
   ·exact .inr ⟨k+(o - n),by rw[hπ2 _ (by omega)];omega⟩
 have lentφ:∀j L,φ0 j=some L->φ (π j)=some L/\π j∈os:=fun j L hj=>by
  simp only[φ0]at hj
  split at hj
  ·rename_i hjk
   exact⟨hj,by rw[hπ j hjk];exact hmem j hjk⟩
  ·cases hj
 have hlow:∀o L,φ o=some L->o<n:=fun o L ho=>by
  rcases Nat.lt_or_ge o n with h|h
  ·exact h
  ·rw[hc.out o h]at ho;cases ho
 have oldrest:∀o L,o∉os->φ o=some L->L.nil=false->w'.heap[L.b]?=w.heap[L.b]?:=fun o L h1 h2 h3 =>
  ha.rest L.b (hc.live o L h2 h3).2 (fun j L' hj hn' e=>by
   obtain⟨g1,g2⟩:=lentφ j L' hj
   exact hc.inj (π j) o L' L g1 h2 hn' h3 (fun e'=>h1 (e' ▸ g2)) e)
 have hkeep:∀o L,o∉mv0.map π->φ o=some L->φ2 o=some L:=fun o L hm ho=>by
  rcases cover o with⟨h1,h2⟩|⟨j,rfl⟩
  ·rw[hold o h1 h2];exact ho
  ·rw[key]
   refine ha.keep j L (fun hj=>hm (List.mem_map.2 ⟨j,hj,rfl⟩)) ?_
   have hjk:j<k:=by
    rcases Nat.lt_or_ge j k with h|h
    ·exact h
    ·have:=hlow _ L ho
     rw[hπ2 j (by omega)]at this
     omega
   simp only[φ0]
   rw[if_pos hjk];exact ho
 have hlen2:(setAll (own.map (Obj.killAll (mv0.map π))) os (obs'.map (Obj.ren π))).length=n:=by rw[setAll_length,List.length_map]
 refine⟨r,F',φ2,rfl,?_,?_⟩
 ·refine { sub:=ha.sub,ext:=ha.ext,conc:=?_,keep:=fun o L hm ho=>hkeep o L (by rwa [hmv]at hm) ho,rest:=fun b hb hall=>ha.rest b hb (fun j L hj hn'=>hall (π j) L (lentφ j L hj).1 hn'),orig:=fun o L' ho hn'=>?_,frsh:=fun b hb=>?_ }
  ·refine⟨ha.conc.fb,fun o L ho hn'=>?_,fun o1 o2 L1 L2 h1 h2 n1 n2 hne=>?_,fun o obj ho=>?_,fun o ho=>?_,ha.conc.glob⟩
   ·rcases cover o with⟨h1,h2⟩|⟨j,rfl⟩
    ·rw[hold o h1 h2]at ho
     refine⟨fun hF'=>?_,Nat.lt_of_lt_of_le (hc.live o L ho hn').2 ha.ext.size⟩
     rcases ha.frsh _ hF' with h|h|⟨j,L',g1,g2,g3⟩
     ·exact(hc.live o L ho hn').1 h
     ·have:=(hc.live o L ho hn').2;omega
     ·obtain⟨g4,g5⟩:=lentφ j L' g1
      exact hc.inj (π j) o L' L g4 ho g2 hn' (fun e'=>h1 (e' ▸ g5)) g3
    ·rw[key]at ho
     exact ha.conc.live j L ho hn'
   ·have mixed:∀o j L L',o∉os->o<n->φ o=some L->φ' j=some L'->L.nil=false->L'.nil=false->L.b≠L'.b:=fun o j L L' g1 g2 g3 g4 m1 m2 e=>by
     rcases ha.orig j L' g4 m2 with h|⟨j',L3,q1,q2,q3⟩
     ·have:=(hc.live o L g3 m1).2;omega
     ·obtain⟨q4,q5⟩:=lentφ j' L3 q1
      exact hc.inj o (π j') L L3 g3 q4 m1 q2 (fun e'=>g1 (e' ▸ q5)) (e.trans q3.symm)
    rcases cover o1 with⟨a1,a2⟩|⟨j1,rfl⟩ <;> rcases cover o2 with⟨b1,b2⟩|⟨j2,rfl⟩
    ·rw[hold o1 a1 a2]at h1;rw[hold o2 b1 b2]at h2
     exact hc.inj o1 o2 L1 L2 h1 h2 n1 n2 hne
    ·rw[hold o1 a1 a2]at h1;rw[key]at h2
     exact mixed o1 j2 L1 L2 a1 a2 h1 h2 n1 n2
    ·rw[key]at h1;rw[hold o2 b1 b2]at h2
     exact(mixed o2 j1 L2 L1 b1 b2 h2 h1 n2 n1).symm
    ·rw[key]at h1 h2
     exact ha.conc.inj j1 j2 L1 L2 h1 h2 n1 n2 (fun e=>hne (by rw[e]))
   ·rw[hown]at ho
    rcases cover o with⟨h1,h2⟩|⟨j,rfl⟩
    ·rw[List.getElem?_append_left (by rw[hlen2];exact h2),setAll_out _ _ _ _ h1,List.getElem?_map,Option.map_eq_some_iff]at ho
     obtain⟨ob0,g1,rfl⟩:=ho
     rw[hold o h1 h2]
     exact ObjR_killAll ha.sub ha.ext.same hkeep (fun L hL hn'=>oldrest o L h1 hL hn') (hc.rep o ob0 g1)
    ·rw[key]
     by_cases hj:j<k
     ·rw[List.getElem?_append_left (by rw[hlen2];exact hπlt j hj),hπ j hj,setAll_in _ _ _ _ hnd (fun o ho=>by rw[List.length_map];exact hlt o ho) hj (by rw[List.length_map];exact hlen'),List.getElem?_map,Option.map_eq_some_iff]at ho
      obtain⟨ob0,g1,rfl⟩:=ho
      have:=ha.conc.rep j ob0 (by rw[List.getElem?_append_left (by omega)];exact g1)
      exact ObjR_ren (π:=π) (φ:=φ') (φ':=φ2) (fun o L ho=>by rw[key];exact ho) this
     ·rw[List.getElem?_append_right (by rw[hlen2,hπ2 j hj];omega),hlen2,hπ2 j hj,Nat.add_sub_cancel_left,List.getElem?_map,Option.map_eq_some_iff]at ho
      obtain⟨ob0,g1,rfl⟩:=ho
      have:=ha.conc.rep j ob0 (by rw[List.getElem?_append_right (by omega),hlen'];exact g1)
      exact ObjR_ren (π:=π) (φ:=φ') (φ':=φ2) (fun o L ho=>by rw[key];exact ho) this
   ·rw[hown,List.length_append,hlen2,List.length_map]at ho
    rcases cover o with⟨h1,h2⟩|⟨j,rfl⟩
    ·omega
    ·rw[key]
     have hj:¬j<k:=fun hj=>by have:=hπlt j hj;omega
     rw[hπ2 j hj]at ho
     exact ha.conc.out j (by rw[List.length_append];omega)
  ·rcases cover o with⟨h1,h2⟩|⟨j,rfl⟩
   ·rw[hold o h1 h2]at ho
    exact .inr ⟨o,L',ho,hn',rfl⟩
   ·rw[key]at ho
    rcases ha.orig j L' ho hn' with h|⟨j',L3,q1,q2,q3⟩
    ·exact .inl h
    ·exact .inr ⟨π j',L3,(lentφ j' L3 q1).1,q2,q3⟩
  ·rcases ha.frsh b hb with h|h|⟨j,L',g1,g2,g3⟩
   ·exact .inl h
   ·exact .inr (.inl h)
   ·exact .inr (.inr ⟨π j,L',(lentφ j L' g1).1,g2,g3⟩)
 ·rw[hv]
  exact AV.R_ren (π:=π) (φ:=φ') (φ':=φ2) (fun o L ho=>by rw[key];exact ho) _ _ hr
theorem okF_lent {g : Nat} {fn : Func} {body : Code} {R : List AV -> List Obj -> AV -> List Obj -> List Obj -> List Nat -> Prop} (hf : P.funcs[g]? = some fn) (hb : fn.body = some body) (hname : fn.name ≠ "runtime.NumGoroutine")
  (h:∀as obs v0 obs' ex mv0,R as obs v0 obs' ex mv0->sem P body (post P fn v0 (obs'++ex) mv0) ⟨as++List.replicate (fn.ntmps - as.length) .top,obs,obs.length,[]⟩):OkF P g (lentC R) :=
 okF_lent_raw hf hb hname fun as obs v0 obs' ex mv0 hR F φ w vs h0 hc hs=>calls_of_sem hf hb (h as obs v0 obs' ex mv0 hR) h0 hc hs
theorem call_lent{l:List (Nat×Contract)}{g:Nat}(R:List AV->List Obj->AV->List Obj->List Obj->List Nat->Prop)(hm:(g,lentC R)∈l){args:List AV}{own:List Obj}{K:AV->List Obj->List Nat->Prop}(os:List Nat){as:List AV}{obs:List Obj}{v0:AV}{obs' ex:List Obj}{mv0:List Nat}
  (hR:R as obs v0 obs' ex mv0) (hnd:os.Nodup) (hlt:∀o∈os,o<own.length) (h1:obs.length=os.length) (h2:obs'.length=os.length) (hargs:args=AV.rens (emb os own.length) as) (hun:AV.unders os.length as) (hob:∀x∈obs,x.under os.length)
  (hown:∀j,j<os.length->own[os.getD j 0]?=some ((obs.getD j .dead).ren (emb os own.length)))
  (hK:K (v0.ren (emb os own.length)) (setAll (own.map (Obj.killAll (mv0.map (emb os own.length)))) os (obs'.map (Obj.ren (emb os own.length)))++ex.map (Obj.ren (emb os own.length))) (mv0.map (emb os own.length))):callw (tbl l) (.fn g []) args own K :=
 call_by (lentC R) hm _ _ _ ⟨os,as,obs,v0,obs',ex,mv0,hnd,hlt,h1,h2,hargs,hun,hob,hown,hR,rfl,rfl,rfl⟩ hK
@[go_sem] theorem resV_nil:resV []=.tup []:=Eq.trans rfl rfl
attribute [go_sem] AV.ren AV.rens Obj.ren setAll
@[go_sem] theorem map_kill0 (own:List Obj):own.map (Obj.killAll [])=own:=by
 have:Obj.killAll []=id:=funext fun x=>Obj.killAll_nil x
 rw[this,List.map_id]
end
end Go.AM
namespace Go.AM
open Go
def noGo(Q:Exit->S->Prop):Exit->S->Prop:=fun e s=>match e with|.goto _=>False|e=>Q e s
section
variable {P:Program} {Γ:Nat->Contract} {Q:Exit->S->Prop} {σ:S}
@[go_sem] theorem noGo_normal:noGo Q .normal σ=Q .normal σ:=Eq.trans rfl rfl
@[go_sem] theorem noGo_ret:noGo Q .ret σ=Q .ret σ:=Eq.trans rfl rfl
@[go_sem] theorem noGo_exit {i:Nat}:noGo Q (.exit i) σ=Q (.exit i) σ:=Eq.trans rfl rfl
end
end Go.AM

