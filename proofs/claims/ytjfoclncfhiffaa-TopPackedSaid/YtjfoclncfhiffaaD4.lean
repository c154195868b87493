/- Own work over the model of the kit. -/
import Derived.Test.YtjfoclncfhiffaaD3
import Derived.Deep.LoopGhost
import Derived.StillTail
set_option linter.unnecessarySimpa false
set_option linter.unusedSimpArgs false
set_option linter.unusedVariables false
namespace Go.AM
open Go
def sem(P:Program)(code:Code)(Q:Exit->S->Prop)(σ:S):Prop:=∀c a w,St c σ a w->code.wpIn (fen c.rd) 0 P (lift c Q) a w
theorem sem_ext{P:Program}{code:Code}{Q:Exit->S->Prop}{σ:S}{c c':Ctx}{a:Act}{w:World}(h:sem P code Q σ)(hx:CExt c c')(hst:St c' σ a w):code.wpIn (fen c.rd) 0 P (lift c Q) a w:=by
 have h1:=h c' a w hst
 rw[hx.rd]at h1
 exact wpIn_mono h1 fun _ _ _=>lift_ext hx
def condw(x:AV)(A B:Prop):Prop :=
 match x with
 | .dat (.bool b)=>(b=true->A)/\(b=false->B)
 | _=>False
def awp(P:Program)(Γ:Nat->Contract):Code->(Exit->S->Prop)->S->Prop
 | .skip,Q,σ=>Q .normal σ
 | .region id ops draw,Q,σ=>if draw then sem P (.region id ops true) Q σ else awpOps P Γ ops Q ops.toList σ
 | .seq a b,Q,σ=>awp P Γ a (fun e s=>match e with|.normal=>awp P Γ b Q s|e=>Q e s) σ
 | .cond c x y,Q,σ=>condw (ev σ.slots c) (awp P Γ x Q σ) (awp P Γ y Q σ)
 | .block id body,Q,σ=>awp P Γ body (fun e s=>match e with|.exit i=>if i=id then Q .normal s else Q (.exit i) s|e=>Q e s) σ
 | .exit id,Q,σ=>Q (.exit id) σ
 | .ret,Q,σ=>Q .ret σ
 | .loop b,Q,σ=>sem P (.loop b) Q σ
 | .rangeFunc f ps as b,Q,σ=>sem P (.rangeFunc f ps as b) Q σ
 | .scope b,Q,σ=>sem P (.scope b) Q σ
 | .label l,Q,σ=>Q .normal σ
 | .goto l,Q,σ=>Q (.goto l) σ
 | .refuse _,_,_=>False
def andThen(P:Program)(Γ:Nat->Contract)(b:Code)(Q:Exit->S->Prop):Exit->S->Prop:=fun e s=>match e with|.normal=>awp P Γ b Q s|e=>Q e s
def inBlk(id:Nat)(Q:Exit->S->Prop):Exit->S->Prop:=fun e s=>match e with|.exit i=>if i=id then Q .normal s else Q (.exit i) s|e=>Q e s
section
variable {P:Program} {Γ:Nat->Contract}
theorem sem_of_awp(hΓ:OkG P Γ):∀(code:Code) (Q:Exit->S->Prop) (σ:S),awp P Γ code Q σ->sem P code Q σ
 | .skip,Q,σ,h=>fun c a w hst=>wpIn_skip (lift_mk hst h)
 | .region id ops draw,Q,σ,h=>by
  simp only[awp]at h
  split at h
  ·rename_i hd;subst hd;exact h
  ·rename_i hd
   have:draw=false:=by simpa using hd
   subst this
   exact fun c a w hst=>wpIn_region_list (awpOps_sound hΓ ops.toList σ a w hst h)
 | .seq x y,Q,σ,h=>by
  intro c a w hst
  simp only[awp]at h
  refine wpIn_seq (wpIn_mono (sem_of_awp hΓ x _ σ h c a w hst) ?_)
  rintro e a' w' ⟨c',σ',hx,hst',hq⟩
  cases e with
  | normal=>exact sem_ext (sem_of_awp hΓ y Q σ' hq) hx hst'
  | _=>exact⟨c',σ',hx,hst',hq⟩
 | .cond x y z,Q,σ,h=>by
  intro c a w hst
  simp only[awp]at h
  unfold condw at h
  split at h
  ·rename_i b hb
   have hst':=hst
   obtain⟨hd,hn,F,φ,h2,h3,h4⟩:=hst'
   have hv:=ev_R (F:=F) (φ:=φ) (w:=w) h3.glob h4 x
   rw[hb]at hv
   exact wpIn_cond_split (R_bool.1 hv) (fun hb=>sem_of_awp hΓ y Q σ (h.1 hb) c a w hst) (fun hb=>sem_of_awp hΓ z Q σ (h.2 hb) c a w hst)
  ·exact h.elim
 | .block id body,Q,σ,h=>by
  intro c a w hst
  simp only[awp]at h
  refine wpIn_block (wpIn_mono (sem_of_awp hΓ body _ σ h c a w hst) ?_)
  rintro e a' w' ⟨c',σ',hx,hst',hq⟩
  cases e with
  | exit i =>
   simp only[Exit.inBlock]
   split
   ·rename_i hi;simp only[hi,if_true]at hq;exact⟨c',σ',hx,hst',hq⟩
   ·rename_i hi;simp only[hi,if_false]at hq;exact⟨c',σ',hx,hst',hq⟩
  | _=>exact⟨c',σ',hx,hst',hq⟩
 | .exit id,Q,σ,h=>fun c a w hst=>wpIn_exit (lift_mk hst h)
 | .ret,Q,σ,h=>fun c a w hst=>wpIn_ret (lift_mk hst h)
 | .loop b,Q,σ,h=>h
 | .rangeFunc _ _ _ _,Q,σ,h=>h
 | .scope _,Q,σ,h=>h
 | .label _,Q,σ,h=>fun c a w hst=>wpIn_label (lift_mk hst h)
 | .goto _,Q,σ,h=>fun c a w hst=>wpIn_goto (lift_mk hst h)
 | .refuse _,Q,σ,h=>h.elim
def Le(σ σ':S):Prop:=∀c a w,St c σ a w->St c σ' a w
theorem Le.refl(σ:S):Le σ σ:=fun _ _ _ h=>h
theorem Le.trans{a b c:S}(h:Le a b)(k:Le b c):Le a c:=fun x y z s=>k x y z (h x y z s)
theorem sem_le{code:Code}{Q:Exit->S->Prop}{σ σ':S}(hle:Le σ σ')(h:sem P code Q σ'):sem P code Q σ:=fun c a w hst=>h c a w (hle c a w hst)
theorem sem_seq{x y:Code}{Q:Exit->S->Prop}{σ:S}(h:sem P x (fun e s=>match e with|.normal=>sem P y Q s|e=>Q e s) σ):sem P (.seq x y) Q σ:=by
 intro c a w hst
 refine wpIn_seq (wpIn_mono (h c a w hst) ?_)
 rintro e a' w' ⟨c',σ',hx,hst',hq⟩
 cases e with
 | normal=>exact sem_ext hq hx hst'
 | _=>exact⟨c',σ',hx,hst',hq⟩
def again{τ:Type}(hd:τ->S)(I:τ->Prop)(μ:τ->Nat)(n:Nat)(Q:Exit->S->Prop):Exit->S->Prop :=
 fun e s=>match e with|.normal=>∃x,I x/\μ x<n/\Le s (hd x)|e=>Q e s
theorem sem_loop{τ:Type}{body:Code}{Q:Exit->S->Prop}{σ:S}(hd:τ->S)(I:τ->Prop)(μ:τ->Nat)(x0:τ)(h0:I x0)(hle:Le σ (hd x0))
  (round:∀x,I x->sem P body (again hd I μ (μ x) Q) (hd x)):sem P (.loop body) Q σ:=by
 intro c a w hst
 refine wpIn_loop_ghost (fun n a w=>∃c' x,CExt c c'/\I x/\μ x=n/\St c' (hd x) a w) (μ x0) ⟨c,x0,.refl c,h0,rfl,hle c a w hst⟩ ?_
 rintro n a w ⟨c',x,hx,hI,rfl,hst⟩
 refine wpIn_mono (sem_ext (round x hI) hx hst) ?_
 rintro e a' w' ⟨c2,s,hx2,hst',hq⟩
 cases e with
 | normal =>
  obtain⟨x',hI',hlt,hle'⟩:=hq
  exact⟨μ x',hlt,c2,x',hx2,hI',rfl,hle' c2 a' w' hst'⟩
 | _=>exact⟨c2,s,hx2,hst',hq⟩
def AV.le:AV->AV->Prop:=fun a b=>b=.top∨a=b
def slotsLe:List AV->List AV->Prop
 | [],[]=>True
 | a :: as,b :: bs=>(b=.top∨a=b)/\slotsLe as bs
 | _,_=>False
theorem slotsLe_R{F:Nat->Prop}{φ:Nat->Option Loc}{w:World}:∀{as bs:List AV} {vs:List Value},slotsLe as bs->AV.Rs F φ w as vs->AV.Rs F φ w bs vs
 | [],[],vs,_,h=>h
 | a :: as,b :: bs,vs,hl,h=>by
  simp only[slotsLe]at hl
  simp only[AV.Rs]at h ⊢
  obtain⟨v,vs',rfl,h1,h2⟩:=h
  refine⟨v,vs',rfl,?_,slotsLe_R hl.2 h2⟩
  rcases hl.1 with rfl|rfl
  ·simp only[AV.R]
  ·exact h1
 | [],_ :: _,_,hl,_=>by simp only[slotsLe]at hl
 | _ :: _,[],_,hl,_=>by simp only[slotsLe]at hl
theorem le_slots{σ:S}{slots':List AV}(h:slotsLe σ.slots slots'):Le σ { σ with slots:=slots' }:=by
 rintro c a w ⟨hd,hn,F,φ,h2,h3,h4⟩
 exact⟨hd,hn,F,φ,h2,h3,slotsLe_R h h4⟩
theorem le_slots'{s s':List AV}{own:List Obj}{n0:Nat}{mv:List Nat}(h:slotsLe s s'):Le ⟨s,own,n0,mv⟩ ⟨s',own,n0,mv⟩:=le_slots (σ:=⟨s,own,n0,mv⟩) h
mutual
def AV.under(n:Nat):AV->Prop
 | .sl o _ _=>o<n
 | .ptr o _ _=>o<n
 | .map o=>o<n
 | .yld o=>o<n
 | .agg vs=>AV.unders n vs
 | .tup vs=>AV.unders n vs
 | .fn _ vs=>AV.unders n vs
 | .dat _=>True
 | .nils=>True
 | .nilm=>True
 | .rptr _ _=>True
 | .top=>True
def AV.unders(n:Nat):List AV->Prop
 | []=>True
 | a :: as=>AV.under n a/\AV.unders n as
end
mutual
theorem AV.R_under{F:Nat->Prop}{φ φ':Nat->Option Loc}{w:World}{n:Nat}(hφ:∀o L,o<n->φ o=some L->φ' o=some L):∀(a:AV) (v:Value),a.under n->AV.R F φ w a v->AV.R F φ' w a v
 | .dat d,v,_,h=>by simpa only[AV.R] using h
 | .nils,_,_,h=>by simpa only[AV.R] using h
 | .nilm,_,_,h=>by simpa only[AV.R] using h
 | .sl o' i j,v,hb,h=>by
  simp only[AV.under]at hb
  simp only[AV.R]at h ⊢
  obtain⟨L,h1,h2⟩:=h
  exact⟨L,hφ o' L hb h1,h2⟩
 | .ptr o' i j,v,hb,h=>by
  simp only[AV.under]at hb
  simp only[AV.R]at h ⊢
  obtain⟨L,h1,h2⟩:=h
  exact⟨L,hφ o' L hb h1,h2⟩
 | .rptr ag d,v,_,h=>by simpa only[AV.R] using h
 | .agg vs,v,hb,h=>by
  simp only[AV.under]at hb
  simp only[AV.R]at h ⊢
  obtain⟨arr,h1,h2⟩:=h
  exact⟨arr,h1,AV.Ra_under hφ vs arr hb h2⟩
 | .tup vs,v,hb,h=>by
  simp only[AV.under]at hb
  simp only[AV.R]at h ⊢
  obtain⟨arr,h1,h2⟩:=h
  exact⟨arr,h1,AV.Rs_under hφ vs arr hb h2⟩
 | .map o',v,hb,h=>by
  simp only[AV.under]at hb
  simp only[AV.R]at h ⊢
  obtain⟨L,h1,h2⟩:=h
  exact⟨L,hφ o' L hb h1,h2⟩
 | .yld o',v,hb,h=>by
  simp only[AV.under]at hb
  simp only[AV.R]at h ⊢
  obtain⟨L,h1,h2⟩:=h
  exact⟨L,hφ o' L hb h1,h2⟩
 | .fn f vs,v,hb,h=>by
  simp only[AV.under]at hb
  simp only[AV.R]at h ⊢
  obtain⟨arr,h1,h2⟩:=h
  exact⟨arr,h1,AV.Rs_under hφ vs arr hb h2⟩
 | .top,_,_,_=>by simp only[AV.R]
theorem AV.Rs_under{F:Nat->Prop}{φ φ':Nat->Option Loc}{w:World}{n:Nat}(hφ:∀o L,o<n->φ o=some L->φ' o=some L):∀(as:List AV) (vs:List Value),AV.unders n as->AV.Rs F φ w as vs->AV.Rs F φ' w as vs
 | [],_,_,h=>by simpa only[AV.Rs] using h
 | a :: as,vs,hb,h=>by
  simp only[AV.unders]at hb
  simp only[AV.Rs]at h ⊢
  obtain⟨v,vs',h1,h2,h3⟩:=h
  exact⟨v,vs',h1,AV.R_under hφ a v hb.1 h2,AV.Rs_under hφ as vs' hb.2 h3⟩
theorem AV.Ra_under{F:Nat->Prop}{φ φ':Nat->Option Loc}{w:World}{n:Nat}(hφ:∀o L,o<n->φ o=some L->φ' o=some L):∀(as:List AV) (vs:List Value),AV.unders n as->AV.Ra F φ w as vs->AV.Ra F φ' w as vs
 | [],_,_,h=>by simpa only[AV.Ra] using h
 | a :: as,vs,hb,h=>by
  simp only[AV.unders]at hb
  simp only[AV.Ra]at h ⊢
  obtain⟨v,vs',h1,h0,h2,h3⟩:=h
  exact⟨v,vs',h1,h0,AV.R_under hφ a v hb.1 h2,AV.Ra_under hφ as vs' hb.2 h3⟩
end
def Obj.under(n:Nat):Obj->Prop
 | .box cs=>AV.unders n cs
 | .lp _ cs=>AV.unders n cs
 | .bld _ _ cs=>AV.unders n cs
 | .vec cs=>AV.unders n cs
 | .tab _ cs=>AV.unders n cs
 | _=>True
theorem le_drop{s:List AV}{own ex:List Obj}{n0:Nat}{mv:List Nat}(h0:n0<=own.length)(hs:AV.unders own.length s)(ho:∀x∈own,x.under own.length):Le ⟨s,own++ex,n0,mv⟩ ⟨s,own,n0,mv⟩:=by
 rintro c a w ⟨hd,hn,F,φ,h2,h3,h4⟩
 have hφ:∀o L,o<own.length->φ o=some L->(fun i=>if i<own.length then φ i else none) o=some L:=fun o L ho h=>by simp only[ho,if_true];exact h
 refine⟨hd,hn,F,fun i=>if i<own.length then φ i else none,⟨h2.sub,h2.ext,fun o L hlt hm h=>?_,h2.rest,fun o L' ho' hn'=>?_,h2.frsh⟩,?_,AV.Rs_under hφ s _ hs h4⟩
 ·have h':=h2.keep o L hlt hm h
  rw[← hn]at hlt
  have:o<own.length:=Nat.lt_of_lt_of_le hlt h0
  simp only[this,if_true]
  exact h'
 ·split at ho'
  ·exact h2.orig o L' ho' hn'
  ·cases ho'
 ·constructor
  ·exact h3.fb
  ·intro o L ho' hn'
   split at ho'
   ·exact h3.live o L ho' hn'
   ·cases ho'
  ·intro o o' L L' h1 h2 n1 n2 hne
   split at h1 <;> split at h2 <;> first|exact h3.inj o o' L L' h1 h2 n1 n2 hne|cases h1|cases h2
  ·intro o obj ho'
   have hlt:o<own.length:=by
    rcases Nat.lt_or_ge o own.length with h|h
    ·exact h
    ·simp only at ho';rw[List.getElem?_eq_none h]at ho';cases ho'
   have hrep:=h3.rep o obj (by simp only;rw[List.getElem?_append_left hlt];exact ho')
   simp only[hlt,if_true]
   have hmem:=ho obj (List.mem_of_getElem? ho')
   cases hl:φ o with
   | none=>rw[hl]at hrep;cases obj <;> simp only[ObjR]at hrep ⊢
   | some L =>
    rw[hl]at hrep
    cases obj with
    | vec cs =>
     simp only[ObjR]at hrep ⊢
     obtain⟨q1,q2⟩:=hrep
     refine⟨q1,?_⟩
     rcases q2 with q2|⟨q2,arr,ty,q3,q4,q5,vs,q6,q7⟩
     ·exact .inl q2
     ·exact .inr ⟨q2,arr,ty,q3,q4,q5,vs,AV.Ra_under hφ _ _ hmem q6,q7⟩
    | tab k0 cs =>
     simp only[ObjR]at hrep ⊢
     obtain⟨q1,q2⟩:=hrep
     refine⟨q1,?_⟩
     rcases q2 with q2|⟨q2,arr,ty,q3,q4,q5,vs,q6,q7⟩
     ·exact .inl q2
     ·exact .inr ⟨q2,arr,ty,q3,q4,q5,vs,AV.Ra_under hφ _ _ hmem q6,q7⟩
    | box cs =>
     simp only[ObjR]at hrep ⊢
     obtain⟨q1,q2,arr,ty,q3,q4,q5⟩:=hrep
     exact⟨q1,q2,arr,ty,q3,q4,AV.Ra_under hφ _ _ hmem q5⟩
    | lp r0 cs =>
     simp only[ObjR]at hrep ⊢
     obtain⟨q1,q2,arr,ty,q3,q4,q5⟩:=hrep
     exact⟨q1,q2,arr,ty,q3,q4,AV.Rs_under hφ _ _ hmem q5⟩
    | bld T0 u0 cs =>
     simp only[ObjR]at hrep ⊢
     obtain⟨q1,q2,arr,ty,q3,q4,q5⟩:=hrep
     exact⟨q1,q2,arr,ty,q3,q4,AV.Rs_under hφ _ _ hmem q5⟩
    | row ag xs=>simp only[ObjR]at hrep ⊢;exact hrep
    | brow e0 bs0=>simp only[ObjR]at hrep ⊢;exact hrep
    | map m=>simp only[ObjR]at hrep ⊢;exact hrep
    | dead=>simp only[ObjR]
  ·intro o ho'
   simp only at ho' ⊢
   rw[if_neg (by omega)]
  ·exact h3.glob
theorem le_addnil{s:List AV}{own:List Obj}{n0:Nat}{mv:List Nat}(i:Nat)(ag:Option Nat)(hi:s.getD i .top=.nils)(h0:n0<=own.length):Le ⟨s,own,n0,mv⟩ ⟨s.set i (.sl own.length 0 0),own++[.row ag []],n0,mv⟩:=by
 rintro c a w ⟨hd,hn,F,φ,h2,h3,h4⟩
 let L:Loc:=⟨true,0,0,0,es ag⟩
 have hv:=AV.Rs_get h4 i
 simp only at hv
 rw[hi]at hv
 have hmono:=ext_old h3 L
 have h4':=AV.Rs_mono (fun _ h=>h) (Same.refl F w) hmono _ _ h4
 refine⟨hd,hn,F,ext φ own.length L,⟨h2.sub,h2.ext,fun o L' hlt hm h=>hmono o L' (h2.keep o L' hlt hm h),h2.rest,fun o L' ho' hn'=>?_,h2.frsh⟩,?_,?_⟩
 ·unfold ext at ho'
  split at ho'
  ·cases ho';cases hn'
  ·exact h2.orig o L' ho' hn'
 ·exact h3.new (Nat.le_refl _) (fun _ _=>rfl) (fun hn'=>by cases hn') (by simp only[ObjR];exact⟨rfl,.inl ⟨rfl,trivial⟩⟩)
 ·have e:=R_nils.1 hv
  have hset:=AV.Rs_set h4' i (.sl own.length 0 0) (a.tmps.toList.getD i undef) (by
   rw[e]
   simp only[AV.R]
   exact⟨L,ext_self _ _ _,.inl ⟨rfl,by simp⟩⟩)
  have hself:a.tmps.toList.set i (a.tmps.toList.getD i undef)=a.tmps.toList:=by
   apply List.ext_getElem?
   intro k
   rw[List.getElem?_set]
   split
   ·rename_i hk
    subst hk
    split
    ·rename_i hlt
     simp[List.getD_eq_getElem?_getD,List.getElem?_eq_getElem hlt]
    ·rename_i hge
     rw[List.getElem?_eq_none (by omega)]
   ·rfl
  rw[hself]at hset
  exact hset
end
end Go.AM
namespace Go.AM
open Go
mutual
def AV.frz(o:Nat)(ag:Option Nat)(xs:List D):AV->AV
 | .sl o' i j=>if o'=o then (if i+j<=xs.length then .dat (.sl ag ((xs.drop i).take j)) else .top) else .sl o' i j
 | .ptr o' i j=>if o'=o then .top else .ptr o' i j
 | .map o'=>if o'=o then .top else .map o'
 | .yld o'=>if o'=o then .top else .yld o'
 | .agg vs=>.agg (AV.frzs o ag xs vs)
 | .tup vs=>.tup (AV.frzs o ag xs vs)
 | .fn f vs=>.fn f (AV.frzs o ag xs vs)
 | .dat d=>.dat d
 | .nils=>.nils
 | .nilm=>.nilm
 | .rptr a d=>.rptr a d
 | .top=>.top
def AV.frzs(o:Nat)(ag:Option Nat)(xs:List D):List AV->List AV
 | []=>[]
 | a :: as=>a.frz o ag xs :: AV.frzs o ag xs as
end
theorem AV.frzs_length{o:Nat}{ag:Option Nat}{xs:List D}:∀(cs:List AV),(AV.frzs o ag xs cs).length=cs.length
 | []=>rfl
 | c :: cs=>by simp only[AV.frzs,List.length_cons,AV.frzs_length cs]
def Obj.frz(o:Nat)(ag:Option Nat)(xs:List D):Obj->Obj
 | .box cs=>.box (AV.frzs o ag xs cs)
 | .lp r cs=>.lp r (AV.frzs o ag xs cs)
 | .bld T u cs=>.bld T u (AV.frzs o ag xs cs)
 | .vec cs=>.vec (AV.frzs o ag xs cs)
 | .tab k cs=>.tab k (AV.frzs o ag xs cs)
 | x=>x
section
variable {P:Program} {F F':Nat->Prop} {φ φ':Nat->Option Loc} {w:World} {o:Nat} {ag:Option Nat} {xs:List D} {L:Loc}
theorem frz_sl(hF:∀b,F b->F' b)(ho:φ o=some L)(hFL:L.nil=false->F' L.b)(hr:ObjR F φ w (some L) (.row ag xs)){i j:Nat}{v:Value}(h:AV.R F φ w (.sl o i j) v)(hij:i+j<=xs.length) :
  AV.R F' φ' w (.dat (.sl ag ((xs.drop i).take j))) v:=by
 have hlen:((xs.drop i).take j).length=j:=by simp;omega
 simp only[AV.R]at h
 obtain⟨L',h1,h2⟩:=h
 rw[ho]at h1
 cases h1
 simp only[ObjR]at hr
 obtain⟨hsz,hr⟩:=hr
 refine R_sl.2 ?_
 rcases h2 with⟨hn,rfl,rfl,rfl⟩|⟨hn,c,cap,rfl,g1,g2,g3,g4⟩
 ·exact⟨none,0,by simp,by simp,by simp,.inl (by simp)⟩
 ·rcases hr with⟨hnil,_⟩|⟨_,_,hfit,hrow⟩
  ·rw[hn]at hnil;cases hnil
  refine⟨_,cap,by rw[hlen],by omega,g2,?_⟩
  by_cases h0:cap=0
  ·left
   apply List.eq_nil_of_length_eq_zero
   omega
  ·right
   refine⟨L.b,c,rfl,hFL hn,?_⟩
   rw[g3.resolve_left h0,hsz]
   exact D.Cr_congr hF (Same.refl F w) ag L.b L.b _ _ _ (fun _ _=>rfl) (D.Cr_drop _ _ hrow)
mutual
theorem AV.R_frz(hF:∀b,F b->F' b)(hφ:∀o' L',o'≠o->φ o'=some L'->φ' o'=some L')(ho:φ o=some L)(hFL:L.nil=false->F' L.b)(hr:ObjR F φ w (some L) (.row ag xs)) :
  ∀(a:AV) (v:Value),AV.R F φ w a v->AV.R F' φ' w (a.frz o ag xs) v
 | .dat d,v,h=>by
  simp only[AV.frz,AV.R]at h ⊢
  exact D.R_mono hF (Same.refl F w) h
 | .nils,_,h=>by simpa only[AV.frz,AV.R] using h
 | .nilm,_,h=>by simpa only[AV.frz,AV.R] using h
 | .sl o' i j,v,h=>by
  simp only[AV.frz]
  split
  ·rename_i e
   subst e
   split
   ·rename_i hij
    exact frz_sl hF ho hFL hr h hij
   ·simp only[AV.R]
  ·rename_i hne
   simp only[AV.R]at h ⊢
   obtain⟨L',h1,h2⟩:=h
   exact⟨L',hφ o' L' hne h1,h2⟩
 | .ptr o' i j,v,h=>by
  simp only[AV.frz]
  split
  ·simp only[AV.R]
  ·rename_i hne
   simp only[AV.R]at h ⊢
   obtain⟨L',h1,h2⟩:=h
   exact⟨L',hφ o' L' hne h1,h2⟩
 | .rptr a d,v,h=>by
  simp only[AV.frz,AV.R]at h ⊢
  obtain⟨b,off,cs,h1,h2,h5,h3,h6,h4⟩:=h
  exact⟨b,off,cs,h1,hF b h2,h5,h3,h6,D.C_mono hF (Same.refl F w) _ _ h4⟩
 | .agg vs,v,h=>by
  simp only[AV.frz,AV.R]at h ⊢
  obtain⟨arr,h1,h2⟩:=h
  exact⟨arr,h1,AV.Ra_frz hF hφ ho hFL hr vs arr h2⟩
 | .tup vs,v,h=>by
  simp only[AV.frz,AV.R]at h ⊢
  obtain⟨arr,h1,h2⟩:=h
  exact⟨arr,h1,AV.Rs_frz hF hφ ho hFL hr vs arr h2⟩
 | .map o',v,h=>by
  simp only[AV.frz]
  split
  ·simp only[AV.R]
  ·rename_i hne
   simp only[AV.R]at h ⊢
   obtain⟨L',h1,h2⟩:=h
   exact⟨L',hφ o' L' hne h1,h2⟩
 | .yld o',v,h=>by
  simp only[AV.frz]
  split
  ·simp only[AV.R]
  ·rename_i hne
   simp only[AV.R]at h ⊢
   obtain⟨L',h1,h2⟩:=h
   exact⟨L',hφ o' L' hne h1,h2⟩
 | .fn f vs,v,h=>by
  simp only[AV.frz,AV.R]at h ⊢
  obtain⟨arr,h1,h2⟩:=h
  exact⟨arr,h1,AV.Rs_frz hF hφ ho hFL hr vs arr h2⟩
 | .top,_,_=>by simp only[AV.frz,AV.R]
theorem AV.Rs_frz(hF:∀b,F b->F' b)(hφ:∀o' L',o'≠o->φ o'=some L'->φ' o'=some L')(ho:φ o=some L)(hFL:L.nil=false->F' L.b)(hr:ObjR F φ w (some L) (.row ag xs)) :
  ∀(as:List AV) (vs:List Value),AV.Rs F φ w as vs->AV.Rs F' φ' w (AV.frzs o ag xs as) vs
 | [],_,h=>by simpa only[AV.frzs,AV.Rs] using h
 | a :: as,vs,h=>by
  simp only[AV.frzs,AV.Rs]at h ⊢
  obtain⟨v,vs',h1,h2,h3⟩:=h
  exact⟨v,vs',h1,AV.R_frz hF hφ ho hFL hr a v h2,AV.Rs_frz hF hφ ho hFL hr as vs' h3⟩
theorem AV.Ra_frz(hF:∀b,F b->F' b)(hφ:∀o' L',o'≠o->φ o'=some L'->φ' o'=some L')(ho:φ o=some L)(hFL:L.nil=false->F' L.b)(hr:ObjR F φ w (some L) (.row ag xs)) :
  ∀(as:List AV) (vs:List Value),AV.Ra F φ w as vs->AV.Ra F' φ' w (AV.frzs o ag xs as) vs
 | [],_,h=>by simpa only[AV.frzs,AV.Ra] using h
 | a :: as,vs,h=>by
  simp only[AV.frzs,AV.Ra]at h ⊢
  obtain⟨v,vs',h1,h0,h2,h3⟩:=h
  exact⟨v,vs',h1,h0,AV.R_frz hF hφ ho hFL hr a v h2,AV.Ra_frz hF hφ ho hFL hr as vs' h3⟩
end
theorem le_freeze{s:List AV}{own:List Obj}{n0:Nat}{mv:List Nat}(o:Nat){ag:Option Nat}{xs:List D}(ho:own[o]?=some (.row ag xs))(h0:n0<=o) :
  Le ⟨s,own,n0,mv⟩ ⟨AV.frzs o ag xs s,(own.map (Obj.frz o ag xs)).set o .dead,n0,mv⟩:=by
 rintro c a w ⟨hd,hn,F,φ,h2,h3,h4⟩
 have hlt:o<own.length:=by
  rcases Nat.lt_or_ge o own.length with h|h
  ·exact h
  ·rw[List.getElem?_eq_none h]at ho;cases ho
 have hrep:=h3.rep o _ ho
 obtain⟨L,hL⟩:∃L,φ o=some L:=by
  cases hl:φ o with
  | none=>rw[hl]at hrep;simp only[ObjR]at hrep
  | some L=>exact⟨L,rfl⟩
 rw[hL]at hrep
 let F':Nat->Prop:=fun b=>F b∨(L.nil=false/\b=L.b)
 let φ':Nat->Option Loc:=fun i=>if i=o then none else φ i
 have hF:∀b,F b->F' b:=fun b hb=>.inl hb
 have hFL:L.nil=false->F' L.b:=fun hn=>.inr ⟨hn,rfl⟩
 have hφ:∀o' L',o'≠o->φ o'=some L'->φ' o'=some L':=fun o' L' hne h=>by simp only[φ',hne,if_false];exact h
 refine⟨hd,hn,F',φ',⟨fun b hb=>hF b (h2.sub b hb),h2.ext,fun o' L' hlt' hm h=>?_,h2.rest,fun o' L' ho' hn'=>?_,fun b hb=>?_⟩,?_,AV.Rs_frz hF hφ hL hFL hrep _ _ h4⟩
 ·have:o'≠o:=by rw[← hn]at hlt';simp only at hlt';omega
  exact hφ o' L' this (h2.keep o' L' hlt' hm h)
 ·simp only[φ']at ho'
  split at ho'
  ·cases ho'
  ·exact h2.orig o' L' ho' hn'
 ·rcases hb with hb|⟨hn',rfl⟩
  ·exact h2.frsh b hb
  ·rcases h2.orig o L hL hn' with h|h
   ·exact .inr (.inl h)
   ·exact .inr (.inr h)
 ·constructor
  ·intro b hb
   rcases hb with hb|⟨hn',rfl⟩
   ·exact h3.fb b hb
   ·exact(h3.live o L hL hn').2
  ·intro o' L' ho' hn'
   simp only[φ']at ho'
   split at ho'
   ·cases ho'
   ·rename_i hne
    refine⟨fun hF'=>?_,(h3.live o' L' ho' hn').2⟩
    rcases hF' with hF'|⟨hn2,hb⟩
    ·exact(h3.live o' L' ho' hn').1 hF'
    ·exact h3.inj o' o L' L ho' hL hn' hn2 hne hb
  ·intro o1 o2 L1 L2 h1 h2' n1 n2 hne
   simp only[φ']at h1 h2'
   split at h1 <;> split at h2' <;> first|exact h3.inj o1 o2 L1 L2 h1 h2' n1 n2 hne|cases h1|cases h2'
  ·intro o' obj ho'
   rw[List.getElem?_set]at ho'
   by_cases e:o=o'
   ·subst e
    simp only[if_true,List.length_map,hlt,Option.some.injEq]at ho'
    subst ho'
    simp only[φ',if_true,ObjR]
   ·simp only[e,if_false,List.getElem?_map,Option.map_eq_some_iff]at ho'
    obtain⟨ob,hob,rfl⟩:=ho'
    have hrep':=h3.rep o' ob hob
    simp only[φ',if_neg (fun e':o'=o=>e e'.symm)]
    cases hl:φ o' with
    | none=>rw[hl]at hrep';cases ob <;> simp only[ObjR,Obj.frz]at hrep' ⊢
    | some L' =>
     rw[hl]at hrep'
     cases ob with
     | vec cs =>
      simp only[ObjR,Obj.frz]at hrep' ⊢
      obtain⟨q1,q2⟩:=hrep'
      refine⟨q1,?_⟩
      have hl':(AV.frzs o ag xs cs).length=cs.length:=AV.frzs_length _
      rcases q2 with⟨q2,q3⟩|⟨q2,arr,ty,q3,q4,q5,vs,q6,q7⟩
      ·subst q3;exact .inl ⟨q2,rfl⟩
      ·exact .inr ⟨q2,arr,ty,q3,q4,by rw[hl'];exact q5,vs,AV.Ra_frz hF hφ hL hFL hrep _ _ q6,by rw[hl'];exact q7⟩
     | tab k0 cs =>
      simp only[ObjR,Obj.frz]at hrep' ⊢
      obtain⟨q1,q2⟩:=hrep'
      refine⟨q1,?_⟩
      have hl':(AV.frzs o ag xs cs).length=cs.length:=AV.frzs_length _
      rcases q2 with⟨q2,q3⟩|⟨q2,arr,ty,q3,q4,q5,vs,q6,q7⟩
      ·subst q3;exact .inl ⟨q2,rfl⟩
      ·exact .inr ⟨q2,arr,ty,q3,q4,by rw[hl'];exact q5,vs,AV.Ra_frz hF hφ hL hFL hrep _ _ q6,by rw[hl'];exact q7⟩
     | box cs =>
      simp only[ObjR,Obj.frz]at hrep' ⊢
      obtain⟨q1,q2,arr,ty,q3,q4,q5⟩:=hrep'
      exact⟨q1,q2,arr,ty,q3,q4,AV.Ra_frz hF hφ hL hFL hrep _ _ q5⟩
     | lp r0 cs =>
      simp only[ObjR,Obj.frz]at hrep' ⊢
      obtain⟨q1,q2,arr,ty,q3,q4,q5⟩:=hrep'
      exact⟨q1,q2,arr,ty,q3,q4,AV.Rs_frz hF hφ hL hFL hrep _ _ q5⟩
     | bld T0 u0 cs =>
      simp only[ObjR,Obj.frz]at hrep' ⊢
      obtain⟨q1,q2,arr,ty,q3,q4,q5⟩:=hrep'
      exact⟨q1,q2,arr,ty,q3,q4,AV.Rs_frz hF hφ hL hFL hrep _ _ q5⟩
     | row ag' xs' =>
      simp only[ObjR,Obj.frz]at hrep' ⊢
      obtain⟨q1,q2⟩:=hrep'
      refine⟨q1,?_⟩
      rcases q2 with q2|⟨q2,q3,q4,q5⟩
      ·exact .inl q2
      ·exact .inr ⟨q2,q3,q4,D.Cr_congr hF (Same.refl F w) ag' L'.b L'.b _ _ _ (fun _ _=>rfl) q5⟩
     | brow e0 bs0=>simpa only[ObjR,Obj.frz] using hrep'
     | map m =>
      simp only[ObjR,Obj.frz]at hrep' ⊢
      obtain⟨q1,es,clock,q3,q4⟩:=hrep'
      exact⟨q1,es,clock,q3,mapR_mono hF (Same.refl F w) _ _ q4⟩
     | dead=>simp only[ObjR,Obj.frz]
  ·intro o' ho'
   simp only[List.length_set,List.length_map]at ho'
   simp only[φ']
   rw[if_neg (by omega)]
   exact h3.out o' ho'
  ·exact h3.glob.mono hF (Same.refl F w)
end
def resL(P:Program):List ResultVar->S->(List AV->Prop)->Prop
 | [],_,K=>K []
 | .tmp t :: rs,σ,K=>resL P rs σ (fun vs=>K (σ.slots.getD t .top :: vs))
 | .cell a t :: rs,σ,K=>loadw (tyOf P t) σ.own (σ.slots.getD a .top) (fun v=>resL P rs σ (fun vs=>K (v :: vs)))
def resV:List AV->AV
 | [v]=>v
 | vs=>.tup vs
def post(P:Program)(fn:Func)(v:AV)(own':List Obj)(mv:List Nat):Exit->S->Prop :=
 fun e σ=>(match e with|.ret=>True|.normal=>True|_=>False) /\
  resL P fn.results.toList σ (fun vs=>∃mv',Le ⟨[resV vs],σ.own,σ.n0,σ.mv⟩ ⟨[v],own',σ.n0,mv'⟩/\∀o,o∈mv'->o∈mv)
section
variable {P:Program} {Γ:Nat->Contract}
def resU:List Value->Value
 | [u]=>u
 | us=>.tuple us.toArray
def resF(tmps:Array Value):ResultVar->Sem Value
 | .tmp t=>pure (tmps.getD t undef)
 | .cell a t=>do loadVar t (← asAddr (tmps.getD a undef))
theorem asAddr_some(a:Addr):asAddr (.pointer (some a))=pure a:=rfl
theorem resL_sound{F:Nat->Prop}{φ:Nat->Option Loc}{w:World}{σ:S}(tmps:Array Value)(hc:Conc F φ σ.own w)(hs:AV.Rs F φ w σ.slots tmps.toList):∀(rs:List ResultVar) (K:List AV->Prop),resL P rs σ K ->
  ∃vs us,(rs.mapM (resF tmps)).run P w=.ok us w/\AV.Rs F φ w vs us/\K vs
 | [],K,h=>⟨[],[],rfl,by simp[AV.Rs],h⟩
 | .tmp t :: rs,K,h=>by
  simp only[resL]at h
  obtain⟨vs,us,h1,h2,h3⟩:=resL_sound tmps hc hs rs _ h
  refine⟨_,tmps.getD t undef :: us,?_,?_,h3⟩
  ·simp only[List.mapM_cons,resF,Sem.run_bind,Sem.run_pure,Result.andThen_ok,h1]
  ·simp only[AV.Rs]
   have:=AV.Rs_get hs t
   exact⟨_,us,rfl,by simpa using this,h2⟩
 | .cell a t :: rs,K,h=>by
  simp only[resL]at h
  have hv:=AV.Rs_get hs a
  obtain⟨v,c,g1,g2,g3⟩:=loadw_sound (P:=P) hc hv h
  obtain⟨vs,us,h1,h2,h3⟩:=resL_sound tmps hc hs rs _ g3
  have hptr:∃ad,tmps.getD a undef=.pointer (some ad):=by
   unfold loadw at h
   split at h
   ·rename_i o i j _ hx
    rw[hx]at hv
    simp only[AV.R]at hv
    obtain⟨L,_,_,e⟩:=hv
    exact⟨_,by simpa using e⟩
   ·rename_i ag d _ hx
    rw[hx]at hv
    simp only[AV.R]at hv
    obtain⟨b,off,cs,e,_⟩:=hv
    exact⟨_,by simpa using e⟩
   ·exact h.elim
  obtain⟨ad,had⟩:=hptr
  have had':tmps.toList.getD a undef=.pointer (some ad):=by simpa using had
  rw[had']at g1
  simp only[Instr.loadAt,Instr.sureAddr,pure_bind]at g1
  refine⟨_,c :: us,?_,?_,h3⟩
  ·simp only[List.mapM_cons,resF,Sem.run_bind,had,asAddr_some,Sem.run_pure,Result.andThen_ok,g1,h1]
  ·simp only[AV.Rs]
   exact⟨c,us,rfl,g2,h2⟩
theorem results_run{fn:Func}{tmps:Array Value}{w:World}{us:List Value}(h:(fn.results.toList.mapM (resF tmps)).run P w=.ok us w) :
  (results fn tmps).run P w=.ok (resU us) w:=by
 have e:results fn tmps=(do
   let vs ← fn.results.mapM (resF tmps)
   pure (if h:vs.size=1 then vs[0] else .tuple vs)):=by
  unfold results
  congr 1
 rw[e,Array.mapM_eq_mapM_toList]
 simp only[Sem.run_bind,Sem.run_map,h,Result.andThen_ok,Sem.run_pure]
 congr 1
 match us with
 | []=>rfl
 | [u]=>rfl
 | u :: v :: us=>rfl
theorem resV_R{F:Nat->Prop}{φ:Nat->Option Loc}{w:World}{vs:List AV}{us:List Value}(h:AV.Rs F φ w vs us):AV.R F φ w (resV vs) (resU us):=by
 match vs,us,h with
 | [],us,h =>
  simp only[AV.Rs]at h
  subst h
  simp only[resV,AV.R]
  exact⟨[],rfl,by simp[AV.Rs]⟩
 | [v],us,h =>
  simp only[AV.Rs]at h
  obtain⟨u,us',rfl,h1,rfl⟩:=h
  exact h1
 | v :: v' :: vs,us,h =>
  have h':=h
  simp only[AV.Rs]at h
  obtain⟨u,us',rfl,h1,u',us'',rfl,_⟩:=h
  simp only[resV,AV.R]
  exact⟨_,rfl,h'⟩
def OkF(P:Program)(g:Nat)(C:Contract):Prop :=
 ∀ args own v own' mv, C args own v own' mv -> (∃ fn body, P.funcs[g]? = some fn /\ fn.body = some body /\ fn.name ≠ "runtime.NumGoroutine") /\
  ∀F φ w vs,Conc F φ own w->AV.Rs F φ w args vs->Calls P g vs.toArray w fun e w'=>∃r F' φ',e=.returned r/\After F φ w F' φ' own' w' mv/\AV.R F' φ' w' v r
theorem leaves_marks{F:Fence}{n:Nat}{fn:Func}{tmps:Array Value}{R:Ending->World->Prop}:∀(ds:List Deferred) (w:World),(∀d∈ds,∃b,d=markD b/\w.heap[b]?=some (.deferred (some [])))->ds.Nodup ->
  (∀w',w'.heap.size=w.heap.size->w'.os=w.os->w'.tape=w.tape->w'.output=w.output/\w'.drawn=w.drawn->(∀b,markD b∉ds->w'.heap[b]?=w.heap[b]?)->LeavesIn F n P fn tmps R [] .returning w')->LeavesInM F n P fn tmps R ds .returning w
 | [],w,_,_,h=>h w rfl rfl rfl ⟨rfl,rfl⟩ (fun _ _=>rfl)
 | d :: ds,w,h1,h2,h=>by
  obtain⟨b,rfl,hb⟩:=h1 d (by simp)
  have h3:=List.nodup_cons.1 h2
  refine⟨by simp,.inl ⟨b,_,rfl,run_takeDeferred hb,leaves_marks ds _ (fun d hd=>?_) h3.2 (fun w' k1 k2 k3 k4 k5=>h w' (by rw[k1,World.putObj_size]) k2 k3 k4 fun b' hb'=>?_)⟩⟩
  ·obtain⟨b',rfl,hb'⟩:=h1 d (by simp[hd])
   refine⟨b',rfl,?_⟩
   rw[World.putObj_heap_other (fun e=>?_)]
   ·exact hb'
   ·subst e;exact h3.1 hd
  ·simp only[List.mem_cons,not_or]at hb'
   rw[k5 b' hb'.2,World.putObj_heap_other (fun e=>?_)]
   subst e;exact hb'.1 rfl
theorem Conc.beside{F:Nat->Prop}{φ:Nat->Option Loc}{own:List Obj}{w w':World}(h:Conc F φ own w)(hs:w.heap.size<=w'.heap.size)(hF:Same F w w')
  (ho:∀o L,φ o=some L->L.nil=false->w'.heap[L.b]?=w.heap[L.b]?):Conc F φ own w' where
 fb b hb:=Nat.lt_of_lt_of_le (h.fb b hb) hs
 live o L ho hn:=⟨(h.live o L ho hn).1,Nat.lt_of_lt_of_le (h.live o L ho hn).2 hs⟩
 inj:=h.inj
 rep o obj hob:=(h.rep o obj hob).same hF (fun _ _ h=>h) (fun L hL hn=>ho o L hL hn)
 out:=h.out
 glob:=h.glob.mono (fun _ h=>h) hF
theorem calls_of_sem{g:Nat}{fn:Func}{body:Code}(hf:P.funcs[g]?=some fn)(hb:fn.body=some body){args:List AV}{own:List Obj}{n0:Nat}{v:AV}{own':List Obj}{mv:List Nat}
  (h:sem P body (post P fn v own' mv) ⟨args++List.replicate (fn.ntmps - args.length) .top,own,n0,[]⟩)
  {F:Nat->Prop} {φ:Nat->Option Loc} {w:World} {vs:List Value} (hn0:∀o L,φ o=some L->o<n0) (hc:Conc F φ own w) (hs:AV.Rs F φ w args vs) :
  Calls P g vs.toArray w fun e w'=>∃r F' φ',e=.returned r/\After F φ w F' φ' own' w' mv/\AV.R F' φ' w' v r:=by
 refine(callsIn_wide (n:=0)).1 (callsIn_of_wp_marks hf hb trivial ?_)
 let c:Ctx:=⟨F,w,φ,n0,none,[]⟩
 have hlen:=AV.Rs_length hs
 have hok:c.ok:=Ctx.ok0 hc
 have hst:St c ⟨args++List.replicate (fn.ntmps - args.length) .top,own,n0,[]⟩ { tmps:=vs.toArray++Array.replicate (fn.ntmps - vs.toArray.size) undef,defers:=[] } w:=by
  refine⟨⟨rfl,hok⟩,rfl,F,φ,⟨fun _ h=>h,Ext.refl F w,fun _ _ _ _ h=>h,fun _ _ _=>rfl,fun o L' ho hn=>.inr ⟨o,L',ho,hn,rfl⟩,fun b hb=>.inl hb⟩,hc,?_⟩
  simp only[Array.toList_append,Array.toList_replicate,List.size_toArray]
  exact AV.Rs_append hs (AV.Rs_tops _ (by simp[hlen]))
 refine wpIn_mono (h c _ w hst) ?_
 rintro e a' w' ⟨c',σ',hx,hst',he,hres⟩
 obtain⟨⟨hd,hok'⟩,hn,F',φ',s2,s3,s4⟩:=hst'
 have fin:LeavesInM Fence.wide 0 P fn a'.tmps (fun e w'=>∃r F' φ',e=.returned r/\After F φ w F' φ' own' w' mv/\AV.R F' φ' w' v r) a'.defers .returning w':=by
  rw[hd]
  refine leaves_marks c'.ds w' (fun d hdd=>?_) hok'.nod (fun w'' k1 k2 k3 k4 k5=>?_)
  ·obtain⟨b,rfl,hb1,hb2⟩:=hok'.mks d hdd
   exact⟨b,rfl,((s2.third hb1).2.2.2).trans hb2⟩
  have hmk:∀b,markD b∈c'.ds->¬F' b/\(∀o L,φ' o=some L->L.nil=false->L.b≠b)/\w.heap.size<=b:=fun b hbd=>by
   obtain⟨b',e,hb1,hb2⟩:=hok'.mks _ hbd
   have e':b=b':=by simpa [markD] using e
   subst e'
   obtain⟨_,q1,q2,_⟩:=s2.third hb1
   refine⟨q1,q2,?_⟩
   rcases hx.mks _ hbd with h1|⟨b',e,h1⟩
   ·cases h1
   ·have e':b=b':=by simpa [markD] using e
    subst e';exact h1
  have hSame:Same F' w' w'':=fun b hb=>k5 b fun hm=>(hmk b hm).1 hb
  have hOwn:∀o L,φ' o=some L->L.nil=false->w''.heap[L.b]?=w'.heap[L.b]?:=fun o L ho hn=>k5 L.b fun hm=>(hmk L.b hm).2.1 o L ho hn rfl
  have s3':=s3.beside (Nat.le_of_eq k1.symm) hSame hOwn
  have s4':=AV.Rs_mono (fun _ h=>h) hSame (fun _ _ h=>h) _ _ s4
  have s2c:=hx.since _ _ _ _ s2
  have s2':Since c σ'.mv F' φ' w'':=⟨s2c.sub,⟨k2.trans s2c.ext.os,k3.trans s2c.ext.tape,k4.1.trans s2c.ext.output,by rw[k1];exact s2c.ext.size,s2c.ext.same.trans (hSame.mono s2c.sub),by rw[k4.2];exact s2c.ext.drn⟩,s2c.keep,
   fun b hb hall=>(k5 b fun hm=>absurd (hmk b hm).2.2 (by have:b<w.heap.size:=hb;omega)).trans (s2c.rest b hb hall),s2c.orig,s2c.frsh⟩
  obtain⟨avs,us,g1,g2,mv',g3,g4⟩:=resL_sound a'.tmps s3' s4' _ _ hres
  have hrun:=results_run g1
  have hR:=resV_R g2
  refine⟨_,hrun,resU us,?_⟩
  have hp:St c ⟨[resV avs],σ'.own,σ'.n0,σ'.mv⟩ { tmps:=#[(resU us)],defers:=[] } w'' :=
   ⟨⟨rfl,hok⟩,hn.trans hx.n0,F',φ',s2',s3',by simp only[AV.Rs];exact⟨_,[],rfl,hR,rfl⟩⟩
  obtain⟨_,_,F2,φ2,t2,t3,t4⟩:=g3 c _ w'' hp
  simp only[AV.Rs]at t4
  obtain⟨u,us',e1,t5,e2⟩:=t4
  subst e2
  simp only[List.cons.injEq,and_true]at e1
  refine⟨F2,φ2,rfl,?_,by rw[e1];exact t5⟩
  exact { sub:=t2.sub,ext:=t2.ext,conc:=t3,keep:=fun o L hm ho=>t2.keep o L (hn0 o L ho) (fun h=>hm (g4 o h)) ho,rest:=t2.rest,orig:=t2.orig,frsh:=t2.frsh }
 cases e with
 | ret=>exact fin
 | normal=>exact fin
 | _=>exact he.elim
theorem okF_of_sem {g : Nat} {fn : Func} {body : Code} {C : Contract} (hf : P.funcs[g]? = some fn) (hb : fn.body = some body) (hname : fn.name ≠ "runtime.NumGoroutine")
  (h:∀args own v own' mv,C args own v own' mv->sem P body (post P fn v own' mv) ⟨args++List.replicate (fn.ntmps - args.length) .top,own,own.length,[]⟩):OkF P g C:=by
 intro args own v own' mv hC
 refine⟨⟨fn,body,hf,hb,hname⟩,fun F φ w vs hc hs=>?_⟩
 refine calls_of_sem hf hb (h args own v own' mv hC) (fun o L ho=>?_) hc hs
 rcases Nat.lt_or_ge o own.length with h|h
 ·exact h
 ·rw[hc.out o h]at ho;cases ho
mutual
def D.scalar:D->Bool
 | .sl _ _=>false
 | .agg ds=>D.scalars ds
 | _=>true
def D.scalars:List D->Bool
 | []=>true
 | d :: ds=>d.scalar && D.scalars ds
end
mutual
theorem D.C_scalar{F F':Nat->Prop}{w w':World}:∀(d:D) (cs:List Value),d.scalar=true->D.C F w d cs->D.C F' w' d cs
 | .int _ _,_,_,h=>by simpa only[D.C] using h
 | .bool _,_,_,h=>by simpa only[D.C] using h
 | .str _,_,_,h=>by simpa only[D.C] using h
 | .sl _ _,_,hs,_=>by simp[D.scalar]at hs
 | .agg ds,cs,hs,h=>by
  simp only[D.C,D.scalar]at h hs ⊢
  exact D.Cs_scalar ds cs hs h
theorem D.Cs_scalar{F F':Nat->Prop}{w w':World}:∀(ds:List D) (cs:List Value),D.scalars ds=true->D.Cs F w ds cs->D.Cs F' w' ds cs
 | [],_,_,h=>by simpa only[D.Cs] using h
 | d :: ds,cs,hs,h=>by
  simp only[D.Cs,D.scalars,Bool.and_eq_true]at h hs ⊢
  obtain⟨c,cs',h1,h2,h3,h4⟩:=h
  exact⟨c,cs',h1,h2,D.C_scalar d _ hs.1 h3,D.Cs_scalar ds _ hs.2 h4⟩
end
def AV.scal:AV->Bool
 | .dat d=>d.scalar
 | .tup vs=>vs.all fun v=>match v with|.dat d=>d.scalar|_=>false
 | _=>false
theorem R_scal{F F':Nat->Prop}{φ φ':Nat->Option Loc}{w w':World}{a:AV}{v:Value}(hs:a.scal=true)(h:AV.R F φ w a v):AV.R F' φ' w' a v:=by
 have dat:∀(d:D) (v:Value),d.scalar=true->D.R F w d v->D.R F' w' d v:=by
  intro d v hs h
  cases d with
  | agg ds=>obtain⟨arr,h1,h2⟩:=h;exact⟨arr,h1,D.Cs_scalar ds _ (by simpa only[D.scalar] using hs) h2⟩
  | _=>exact D.C_scalar (F:=F) (w:=w) _ _ hs h
 cases a <;> simp only[AV.scal,Bool.false_eq_true]at hs
 ·simp only[AV.R]at h ⊢
  exact dat _ _ hs h
 ·rename_i vs
  simp only[AV.R]at h ⊢
  obtain⟨arr,rfl,h⟩:=h
  refine⟨arr,rfl,?_⟩
  induction vs generalizing arr with
  | nil=>simpa only[AV.Rs] using h
  | cons v vs ih =>
   simp only[AV.Rs]at h ⊢
   obtain⟨u,us,rfl,h1,h2⟩:=h
   simp only[List.all_cons,Bool.and_eq_true]at hs
   refine⟨u,us,rfl,?_,ih hs.2 us h2⟩
   cases v <;> simp only[Bool.false_eq_true,false_and]at hs
   simp only[AV.R]at h1 ⊢
   exact dat _ _ hs.1 h1
def AV.asD(own:List Obj):AV->Option D
 | .dat d=>some d
 | .nils=>some (.sl none [])
 | .sl o off len=>(match own.getD o .dead with|.row ag xs=>if off+len<=xs.length then some (.sl ag ((xs.drop off).take len)) else none|_=>none)
 | .agg vs=>(AV.asDs vs).map .agg
 | _=>none
where
 /-- The cells of a struct. -/
 AV.asDs:List AV->Option (List D)
  | []=>some []
  | v :: vs=>(match v with
   | .dat d=>some d
   | .nils=>some (.sl none [])
   | .sl o off len=>(match own.getD o .dead with|.row ag xs=>if off+len<=xs.length then some (.sl ag ((xs.drop off).take len)) else none|_=>none)
   | _=>none).bind fun d=>(AV.asDs vs).map (d :: ·)
def asDL(own:List Obj):List AV->Option (List D)
 | []=>some []
 | v :: vs=>(v.asD own).bind fun d=>(asDL own vs).map (d :: ·)
def AV.isDat:AV->Bool
 | .dat _=>true
 | .nils=>true
 | .agg vs=>(AV.pure (.agg vs)).isSome
 | _=>false
def dataC(R:List D->AV->Prop):Contract:=fun args own v own' mv =>
 ∃ds,asDL own args=some ds/\R ds v/\own'=own/\mv=[]/\(args.all AV.isDat=true∨v.scal=true)
end
end Go.AM
namespace Go.AM
open Go
section
variable {P:Program} {Γ:Nat->Contract} {F:Nat->Prop} {φ:Nat->Option Loc} {own:List Obj} {w:World}
theorem ObjR.mono{F F':Nat->Prop}{φ φ':Nat->Option Loc}{w w':World}{l:Option Loc}{obj:Obj}(hF:∀b,F b->F' b)(hw:Same F w w')(hφ:∀o' L,φ o'=some L->φ' o'=some L)
  (hb:∀L,l=some L->L.nil=false->w'.heap[L.b]?=w.heap[L.b]?) (h:ObjR F φ w l obj):ObjR F' φ' w' l obj:=by
 cases l with
 | none=>cases obj <;> simp only[ObjR]at h ⊢
 | some L =>
  cases obj with
  | row ag xs =>
   simp only[ObjR]at h ⊢
   obtain⟨h1,h2⟩:=h
   refine⟨h1,?_⟩
   rcases h2 with h2|⟨h2,⟨arr,ty,h3,h4⟩,h5,h6⟩
   ·exact .inl h2
   ·exact .inr ⟨h2,⟨arr,ty,(hb L rfl h2).trans h3,h4⟩,h5,D.Cr_congr hF hw ag L.b L.b _ _ _ (fun j _=>by simp[World.cell?,hb L rfl h2]) h6⟩
  | vec cs =>
   simp only[ObjR]at h ⊢
   obtain⟨h1,h2⟩:=h
   refine⟨h1,?_⟩
   rcases h2 with h2|⟨h2,arr,ty,h3,h4,h5,vs,h6,h7⟩
   ·exact .inl h2
   ·exact .inr ⟨h2,arr,ty,(hb L rfl h2).trans h3,h4,h5,vs,AV.Ra_mono hF hw hφ _ _ h6,h7⟩
  | tab k0 cs =>
   simp only[ObjR]at h ⊢
   obtain⟨h1,h2⟩:=h
   refine⟨h1,?_⟩
   rcases h2 with h2|⟨h2,arr,ty,h3,h4,h5,vs,h6,h7⟩
   ·exact .inl h2
   ·exact .inr ⟨h2,arr,ty,(hb L rfl h2).trans h3,h4,h5,vs,AV.Ra_mono hF hw hφ _ _ h6,h7⟩
  | box cs =>
   simp only[ObjR]at h ⊢
   obtain⟨h1,h2,arr,ty,h3,h4,h5⟩:=h
   exact⟨h1,h2,arr,ty,(hb L rfl h1).trans h3,h4,AV.Ra_mono hF hw hφ _ _ h5⟩
  | lp r0 cs =>
   simp only[ObjR]at h ⊢
   obtain⟨h1,h2,arr,ty,h3,h4,h5⟩:=h
   exact⟨h1,h2,arr,ty,(hb L rfl h1).trans h3,h4,AV.Rs_mono hF hw hφ _ _ h5⟩
  | bld T0 u0 cs =>
   simp only[ObjR]at h ⊢
   obtain⟨h1,h2,arr,ty,h3,h4,h5⟩:=h
   exact⟨h1,h2,arr,ty,(hb L rfl h1).trans h3,h4,AV.Rs_mono hF hw hφ _ _ h5⟩
  | brow e0 bs0 =>
   simp only[ObjR]at h ⊢
   obtain⟨h1,h2⟩:=h
   refine⟨h1,?_⟩
   rcases h2 with h2|⟨h2,arr,h3,h4⟩
   ·exact .inl h2
   ·exact .inr ⟨h2,arr,(hb L rfl h2).trans h3,h4⟩
  | map m =>
   simp only[ObjR]at h ⊢
   obtain⟨h1,es,clock,h3,h4⟩:=h
   exact⟨h1,es,clock,(hb L rfl h1).trans h3,mapR_mono hF hw _ _ h4⟩
  | dead=>simp only[ObjR]
def wide(F:Nat->Prop)(φ:Nat->Option Loc):Nat->Prop:=fun b=>F b∨∃o L,φ o=some L/\L.nil=false/\L.b=b
theorem own_D(hc:Conc F φ own w){o off len:Nat}{ag:Option Nat}{xs:List D}{c:Value}(hobj:own.getD o .dead=.row ag xs)(hle:off+len<=xs.length)(h:AV.R F φ w (.sl o off len) c) :
  D.R (wide F φ) w (.sl ag ((xs.drop off).take len)) c/\c.oneCell'=true:=by
 have h':=h
 simp only[AV.R]at h
 obtain⟨L,ho,h2⟩:=h
 have hr:=getObj_rep hc ho
 rw[hobj]at hr
 have:=frz_sl (F:=F) (F':=wide F φ) (φ':=φ) (fun b hb=>.inl hb) ho (fun hn=>.inr ⟨o,L,ho,hn,rfl⟩) hr h' hle
 simp only[AV.R]at this
 refine⟨this,?_⟩
 rcases h2 with⟨_,_,_,rfl⟩|⟨_,_,_,rfl,_⟩ <;> rfl
theorem asDs_R(hc:Conc F φ own w):∀(vs:List AV) (ds:List D) (arr:List Value),AV.asD.AV.asDs own vs=some ds->AV.Ra F φ w vs arr->D.Cs (wide F φ) w ds arr
 | [],ds,arr,h,hra=>by
  simp only[AV.asD.AV.asDs,Option.some.injEq]at h
  subst h
  simpa only[AV.Ra,D.Cs] using hra
 | v :: vs,ds,arr,h,hra=>by
  simp only[AV.asD.AV.asDs,Option.bind_eq_some_iff,Option.map_eq_some_iff]at h
  obtain⟨d,hd,ds',hds,rfl⟩:=h
  simp only[AV.Ra]at hra
  obtain⟨u,us,rfl,h1,h2,h3⟩:=hra
  have ih:=asDs_R hc vs ds' us hds h3
  simp only[D.Cs]
  have key:D.R (wide F φ) w d u:=by
   split at hd
   ·cases hd
    simp only[AV.R]at h2
    exact D.R_mono (fun b hb=>.inl hb) (Same.refl F w) h2
   ·cases hd
    have:=R_nils.1 h2
    subst this
    exact nils_C
   ·rename_i o off len
    split at hd
    ·rename_i ag xs hobj
     split at hd
     ·rename_i hle
      cases hd
      exact(own_D hc hobj hle h2).1
     ·cases hd
    ·cases hd
   ·cases hd
  obtain⟨g1,g2⟩:=plain_of_one h1 key
  exact⟨u,us,rfl,g1,g2,ih⟩
theorem asD_R(hc:Conc F φ own w){x:AV}{d:D}{c:Value}(hx:x.asD own=some d)(h:AV.R F φ w x c):D.R (wide F φ) w d c:=by
 cases x <;> simp only[AV.asD,Option.some.injEq,Option.map_eq_some_iff,reduceCtorEq]at hx
 ·subst hx
  simp only[AV.R]at h
  exact D.R_mono (fun b hb=>.inl hb) (Same.refl F w) h
 ·subst hx
  have:=R_nils.1 h
  subst this
  exact nils_C
 ·split at hx
  ·rename_i ag xs hobj
   split at hx
   ·rename_i hle
    cases hx
    exact(own_D hc hobj hle h).1
   ·cases hx
  ·cases hx
 ·obtain⟨ds,h1,rfl⟩:=hx
  simp only[AV.R]at h
  obtain⟨arr,rfl,hra⟩:=h
  exact⟨arr,rfl,asDs_R hc _ _ _ h1 hra⟩
theorem asDL_R(hc:Conc F φ own w):∀(args:List AV) (ds:List D) (vs:List Value),asDL own args=some ds->AV.Rs F φ w args vs->AV.Rs (wide F φ) (fun _=>none) w (ds.map .dat) vs
 | [],ds,vs,h,hs=>by
  simp only[asDL,Option.some.injEq]at h
  subst h
  simpa only[AV.Rs,List.map_nil] using hs
 | x :: args,ds,vs,h,hs=>by
  simp only[asDL,Option.bind_eq_some_iff,Option.map_eq_some_iff]at h
  obtain⟨d,hd,ds',hds,rfl⟩:=h
  simp only[AV.Rs]at hs
  obtain⟨v,vs',rfl,h1,h2⟩:=hs
  simp only[List.map_cons,AV.Rs,AV.R]
  exact⟨v,vs',rfl,asD_R hc hd h1,asDL_R hc args ds' vs' hds h2⟩
theorem pures_asDs:∀(vs:List AV) (ds:List D),AV.pure.AV.pures vs=some ds->AV.asD.AV.asDs own vs=some ds
 | [],ds,h=>by simpa only[AV.pure.AV.pures,AV.asD.AV.asDs] using h
 | v :: vs,ds,h=>by
  cases v <;> simp only[AV.pure.AV.pures,Option.map_eq_some_iff,reduceCtorEq]at h
  all_goals
   obtain⟨ds',h1,rfl⟩:=h
   simp[AV.asD.AV.asDs,pures_asDs vs ds' h1]
theorem pure_asD{x:AV}{d:D}(h:x.pure=some d):x.asD own=some d:=by
 cases x <;> simp only[AV.pure,Option.some.injEq,Option.map_eq_some_iff,reduceCtorEq]at h
 ·simp only[AV.asD,h]
 ·simp only[AV.asD,h]
 ·obtain⟨ds,h1,rfl⟩:=h
  simp[AV.asD,pures_asDs _ _ h1]
theorem asDL_dat:∀(args:List AV) (ds:List D) (vs:List Value),args.all AV.isDat=true->asDL own args=some ds->AV.Rs F φ w args vs->AV.Rs F (fun _=>none) w (ds.map .dat) vs
 | [],ds,vs,_,h,hs=>by
  simp only[asDL,Option.some.injEq]at h
  subst h
  simpa only[AV.Rs,List.map_nil] using hs
 | x :: args,ds,vs,ha,h,hs=>by
  simp only[asDL,Option.bind_eq_some_iff,Option.map_eq_some_iff]at h
  obtain⟨d,hd,ds',hds,rfl⟩:=h
  simp only[AV.Rs]at hs
  obtain⟨v,vs',rfl,h1,h2⟩:=hs
  simp only[List.all_cons,Bool.and_eq_true]at ha
  simp only[List.map_cons,AV.Rs,AV.R]
  refine⟨v,vs',rfl,?_,asDL_dat args ds' vs' ha.2 hds h2⟩
  cases x <;> simp only[AV.isDat,Bool.false_eq_true,false_and]at ha
  ·simp only[AV.asD,Option.some.injEq]at hd
   subst hd
   simpa only[AV.R] using h1
  ·simp only[AV.asD,Option.some.injEq]at hd
   subst hd
   have:=R_nils.1 h1
   subst this
   exact nils_C
  ·rename_i vs
   obtain⟨d',hd'⟩:=Option.isSome_iff_exists.1 ha.1
   have e:(AV.agg vs).asD own=some d':=pure_asD hd'
   rw[e]at hd
   simp only[Option.some.injEq]at hd
   subst hd
   exact pure_R hd' h1
theorem okF_data {g : Nat} {fn : Func} {body : Code} {R : List D -> AV -> Prop} (hf : P.funcs[g]? = some fn) (hb : fn.body = some body) (hname : fn.name ≠ "runtime.NumGoroutine")
  (h:∀ds v,R ds v->sem P body (post P fn v [] []) ⟨ds.map .dat++List.replicate (fn.ntmps - (ds.map AV.dat).length) .top,[],0,[]⟩):OkF P g (dataC R):=by
 intro args own v own' mv hC
 obtain⟨ds,hds,hR,rfl,rfl,hkind⟩:=hC
 refine⟨⟨fn,body,hf,hb,hname⟩,fun F φ w vs hc hs=>?_⟩
 have none0:∀F1,(∀b,F1 b->b<w.heap.size)->(∀b,F b->F1 b)->Conc F1 (fun _=>none) [] w:=fun F1 hF1 hF2=>⟨hF1,(fun _ _ h=>by cases h),(fun _ _ _ _ h=>by cases h),(fun _ _ h=>by simp at h),(fun _ _=>rfl),hc.glob.mono hF2 (Same.refl F w)⟩
 have run:∀F1,(∀b,F1 b->b<w.heap.size)->(∀b,F b->F1 b)->AV.Rs F1 (fun _=>none) w (ds.map .dat) vs->Calls P g vs.toArray w fun e w'=>∃r F' φ',e=.returned r/\After F1 (fun _=>none) w F' φ' [] w' []/\AV.R F' φ' w' v r :=
  fun F1 hF1 hF2 hs1=>calls_of_sem hf hb (h ds v hR) (n0:=0) (fun _ _ h=>by cases h) (none0 F1 hF1 hF2) hs1
 have noφ:∀{F':Nat->Prop} {φ':Nat->Option Loc} {w':World},Conc F' φ' [] w'->∀o' L,φ' o'=some L->φ o'=some L:=fun hc' o' L ho=>by rw[hc'.out o' (by simp)]at ho;cases ho
 rcases hkind with hk|hk
 ·refine(run F hc.fb (fun _ h=>h) (asDL_dat _ _ _ hk hds hs)).mono ?_
  rintro e w' ⟨r,F',φ',rfl,ha,hv⟩
  have hold:∀b,b<w.heap.size->w'.heap[b]?=w.heap[b]?:=fun b hb=>ha.rest b hb (fun _ _ h=>by cases h)
  refine⟨r,F',φ,rfl,?_,AV.R_mono (fun _ h=>h) (Same.refl F' w') (noφ ha.conc) _ _ hv⟩
  have hsub:∀b,F' b->F b∨w.heap.size<=b:=fun b hb=>by
   rcases ha.frsh b hb with h|h|⟨_,_,h,_⟩
   ·exact .inl h
   ·exact .inr h
   ·cases h
  refine { sub:=ha.sub,ext:=ha.ext,conc:=?_,keep:=fun _ _ _ h=>h,rest:=fun b hb _=>hold b hb,orig:=fun o L' ho hn=>.inr ⟨o,L',ho,hn,rfl⟩,frsh:=fun b hb=>by rcases hsub b hb with h|h;exact .inl h;exact .inr (.inl h) }
  refine { fb:=ha.conc.fb,live:=fun o L ho hn=>⟨fun hF'=>?_,Nat.lt_of_lt_of_le (hc.live o L ho hn).2 ha.ext.size⟩,inj:=hc.inj,rep:=fun o obj ho=>?_,out:=hc.out,glob:=ha.conc.glob }
  ·rcases hsub _ hF' with h|h
   ·exact(hc.live o L ho hn).1 h
   ·have:=(hc.live o L ho hn).2;omega
  ·exact(hc.rep o obj ho).mono ha.sub (hc.sameF hold) (fun _ _ h=>h) (fun L hL hn=>hold _ (hc.live o L hL hn).2)
 ·refine(run (wide F φ) (fun b hb=>?_) (fun _ h=>.inl h) (asDL_R hc _ _ _ hds hs)).mono ?_
  ·rcases hb with hb|⟨o,L,ho,hn,rfl⟩
   ·exact hc.fb b hb
   ·exact(hc.live o L ho hn).2
  rintro e w' ⟨r,F',φ',rfl,ha,hv⟩
  have hold:∀b,b<w.heap.size->w'.heap[b]?=w.heap[b]?:=fun b hb=>ha.rest b hb (fun _ _ h=>by cases h)
  refine⟨r,F,φ,rfl,?_,R_scal hk hv⟩
  exact { sub:=fun _ h=>h,ext:=ha.ext.mono (fun b hb=>.inl hb),conc:=hc.same ha.ext.size hold,keep:=fun _ _ _ h=>h,rest:=fun b hb _=>hold b hb,orig:=fun o L' ho hn=>.inr ⟨o,L',ho,hn,rfl⟩,frsh:=fun b hb=>.inl hb }
def tbl(l:List (Nat×Contract)):Nat->Contract:=fun g args own v own' mv=>∃C,(g,C)∈l/\C args own v own' mv
theorem okG_nil:OkG P (tbl []):=by
 rintro g args own v own' mv ⟨C,h,_⟩
 cases h
theorem okG_cons{g:Nat}{C:Contract}{l:List (Nat×Contract)}(h:OkF P g C)(hl:OkG P (tbl l)):OkG P (tbl ((g,C) :: l)):=by
 rintro g' args own v own' mv ⟨C',hm,hC⟩
 rcases List.mem_cons.1 hm with e|hm
 ·cases e
  exact h args own v own' mv hC
 ·exact hl g' args own v own' mv ⟨C',hm,hC⟩
theorem call_by{l:List (Nat×Contract)}{g:Nat}(C:Contract)(hm:(g,C)∈l){args:List AV}{own:List Obj}{K:AV->List Obj->List Nat->Prop}(v:AV)(own':List Obj)(mv:List Nat)(hC:C args own v own' mv)(hK:K v own' mv) :
  callw (tbl l) (.fn g []) args own K:=by
 refine⟨v,own',mv,⟨C,hm,?_⟩,hK⟩
 simpa using hC
theorem call_data{l:List (Nat×Contract)}{g:Nat}(R:List D->AV->Prop)(hm:(g,dataC R)∈l){args:List AV}{own:List Obj}{K:AV->List Obj->List Nat->Prop}(ds:List D)(v:AV)(hds:asDL own args=some ds)(hR:R ds v)
  (hk:args.all AV.isDat=true∨v.scal=true) (hK:K v own []):callw (tbl l) (.fn g []) args own K :=
 call_by (dataC R) hm v own [] ⟨ds,hds,hR,rfl,rfl,hk⟩ hK
end
end Go.AM
namespace Go.AM
open Go
def Det(T:(AV->Prop)->Prop):Prop:=∀K,T K->∃v,K v/\∀K',K' v->T K'
section
variable {P:Program} {own:List Obj}
theorem Det.no:Det (fun _=>False):=fun _ h=>h.elim
theorem Det.ret(v:AV):Det (fun K=>K v):=fun _ h=>⟨v,h,fun _ h=>h⟩
theorem Det.and{T:(AV->Prop)->Prop}(p:Prop)(h:Det T):Det (fun K=>p/\T K):=fun K ⟨hp,hK⟩ =>
 let ⟨v,h1,h2⟩:=h K hK
 ⟨v,h1,fun K' h'=>⟨hp,h2 K' h'⟩⟩
theorem Det.ite{T U:(AV->Prop)->Prop}(p:Prop)[Decidable p](h:Det T)(k:Det U):Det (fun K=>if p then T K else U K):=by
 intro K hK
 by_cases hp:p
 ·simp only[hp,if_true]at hK ⊢;exact h K hK
 ·simp only[hp,if_false]at hK ⊢;exact k K hK
theorem Det.two{T U:(AV->Prop)->Prop}(b:Bool)(h:Det T)(k:Det U):Det (fun K=>(b=true->T K)/\(b=false->U K)):=by
 intro K hK
 cases b with
 | true=>obtain⟨v,h1,h2⟩:=h K (hK.1 rfl);exact⟨v,h1,fun K' h'=>⟨fun _=>h2 K' h',(fun e=>by cases e)⟩⟩
 | false=>obtain⟨v,h1,h2⟩:=k K (hK.2 rfl);exact⟨v,h1,fun K' h'=>⟨(fun e=>by cases e),fun _=>h2 K' h'⟩⟩
theorem fitw_det(k:IntKind)(n:Int):Det (fitw k n):=by
 unfold fitw
 exact Det.ite _ (Det.and _ (Det.ret _)) (Det.ret _)
theorem intw_det(op:BinOp)(k:IntKind)(a b:Int):Det (intw op k a b):=by
 unfold intw
 split <;> first
  | exact fitw_det _ _|exact Det.and _ (fitw_det _ _)|exact Det.and _ (Det.and _ (Det.ret _))|exact Det.ret _|exact Det.no
theorem binw_det(op:BinOp)(x y:AV):Det (binw op x y):=by
 unfold binw
 split <;> (try split) <;> first
  | exact Det.and _ (Det.and _ (Det.ret _))|exact Det.and _ (intw_det _ _ _ _)|exact Det.and _ (Det.ret _)|exact Det.ret _|exact Det.no
theorem binTop_det(op:BinOp)(t:TypeId)(x y:AV):Det (binTop P op t x y):=Det.and _ (binw_det op x y)
theorem unw_det(op:UnOp)(x:AV):Det (unw op x):=by
 unfold unw
 split <;> first|exact fitw_det _ _|exact Det.ret _|exact Det.no
theorem convw_det(a b:Option Ty)(x:AV):Det (convw P a b x):=by
 unfold convw
 split <;> (try split) <;> (try split) <;> (try split) <;> first|exact fitw_det _ _|exact Det.ret _|exact Det.and _ (Det.ret _)|exact Det.no
theorem loadw_det(τ:Option Ty)(x:AV):Det (loadw τ own x):=by
 unfold loadw
 split
 ·unfold loadObj
  split
  ·exact Det.ite _ (Det.and _ (Det.and _ (Det.and _ (Det.ret _)))) (Det.and _ (Det.and _ (Det.ret _)))
  ·exact Det.and _ (Det.and _ (Det.ret _))
  ·exact Det.and _ (Det.and _ (Det.and _ (Det.ret _)))
  ·exact Det.ite _ (Det.and _ (Det.ret _)) (Det.and _ (Det.ret _))
  ·exact Det.and _ (Det.and _ (Det.and _ (Det.and _ (Det.ret _))))
  ·exact Det.and _ (Det.ite _ (Det.and _ (Det.ret _)) (Det.and _ (Det.ret _)))
  ·exact Det.no
 ·exact Det.and _ (Det.ret _)
 ·exact Det.no
theorem fieldAddrw_det(τ:Option Ty)(x:AV)(f:Nat):Det (fieldAddrw P τ x f):=by
 unfold fieldAddrw
 split <;> first|exact Det.and _ (Det.ret _)|exact Det.ret _|exact Det.no
theorem partw_det(τ:Ty)(vs:List AV)(off:Nat):Det (partw τ vs off):=by
 unfold partw
 exact Det.ite _ (Det.and _ (Det.ret _)) (Det.and _ (Det.ret _))
theorem fieldw_det(τ:Option Ty)(x:AV)(f:Nat):Det (fieldw P τ x f):=by
 unfold fieldw
 split <;> first|exact partw_det _ _ _|exact Det.no
theorem idxAddrw_det(τ:Option Ty)(x i:AV):Det (idxAddrw P τ own x i):=by
 unfold idxAddrw
 split <;> (try split) <;> (try split) <;> first
  | exact Det.and _ (Det.and _ (Det.and _ (Det.ret _)))
  | exact Det.no
  | (refine Det.and _ (Det.and _ ?_);split <;> first|exact Det.and _ (Det.and _ (Det.and _ (Det.ret _)))|exact Det.ret _|exact Det.no)
theorem indexw_det(τ:Option Ty)(x i:AV):Det (indexw P τ x i):=by
 unfold indexw
 split <;> (try split) <;> (try split) <;> first
  | exact Det.and _ (Det.and _ (partw_det _ _ _))|exact Det.and _ (Det.and _ (Det.ret _))|exact Det.no
theorem slicew_det(τ:Option Ty)(x:AV)(lo hi:Option AV):Det (slicew P τ own x lo hi):=by
 unfold slicew
 split <;> (try split) <;> (try split) <;> first
  | exact Det.and _ (Det.and _ (Det.and _ (Det.and _ (Det.ret _))))|exact Det.and _ (Det.and _ (Det.and _ (Det.ret _)))|exact Det.and _ (Det.and _ (Det.ret _))|exact Det.no
theorem buildw_det(τ:Option Ty)(parts:List (Nat×AV)):Det (buildw P τ parts):=by
 unfold buildw
 split
 ·split
  ·refine Det.and _ ?_
   split <;> first|exact Det.ret _|exact Det.no
  ·exact Det.no
 ·exact Det.no
theorem lookupw_det(τ:Option Ty)(x k:AV)(ok:Bool):Det (lookupw P τ own x k ok):=by
 unfold lookupw
 split <;> (try split) <;> (try split) <;> first
  | exact Det.and _ (Det.and _ (Det.ret _))|exact Det.no
theorem lenw_det(τ:Option Ty)(x:AV):Det (lenw P τ own x):=by
 unfold lenw
 split
 ·split <;> (try split) <;> first|exact Det.and _ (Det.ret _)|exact Det.ret _|exact Det.no
 ·exact Det.no
theorem vop_det(slots:List AV)(op:Op):Det (vop P own slots op):=by
 unfold vop
 split
 case h_3=>unfold pickw;split <;> first|exact Det.two _ (Det.ret _) (Det.ret _)|exact Det.no
 case h_4=>exact binTop_det _ _ _ _
 case h_5=>exact unw_det _ _
 case h_6=>exact convw_det _ _ _
 case h_7=>exact loadw_det _ _
 case h_8=>exact fieldAddrw_det _ _ _
 case h_9=>exact fieldw_det _ _ _
 case h_10=>exact idxAddrw_det _ _ _
 case h_11=>exact indexw_det _ _ _
 case h_12=>exact slicew_det _ _ _ _
 case h_13=>exact buildw_det _ _
 case h_14=>unfold extractw;split <;> first|exact Det.and _ (Det.ret _)|exact Det.no
 case h_15=>exact lookupw_det _ _ _ _
 case h_16=>unfold nilw;split <;> first|exact Det.ret _|exact Det.no
 case h_17=>exact Det.and _ (Det.ret _)
 case h_18 =>
  unfold bltw
  split <;> first|exact lenw_det _ _|(unfold minw;split <;> first|exact Det.and _ (Det.ret _)|exact Det.no)|exact Det.no
 all_goals first|exact Det.ret _|exact Det.no
theorem getD_more{o:Nat}{obj x:Obj}(h:own.getD o .dead=obj)(hne:obj≠.dead):(own++[x]).getD o .dead=obj:=by
 rcases Nat.lt_or_ge o own.length with hlt|hge
 ·simp only[List.getD_eq_getElem?_getD]at h ⊢
  rw[List.getElem?_append_left hlt];exact h
 ·simp only[List.getD_eq_getElem?_getD,List.getElem?_eq_none hge,Option.getD_none]at h
  exact(hne h.symm).elim
end
end Go.AM
namespace Go.AM
open Go
section
variable {P:Program} {Γ:Nat->Contract} {own:List Obj}
def callOf(pf:List Nat)(o:Oper):Option (Nat×Array Operand) :=
 match o.op with
 | .call c=>(match c.callee with|.value (.func g)=>if pf.contains g then some (g,c.args) else none|_=>none)
 | _=>none
def vlike(pf:List Nat)(o:Oper):Bool:=isV o.op || (callOf pf o).isSome
def vB(P:Program)(Γ:Nat->Contract)(pf:List Nat)(o:Oper)(slots:List AV)(own:List Obj)(k:AV->Prop):Prop :=
 if isV o.op then vop P own slots o.op k else
 match callOf pf o with
 | some (g,args)=>∃v,Γ g (args.toList.map (ev slots)) own v own []/\k v
 | none=>False
def vG(P:Program)(Γ:Nat->Contract)(pf:List Nat)(all:Array Oper)(o:Oper)(slots:List AV)(own:List Obj)(k:AV->Prop):Prop :=
 match o.guard with
 | none=>vB P Γ pf o slots own k
 | some (j,want) =>
  match (all[j]?).bind (·.dst) with
  | some d=>grd (slots.getD d .top) want (vB P Γ pf o slots own k) (k (.tup []))
  | none=>False
def PureFns(Γ:Nat->Contract)(pf:List Nat):Prop:=∀g args own v own' mv,g∈pf->Γ g args own v own' mv->own'=own/\mv=[]
theorem callOf_spec{pf:List Nat}{o:Oper}{g:Nat}{args:Array Operand}(h:callOf pf o=some (g,args)):g∈pf/\∃ts,o.op=.call { callee:=.value (.func g),args:=args,argTypes:=ts }:=by
 unfold callOf at h
 split at h
 ·rename_i c hc
  split at h
  ·rename_i g' hg
   split at h
   ·rename_i hp
    simp only[Option.some.injEq,Prod.mk.injEq]at h
    obtain⟨rfl,rfl⟩:=h
    obtain⟨callee,args,ts⟩:=c
    simp only at hg
    subst hg
    exact⟨by simpa using hp,ts,hc⟩
   ·cases h
  ·cases h
 ·cases h
theorem opw_vB{pf:List Nat}(hpf:PureFns Γ pf){o:Oper}(hv:vlike pf o=true){K:S->Prop}{σ:S}:opw P Γ o K σ↔vB P Γ pf o σ.slots σ.own (fun v=>K (σ.put o.dst v)):=by
 unfold opw vB
 by_cases hi:isV o.op=true
 ·simp only[hi,if_true]
  exact Iff.rfl
 ·simp only[hi,if_false]
  simp only[vlike,hi,Bool.false_or]at hv
  obtain⟨⟨g,args⟩,hg⟩:=Option.isSome_iff_exists.1 hv
  obtain⟨hmem,ts,hop⟩:=callOf_spec hg
  simp only[hg,hop,eop,ecall,callw,ev,List.append_nil]
  constructor
  ·rintro ⟨v,own',mv,h1,h2⟩
   obtain⟨rfl,rfl⟩:=hpf g _ _ _ _ _ hmem h1
   exact⟨v,h1,h2⟩
  ·rintro ⟨v,h1,h2⟩
   exact⟨v,_,_,h1,h2⟩
theorem opg_vG{pf:List Nat}(hpf:PureFns Γ pf){all:Array Oper}{o:Oper}(hv:vlike pf o=true){K:S->Prop}{σ:S}:opg P Γ all o K σ↔vG P Γ pf all o σ.slots σ.own (fun v=>K (σ.put o.dst v)):=by
 unfold opg vG
 cases hg:o.guard with
 | none=>exact opw_vB hpf hv
 | some x =>
  obtain⟨j,want⟩:=x
  simp only
  cases hd:(all[j]?).bind (·.dst) with
  | none=>exact Iff.rfl
  | some d =>
   simp only
   rw[opw_vB hpf hv]
theorem vB_det(pf:List Nat)(o:Oper)(slots:List AV)(own:List Obj):Det (vB P Γ pf o slots own):=by
 unfold vB
 refine Det.ite _ (vop_det _ _) ?_
 split
 ·rintro K ⟨v,h1,h2⟩
  exact⟨v,h2,fun K' h'=>⟨v,h1,h'⟩⟩
 ·exact Det.no
theorem grd_det{T U:(AV->Prop)->Prop}(v:AV)(want:Bool)(h:Det T)(k:Det U):Det (fun K=>grd v want (T K) (U K)):=by
 unfold grd
 split
 ·rename_i b
  intro K hK
  by_cases hb:b=want
  ·obtain⟨v,h1,h2⟩:=h K (hK.1 hb)
   exact⟨v,h1,fun K' h'=>⟨fun _=>h2 K' h',fun e=>by rw[hb]at e;cases want <;> cases e⟩⟩
  ·have hb':b=!want:=by cases b <;> cases want <;> simp_all
   obtain⟨v,h1,h2⟩:=k K (hK.2 hb')
   exact⟨v,h1,fun K' h'=>⟨fun e=>(hb e).elim,fun _=>h2 K' h'⟩⟩
 ·exact k
 ·exact Det.no
theorem vG_det(pf:List Nat)(all:Array Oper)(o:Oper)(slots:List AV)(own:List Obj):Det (vG P Γ pf all o slots own):=by
 unfold vG
 split
 ·exact vB_det _ _ _ _
 ·split
  ·exact grd_det _ _ (vB_det _ _ _ _) (Det.ret _)
  ·exact Det.no
theorem looks_op{ops:Array Oper}{o:Oper}{t:Tmp}(h:Operand.tmp t∈o.op.operands.toList):t∈o.looksAt ops:=by
 unfold Oper.looksAt
 refine List.mem_append.2 (.inl (List.mem_filterMap.2 ⟨_,h,rfl⟩))
theorem ev_set{slots:List AV}{d:Tmp}{u:AV}{x:Operand}(h:x≠.tmp d):ev (slots.set d u) x=ev slots x:=by
 cases x with
 | tmp t =>
  have:d≠t:=fun e=>h (e ▸ rfl)
  simp[ev,List.getD_eq_getElem?_getD,List.getElem?_set,this]
 | _=>rfl
theorem vop_congr{slots slots':List AV}{op:Op}{K:AV->Prop}(h:∀x∈op.operands.toList,ev slots' x=ev slots x):vop P own slots' op K=vop P own slots op K:=by
 cases op <;> simp only[vop]
 case move x=>rw[h x (by simp[Op.operands])]
 case assign x=>rw[h x (by simp[Op.operands])]
 case pick a b c=>rw[h a (by simp[Op.operands]),h b (by simp[Op.operands]),h c (by simp[Op.operands])]
 case binOp op t x y t'=>rw[h x (by simp[Op.operands]),h y (by simp[Op.operands])]
 case unOp op t x=>rw[h x (by simp[Op.operands])]
 case convert a b x=>rw[h x (by simp[Op.operands])]
 case load t x=>rw[h x (by simp[Op.operands])]
 case fieldAddr t x f=>rw[h x (by simp[Op.operands])]
 case field t x f=>rw[h x (by simp[Op.operands])]
 case indexAddr t x i=>rw[h x (by simp[Op.operands]),h i (by simp[Op.operands])]
 case index t x i=>rw[h x (by simp[Op.operands]),h i (by simp[Op.operands])]
 case extract x i=>rw[h x (by simp[Op.operands])]
 case lookup t x k ok=>rw[h x (by simp[Op.operands]),h k (by simp[Op.operands])]
 case nilCheck x=>rw[h x (by simp[Op.operands])]
 case slice t x lo hi mx =>
  cases mx with
  | some m=>rfl
  | none =>
   simp only[vop]
   have e1:lo.map (ev slots')=lo.map (ev slots):=by cases lo <;> simp only[Option.map_none,Option.map_some,Option.some.injEq];exact h _ (by simp[Op.operands])
   have e2:hi.map (ev slots')=hi.map (ev slots):=by cases hi <;> simp only[Option.map_none,Option.map_some,Option.some.injEq];exact h _ (by simp[Op.operands])
   rw[h x (by simp[Op.operands]),e1,e2]
 case build t parts =>
  have e:(parts.toList.map fun p=>(p.1,ev slots' p.2))=(parts.toList.map fun p=>(p.1,ev slots p.2)):=by
   refine List.map_congr_left fun p hp=>?_
   rw[h p.2 (by simp[Op.operands];exact⟨p.1,by simpa using hp⟩)]
  rw[e]
 case makeFunc fn first cs =>
  cases fn <;> simp only[vop]
  have e:cs.toList.map (ev slots')=cs.toList.map (ev slots):=List.map_congr_left fun x hx=>h x (by simp[Op.operands];right;simpa using hx)
  rw[e]
 case call c =>
  have hm:∀x∈c.args.toList,ev slots' x=ev slots x:=fun x hx=>h x (by
   simp only[Op.operands,Call.operands,Array.toList_append,List.mem_append]
   exact .inr hx)
  unfold bltw
  split
  ·rename_i h1 h2 h3
   rw[hm _ (by rw[h2];simp)]
  ·rename_i h1 h2
   rw[hm _ (by rw[h2];simp),hm _ (by rw[h2];simp)]
  ·rename_i h1 h2
   rw[hm _ (by rw[h2];simp),hm _ (by rw[h2];simp)]
  ·rfl
theorem vG_set{pf:List Nat}{all:Array Oper}{o:Oper}{slots:List AV}{d:Tmp}{u:AV}{k:AV->Prop}(h:d∉o.looksAt all):vG P Γ pf all o (slots.set d u) own k=vG P Γ pf all o slots own k:=by
 have hB:vB P Γ pf o (slots.set d u) own k=vB P Γ pf o slots own k:=by
  unfold vB
  rw[vop_congr (slots:=slots) (fun x hx=>ev_set (fun e=>h (looks_op (e ▸ hx))))]
  cases hc:callOf pf o with
  | none=>rfl
  | some x =>
   obtain⟨g,args⟩:=x
   obtain⟨_,ts,hop⟩:=callOf_spec hc
   have e:args.toList.map (ev (slots.set d u))=args.toList.map (ev slots):=List.map_congr_left fun x hx=>ev_set (fun e=>h (looks_op (by rw[hop];simp only[Op.operands,Call.operands,Array.toList_append,List.mem_append];exact .inr (e ▸ hx))))
   simp only[e]
 unfold vG
 rw[hB]
 split
 ·rfl
 ·rename_i j want hg
  split
  ·rename_i d' hd'
   have hne:d≠d':=by
    intro e
    subst e
    apply h
    unfold Oper.looksAt
    rw[hg]
    exact List.mem_append.2 (.inr (by simp[hd']))
   have:(slots.set d u).getD d' .top=slots.getD d' .top:=by simp[List.getD_eq_getElem?_getD,List.getElem?_set,hne]
   rw[this]
  ·rfl
theorem vG_put{pf:List Nat}{all:Array Oper}{o o':Oper}{σ:S}{u:AV}{k:AV->Prop}(h:∀d,o'.dst=some d->d∉o.looksAt all):vG P Γ pf all o (σ.put o'.dst u).slots (σ.put o'.dst u).own k=vG P Γ pf all o σ.slots σ.own k:=by
 rw[(put_own σ o'.dst u).1]
 cases hd:o'.dst with
 | none=>rfl
 | some d=>exact vG_set (h d hd)
theorem put_comm(σ:S){x y:Option Tmp}(v u:AV)(h:∀d,x=some d->y≠some d):(σ.put x v).put y u=(σ.put y u).put x v:=by
 cases x with
 | none=>rfl
 | some d =>
  cases y with
  | none=>rfl
  | some e =>
   have hne:d≠e:=fun he=>h d rfl (he ▸ rfl)
   simp only[S.put,S.mk.injEq,and_true,true_and]
   exact List.set_comm _ _ hne
theorem vop_more{slots:List AV}{op:Op}{K:AV->Prop}{x:Obj}(h:vop P own slots op K):vop P (own++[x]) slots op K:=by
 unfold vop at h ⊢
 split at h
 case h_7 t a =>
  unfold loadw at h ⊢
  split at h
  ·unfold loadObj at h
   split at h
   ·rename_i hobj;simp only[getD_more hobj (by simp),loadObj];exact h
   ·rename_i hobj;simp only[getD_more hobj (by simp),loadObj];exact h
   ·rename_i hobj;simp only[getD_more hobj (by simp),loadObj];exact h
   ·rename_i hobj;simp only[getD_more hobj (by simp),loadObj];exact h
   ·rename_i hobj;simp only[getD_more hobj (by simp),loadObj];exact h
   ·rename_i hobj;simp only[getD_more hobj (by simp),loadObj];exact h
   ·exact h.elim
  ·exact h
  ·exact h.elim
 case h_10 t a i =>
  unfold idxAddrw at h ⊢
  split at h
  ·split at h
   ·rename_i hd
    split at h
    ·rename_i hτ
     obtain⟨g1,g2,hob,g4⟩:=h
     try simp only[hd,hτ]
     refine⟨g1,g2,?_,g4⟩
     rcases hob with⟨ag,xs,hobj,g3⟩|⟨cs,hobj,g3⟩|⟨k,cs,hobj,g3⟩
     ·exact .inl ⟨ag,xs,getD_more hobj (by simp),g3⟩
     ·exact .inr (.inl ⟨cs,getD_more hobj (by simp),g3⟩)
     ·exact .inr (.inr ⟨k,cs,getD_more hobj (by simp),g3⟩)
    ·exact h.elim
   ·exact h.elim
  ·exact h
  ·split at h
   ·rename_i hd
    split at h
    ·rename_i hτ
     obtain⟨g1,g2,h⟩:=h
     try simp only[hd,hτ]
     refine⟨g1,g2,?_⟩
     split at h
     ·rename_i hobj;simp only[getD_more hobj (by simp)];exact h
     ·rename_i hobj;simp only[getD_more hobj (by simp)];exact h
     ·rename_i hobj;simp only[getD_more hobj (by simp)];exact h
     ·exact h.elim
    ·exact h.elim
   ·exact h.elim
  ·exact h
  ·exact h.elim
 case h_12 t a lo hi =>
  unfold slicew at h ⊢
  split at h
  ·split at h
   ·rename_i hd
    split at h
    ·rename_i h1 h2 h3
     obtain⟨⟨ag,xs,hobj,g3⟩,g4⟩:=h
     try simp only[hd,h1,h2,h3]
     exact⟨⟨ag,xs,getD_more hobj (by simp),g3⟩,g4⟩
    ·exact h.elim
   ·exact h.elim
  ·exact h
  ·exact h
  ·exact h
  ·exact h.elim
 case h_15 t a k ok =>
  unfold lookupw at h ⊢
  split at h
  ·split at h
   ·rename_i hd
    split at h
    ·rename_i h1 h2 h3
     simp only[hd,h1,h2,getD_more h3 (by simp)]
     exact h
    ·exact h.elim
   ·exact h.elim
  ·exact h.elim
 case h_18 c =>
  unfold bltw at h ⊢
  split at h
  ·unfold lenw at h ⊢
   split at h
   ·split at h
    case h_7 =>
     rename_i hd _
     split at h
     ·rename_i h3;simp only[getD_more h3 (by simp)];exact h
     ·exact h.elim
    all_goals exact h
   ·exact h.elim
  ·exact h
  ·exact h
  ·exact h.elim
 all_goals exact h
end
end Go.AM
namespace Go.AM
open Go
def isMake(o:Oper):Bool :=
 match o.op,o.guard with
 | .makeSlice _ _ _,none=>true
 | .alloc _,none=>true
 | .box _ _,none=>true
 | _,_=>false
section
variable {P:Program} {Γ:Nat->Contract} {own:List Obj}
theorem make_det{o:Oper}(hm:isMake o=true){K:S->Prop}{σ:S}{all:Array Oper}(h:opg P Γ all o K σ) :
  ∃v obj,K (σ.effect o.dst v (σ.own++[obj]) [])/\∀(K':S->Prop) (σ':S),σ'.own=σ.own->(∀x∈o.op.operands.toList,ev σ'.slots x=ev σ.slots x)->K' (σ'.effect o.dst v (σ.own++[obj]) [])->opg P Γ all o K' σ':=by
 unfold isMake at hm
 split at hm
 ·rename_i t l c hop hg
  unfold opg at h ⊢
  simp only[hg]at h ⊢
  have e:∀(K:S->Prop) (σ:S),opw P Γ o K σ=makeSlicew P (tyOf P t) σ.own (ev σ.slots l) (ev σ.slots c) (PutE o.dst K σ):=fun K σ=>by
   unfold opw
   simp only[hop,isV,Bool.false_eq_true,if_false,eop]
  rw[e]at h
  unfold makeSlicew at h
  split at h
  ·rename_i τ n m hτ hl hc
   split at h
   ·rename_i el hd
    split at h
    ·rename_i τe hτe
     split at h
     ·rename_i hnz
      obtain⟨h0,h1,h2,h3,hK⟩:=h
      refine⟨_,_,hK,fun K' σ' ho hx hK'=>?_⟩
      rw[e,hx l (by rw[hop];simp[Op.operands]),hx c (by rw[hop];simp[Op.operands]),hl,hc,hτ]
      simp only[makeSlicew,hd,hτe,hnz]
      refine⟨h0,h1,h2,h3,?_⟩
      unfold PutE
      rw[ho]
      exact hK'
     ·rename_i hnz
      split at h
      ·rename_i z hz
       obtain⟨h0,h1,h2,h3,h4,hK⟩:=h
       refine⟨_,_,hK,fun K' σ' ho hx hK'=>?_⟩
       rw[e,hx l (by rw[hop];simp[Op.operands]),hx c (by rw[hop];simp[Op.operands]),hl,hc,hτ]
       simp only[makeSlicew,hd,hτe,hnz,hz]
       refine⟨h0,h1,h2,h3,h4,?_⟩
       unfold PutE
       rw[ho]
       exact hK'
      ·exact h.elim
    ·exact h.elim
   ·exact h.elim
  ·exact h.elim
 ·rename_i t hop hg
  unfold opg at h ⊢
  simp only[hg]at h ⊢
  have e:∀(K:S->Prop) (σ:S),opw P Γ o K σ=allocw P t σ.own (PutE o.dst K σ):=fun K σ=>by
   unfold opw
   simp only[hop,isV,Bool.false_eq_true,if_false,eop]
  rw[e]at h
  unfold allocw at h
  split at h
  ·rename_i τ hτ
   split at h
   ·rename_i n el harr
    split at h
    ·rename_i τe hτe
     split at h
     ·rename_i zd ze hzd hze
      refine⟨_,_,h.2,fun K' σ' ho hx hK'=>?_⟩
      rw[e]
      simp only[allocw,hτ,harr,hτe,hzd,hze]
      refine⟨h.1,?_⟩
      unfold PutE
      rw[ho]
      exact hK'
     ·exact h.elim
    ·exact h.elim
   ·rename_i harr
    split at h
    ·rename_i z hz
     refine⟨_,_,h.2,fun K' σ' ho hx hK'=>?_⟩
     rw[e]
     simp only[allocw,hτ,harr,hz]
     refine⟨h.1,?_⟩
     unfold newVarW PutE
     rw[ho]
     exact hK'
    ·exact h.elim
  ·exact h.elim
 ·rename_i t x hop hg
  unfold opg at h ⊢
  simp only[hg]at h ⊢
  have e:∀(K:S->Prop) (σ:S),opw P Γ o K σ=boxw σ.own (ev σ.slots x) (PutE o.dst K σ):=fun K σ=>by
   unfold opw
   simp only[hop,isV,Bool.false_eq_true,if_false,eop]
  rw[e]at h
  unfold boxw at h
  split at h
  ·rename_i vs hvs
   refine⟨_,_,h,fun K' σ' ho hx hK'=>?_⟩
   rw[e,hx x (by rw[hop];simp[Op.operands])]
   simp only[boxw,hvs]
   unfold newBox PutE
   rw[ho]
   exact hK'
  ·exact h.elim
 ·cases hm
theorem vB_more{pf:List Nat}{o:Oper}(hv:isV o.op=true){slots:List AV}{k:AV->Prop}{x:Obj}(h:vB P Γ pf o slots own k):vB P Γ pf o slots (own++[x]) k:=by
 unfold vB at h ⊢
 simp only[hv,if_true]at h ⊢
 exact vop_more h
theorem vG_more{pf:List Nat}{all:Array Oper}{o:Oper}(hv:isV o.op=true){slots:List AV}{k:AV->Prop}{x:Obj}(h:vG P Γ pf all o slots own k):vG P Γ pf all o slots (own++[x]) k:=by
 unfold vG at h ⊢
 split at h
 ·exact vB_more hv h
 ·split at h
  ·rename_i hd
   unfold grd at h ⊢
   split at h
   ·exact⟨fun e=>vB_more hv (h.1 e),h.2⟩
   ·exact h
   ·exact h.elim
  ·exact h.elim
def chainI(P:Program)(Γ:Nat->Contract)(ops:Array Oper)(Q:Exit->S->Prop):List Nat->S->Prop
 | [],σ=>Q .normal σ
 | i :: r,σ=>match ops[i]? with|some o=>opg P Γ ops o (chainI P Γ ops Q r) σ|none=>False
def swapOk(pf:List Nat)(ops:Array Oper)(p i:Nat):Bool :=
 match ops[p]?,ops[i]? with
 | some op,some oi=>op.apart ops oi && ((vlike pf op && vlike pf oi) || (isV op.op && isMake oi))
 | _,_=>false
def pairsOk(pf:List Nat)(ops:Array Oper):List Nat->Bool
 | []=>true
 | p :: r=>(r.all fun i=>Region.waitsFor .any ops i p || swapOk pf ops p i) && pairsOk pf ops r
def backOk(ops:Array Oper):Bool:=(List.range ops.size).all fun i=>(List.range ops.size).all fun j=>!Region.waitsFor .any ops i j || decide (j<i)
def edgesOk(ops:Array Oper):Bool:=ops.all fun o=>o.after.all fun e=>decide (e.on<ops.size) || !Region.binds .any e
def allOf(n:Nat)(L:List Nat):Bool:=(List.range n).all (fun i=>L.contains i) && decide (L.length=n) && L.all fun i=>decide (i<n)
def nodupB:List Nat->Bool
 | []=>true
 | i :: r=>!r.contains i && nodupB r
def drawOk(pf:List Nat)(ops:Array Oper)(L:List Nat):Bool:=pairsOk pf ops L && backOk ops && edgesOk ops && allOf ops.size L && nodupB L
theorem chain_mono{ops:Array Oper}{K K':S->Prop}{o:Oper}{σ:S}{pf:List Nat}(hpf:PureFns Γ pf)(hv:vlike pf o=true)(h:∀σ,K σ->K' σ)(hk:opg P Γ ops o K σ):opg P Γ ops o K' σ:=by
 rw[opg_vG hpf hv]at hk ⊢
 obtain⟨v,h1,h2⟩:=vG_det pf ops o σ.slots σ.own _ hk
 exact h2 _ (h _ h1)
theorem nodup_of{L:List Nat}(h:nodupB L=true):L.Nodup:=by
 induction L with
 | nil=>exact List.nodup_nil
 | cons i r ih =>
  simp only[nodupB,Bool.and_eq_true,Bool.not_eq_true',List.contains_eq_mem,decide_eq_false_iff_not]at h
  exact List.nodup_cons.2 ⟨h.1,ih h.2⟩
theorem filter_erase{L:List Nat}{f:Nat->Bool}{i:Nat}(hn:L.Nodup)(hi:i∈L)(hf:f i=true):∃pre post,L.filter f=pre++i :: post/\L.filter (fun j=>f j && decide (j≠i))=pre++post:=by
 induction L with
 | nil=>cases hi
 | cons a L ih =>
  obtain⟨h1,h2⟩:=List.nodup_cons.1 hn
  by_cases e:a=i
  ·subst e
   refine⟨[],L.filter f,by simp[hf],?_⟩
   simp only[List.filter_cons,hf,ne_eq,not_true_eq_false,decide_false,Bool.and_false,Bool.false_eq_true,if_false,List.nil_append]
   refine List.filter_congr fun j hj=>?_
   have:j≠a:=fun e=>h1 (e ▸ hj)
   simp[this]
  ·have hi':i∈L:=by
    rcases List.mem_cons.1 hi with h|h
    ·exact(e h.symm).elim
    ·exact h
   obtain⟨pre,post,g1,g2⟩:=ih h2 hi'
   by_cases hfa:f a=true
   ·refine⟨a :: pre,post,by simp[hfa,g1],?_⟩
    have g2':L.filter (fun j=>f j && !decide (j=i))=pre++post:=by simpa using g2
    simp[hfa,e,g2']
   ·refine⟨pre,post,by simp[hfa,g1],?_⟩
    have g2':L.filter (fun j=>f j && !decide (j=i))=pre++post:=by simpa using g2
    simp[hfa,g2']
end
end Go.AM
namespace Go.AM
open Go
section
variable {P:Program} {Γ:Nat->Contract} {Q:Exit->S->Prop} {σ:S} {K:S->Prop} {all:Array Oper}
@[go_sem] theorem awp_skip:awp P Γ .skip Q σ=Q .normal σ:=Eq.trans rfl rfl
@[go_sem] theorem awp_region {id:Nat} {ops:List Oper}:awp P Γ (.region id ops.toArray false) Q σ=awpOps P Γ ops.toArray Q ops σ:=Eq.trans rfl rfl
@[go_sem] theorem awp_draw {id:Nat} {ops:Array Oper}:awp P Γ (.region id ops true) Q σ=sem P (.region id ops true) Q σ:=Eq.trans rfl rfl
@[go_sem] theorem awp_seq {a b:Code}:awp P Γ (.seq a b) Q σ=awp P Γ a (andThen P Γ b Q) σ:=Eq.trans rfl rfl
def condC(P:Program)(Γ:Nat->Contract)(v:AV)(a b:Code)(Q:Exit->S->Prop)(σ:S):Prop:=condw v (awp P Γ a Q σ) (awp P Γ b Q σ)
@[go_sem] theorem awp_cond {x:Operand} {a b:Code}:awp P Γ (.cond x a b) Q σ=condC P Γ (ev σ.slots x) a b Q σ:=Eq.trans rfl rfl
@[go_sem] theorem condC_true {a b:Code}:condC P Γ (.dat (.bool true)) a b Q σ=awp P Γ a Q σ:=by simp[condC,condw]
@[go_sem] theorem condC_false {a b:Code}:condC P Γ (.dat (.bool false)) a b Q σ=awp P Γ b Q σ:=by simp[condC,condw]
@[go_sem] theorem awp_block {id:Nat} {b:Code}:awp P Γ (.block id b) Q σ=awp P Γ b (inBlk id Q) σ:=Eq.trans rfl rfl
@[go_sem] theorem awp_exit {id:Nat}:awp P Γ (.exit id) Q σ=Q (.exit id) σ:=Eq.trans rfl rfl
@[go_sem] theorem awp_ret:awp P Γ .ret Q σ=Q .ret σ:=Eq.trans rfl rfl
@[go_sem] theorem awp_loop {b:Code}:awp P Γ (.loop b) Q σ=sem P (.loop b) Q σ:=Eq.trans rfl rfl
@[go_sem] theorem andThen_normal {b:Code} {s:S}:andThen P Γ b Q .normal s=awp P Γ b Q s:=Eq.trans rfl rfl
@[go_sem] theorem andThen_exit {b:Code} {s:S} {i:Nat}:andThen P Γ b Q (.exit i) s=Q (.exit i) s:=Eq.trans rfl rfl
@[go_sem] theorem andThen_ret {b:Code} {s:S}:andThen P Γ b Q .ret s=Q .ret s:=Eq.trans rfl rfl
@[go_sem] theorem inBlk_normal {id:Nat} {s:S}:inBlk id Q .normal s=Q .normal s:=Eq.trans rfl rfl
@[go_sem] theorem inBlk_ret {id:Nat} {s:S}:inBlk id Q .ret s=Q .ret s:=Eq.trans rfl rfl
@[go_sem] theorem inBlk_exit_same {id:Nat} {s:S}:inBlk id Q (.exit id) s=Q .normal s:=by simp[inBlk]
@[go_sem] theorem inBlk_exit_other {id i:Nat} {s:S} (h:i≠id):inBlk id Q (.exit i) s=Q (.exit i) s:=by simp[inBlk,h]
@[go_sem] theorem awpOps_nil:awpOps P Γ all Q [] σ=Q .normal σ:=Eq.trans rfl rfl
@[go_sem] theorem awpOps_cons {o:Oper} {os:List Oper}:awpOps P Γ all Q (o :: os) σ=opg P Γ all o (awpOps P Γ all Q os) σ:=Eq.trans rfl rfl
@[go_sem] theorem chainI_nil:chainI P Γ all Q [] σ=Q .normal σ:=Eq.trans rfl rfl
section
variable {dst:Option Tmp} {ty:TypeId} {pos:String} {af:Array Edge} {gd:Option (Nat×Bool)}
@[go_sem] theorem opg_none {op:Op}:opg P Γ all ⟨dst,op,ty,pos,af,none⟩ K σ=opw P Γ ⟨dst,op,ty,pos,af,none⟩ K σ:=Eq.trans rfl rfl
def grdO(P:Program)(Γ:Nat->Contract)(v:AV)(want:Bool)(o:Oper)(K:S->Prop)(σ:S):Prop:=grd v want (opw P Γ o K σ) (K (σ.put o.dst (.tup [])))
@[go_sem] theorem opg_some {op:Op} {j:Nat} {want:Bool}:opg P Γ all ⟨dst,op,ty,pos,af,some (j,want)⟩ K σ =
  (match (all[j]?).bind (·.dst) with|some d=>grdO P Γ (σ.slots.getD d .top) want ⟨dst,op,ty,pos,af,some (j,want)⟩ K σ|none=>False):=rfl
@[go_sem] theorem grdO_tt {o:Oper}:grdO P Γ (.dat (.bool true)) true o K σ=opw P Γ o K σ:=by simp[grdO,grd]
@[go_sem] theorem grdO_ff {o:Oper}:grdO P Γ (.dat (.bool false)) false o K σ=opw P Γ o K σ:=by simp[grdO,grd]
@[go_sem] theorem grdO_tf {o:Oper}:grdO P Γ (.dat (.bool true)) false o K σ=K (σ.put o.dst (.tup [])):=by simp[grdO,grd]
@[go_sem] theorem grdO_ft {o:Oper}:grdO P Γ (.dat (.bool false)) true o K σ=K (σ.put o.dst (.tup [])):=by simp[grdO,grd]
@[go_sem] theorem grdO_tup {want:Bool} {o:Oper}:grdO P Γ (.tup []) want o K σ=K (σ.put o.dst (.tup [])):=by simp[grdO,grd]
@[go_sem] theorem opw_move {x:Operand}:opw P Γ ⟨dst,.move x,ty,pos,af,gd⟩ K σ=PutV dst K σ (ev σ.slots x):=Eq.trans rfl rfl
@[go_sem] theorem opw_assign {x:Operand}:opw P Γ ⟨dst,.assign x,ty,pos,af,gd⟩ K σ=PutV dst K σ (ev σ.slots x):=Eq.trans rfl rfl
@[go_sem] theorem opw_pick {c a b:Operand}:opw P Γ ⟨dst,.pick c a b,ty,pos,af,gd⟩ K σ=pickw (ev σ.slots c) (ev σ.slots a) (ev σ.slots b) (PutV dst K σ):=Eq.trans rfl rfl
@[go_sem] theorem opw_binOp {op:BinOp} {t t':TypeId} {x y:Operand}:opw P Γ ⟨dst,.binOp op t x y t',ty,pos,af,gd⟩ K σ=binTop P op t (ev σ.slots x) (aggD (ev σ.slots y)) (PutV dst K σ):=Eq.trans rfl rfl
@[go_sem] theorem aggD_dat {d:D}:aggD (.dat d)=.dat d:=Eq.trans rfl rfl
@[go_sem] theorem aggD_nils:aggD .nils=.nils:=Eq.trans rfl rfl
@[go_sem] theorem aggD_nilm:aggD .nilm=.nilm:=Eq.trans rfl rfl
@[go_sem] theorem aggD_sl {o a b:Nat}:aggD (.sl o a b)=.sl o a b:=Eq.trans rfl rfl
@[go_sem] theorem aggD_ptr {o a b:Nat}:aggD (.ptr o a b)=.ptr o a b:=Eq.trans rfl rfl
@[go_sem] theorem aggD_rptr {a:Option Nat} {d:D}:aggD (.rptr a d)=.rptr a d:=Eq.trans rfl rfl
@[go_sem] theorem aggD_tup {vs:List AV}:aggD (.tup vs)=.tup vs:=Eq.trans rfl rfl
@[go_sem] theorem aggD_map {o:Nat}:aggD (.map o)=.map o:=Eq.trans rfl rfl
@[go_sem] theorem aggD_yld {o:Nat}:aggD (.yld o)=.yld o:=Eq.trans rfl rfl
@[go_sem] theorem aggD_fn {f:Nat} {vs:List AV}:aggD (.fn f vs)=.fn f vs:=Eq.trans rfl rfl
@[go_sem] theorem aggD_top:aggD .top=.top:=Eq.trans rfl rfl
@[go_sem] theorem aggD_agg {vs:List AV}:aggD (.agg vs)=(match datsD vs with|some ds=>.dat (.agg ds)|none=>.agg vs):=Eq.trans rfl rfl
@[go_sem] theorem datsD_nil:datsD []=some []:=Eq.trans rfl rfl
@[go_sem] theorem datsD_cons {d:D} {vs:List AV}:datsD (.dat d :: vs)=(datsD vs).map (d :: ·):=Eq.trans rfl rfl
@[go_sem] theorem opw_unOp {op:UnOp} {t:TypeId} {x:Operand}:opw P Γ ⟨dst,.unOp op t x,ty,pos,af,gd⟩ K σ=unw op (ev σ.slots x) (PutV dst K σ):=Eq.trans rfl rfl
@[go_sem] theorem opw_convert {s d:TypeId} {x:Operand}:opw P Γ ⟨dst,.convert s d x,ty,pos,af,gd⟩ K σ=convw P (tyOf P s) (tyOf P d) (ev σ.slots x) (PutV dst K σ):=Eq.trans rfl rfl
@[go_sem] theorem opw_load {t:TypeId} {x:Operand}:opw P Γ ⟨dst,.load t x,ty,pos,af,gd⟩ K σ=loadw (tyOf P t) σ.own (ev σ.slots x) (PutV dst K σ):=Eq.trans rfl rfl
@[go_sem] theorem opw_fieldAddr {t:TypeId} {x:Operand} {f:Nat}:opw P Γ ⟨dst,.fieldAddr t x f,ty,pos,af,gd⟩ K σ=fieldAddrw P (tyOf P t) (ev σ.slots x) f (PutV dst K σ):=Eq.trans rfl rfl
@[go_sem] theorem opw_field {t:TypeId} {x:Operand} {f:Nat}:opw P Γ ⟨dst,.field t x f,ty,pos,af,gd⟩ K σ=fieldw P (tyOf P t) (ev σ.slots x) f (PutV dst K σ):=Eq.trans rfl rfl
@[go_sem] theorem opw_indexAddr {t:TypeId} {x i:Operand}:opw P Γ ⟨dst,.indexAddr t x i,ty,pos,af,gd⟩ K σ=idxAddrw P (tyOf P t) σ.own (ev σ.slots x) (ev σ.slots i) (PutV dst K σ):=Eq.trans rfl rfl
@[go_sem] theorem opw_index {t:TypeId} {x i:Operand}:opw P Γ ⟨dst,.index t x i,ty,pos,af,gd⟩ K σ=indexw P (tyOf P t) (ev σ.slots x) (ev σ.slots i) (PutV dst K σ):=Eq.trans rfl rfl
@[go_sem] theorem opw_slice {t:TypeId} {x:Operand} {lo hi:Option Operand}:opw P Γ ⟨dst,.slice t x lo hi none,ty,pos,af,gd⟩ K σ=slicew P (tyOf P t) σ.own (ev σ.slots x) (lo.map (ev σ.slots)) (hi.map (ev σ.slots)) (PutV dst K σ):=Eq.trans rfl rfl
@[go_sem] theorem opw_build {t:TypeId} {parts:List (Nat×Operand)}:opw P Γ ⟨dst,.build t parts.toArray,ty,pos,af,gd⟩ K σ=buildw P (tyOf P t) (parts.map fun p=>(p.1,ev σ.slots p.2)) (PutV dst K σ):=Eq.trans rfl rfl
@[go_sem] theorem opw_extract {x:Operand} {i:Nat}:opw P Γ ⟨dst,.extract x i,ty,pos,af,gd⟩ K σ=extractw (ev σ.slots x) i (PutV dst K σ):=Eq.trans rfl rfl
@[go_sem] theorem opw_lookup {t:TypeId} {x k:Operand} {ok:Bool}:opw P Γ ⟨dst,.lookup t x k ok,ty,pos,af,gd⟩ K σ=lookupw P (tyOf P t) σ.own (ev σ.slots x) (ev σ.slots k) ok (PutV dst K σ):=Eq.trans rfl rfl
@[go_sem] theorem opw_nilCheck {x:Operand}:opw P Γ ⟨dst,.nilCheck x,ty,pos,af,gd⟩ K σ=nilw (ev σ.slots x) (PutV dst K σ):=Eq.trans rfl rfl
@[go_sem] theorem opw_makeFunc {f:Nat} {cs:List Operand}:opw P Γ ⟨dst,.makeFunc (.func f) #[] cs.toArray,ty,pos,af,gd⟩ K σ=PutV dst K σ (.fn f (cs.map (ev σ.slots))):=by
 simp[opw,isV,vop]
@[go_sem] theorem opw_len {x:Operand} {t:TypeId}:opw P Γ ⟨dst,.call { callee:=.builtin .len,args:=#[x],argTypes:=#[t] },ty,pos,af,gd⟩ K σ=lenw P (tyOf P t) σ.own (ev σ.slots x) (PutV dst K σ):=Eq.trans rfl rfl
@[go_sem] theorem opw_min {x y:Operand} {ts:Array TypeId}:opw P Γ ⟨dst,.call { callee:=.builtin .min,args:=#[x,y],argTypes:=ts },ty,pos,af,gd⟩ K σ=minw true (ev σ.slots x) (ev σ.slots y) (PutV dst K σ):=Eq.trans rfl rfl
@[go_sem] theorem opw_max {x y:Operand} {ts:Array TypeId}:opw P Γ ⟨dst,.call { callee:=.builtin .max,args:=#[x,y],argTypes:=ts },ty,pos,af,gd⟩ K σ=minw false (ev σ.slots x) (ev σ.slots y) (PutV dst K σ):=Eq.trans rfl rfl
@[go_sem] theorem opw_alloc {e:TypeId}:opw P Γ ⟨dst,.alloc e,ty,pos,af,gd⟩ K σ=allocw P e σ.own (PutE dst K σ):=Eq.trans rfl rfl
@[go_sem] theorem opw_box {e:TypeId} {x:Operand}:opw P Γ ⟨dst,.box e x,ty,pos,af,gd⟩ K σ=boxw σ.own (ev σ.slots x) (PutE dst K σ):=Eq.trans rfl rfl
@[go_sem] theorem opw_buildSlice {t:TypeId} {len:Nat} {parts:List (Nat×Operand)}:opw P Γ ⟨dst,.buildSlice t len parts.toArray,ty,pos,af,gd⟩ K σ=buildSlicew P (tyOf P t) σ.own len (parts.map fun p=>(p.1,ev σ.slots p.2)) (PutE dst K σ):=Eq.trans rfl rfl
@[go_sem] theorem opw_store {t:TypeId} {a x:Operand}:opw P Γ ⟨dst,.store t a x,ty,pos,af,gd⟩ K σ=storew (tyOf P t) σ.own (ev σ.slots a) (ev σ.slots x) (PutE dst K σ):=Eq.trans rfl rfl
@[go_sem] theorem opw_makeMap {t:TypeId}:opw P Γ ⟨dst,.makeMap t none,ty,pos,af,gd⟩ K σ=PutE dst K σ (.map σ.own.length) (σ.own++[.map []]) []:=Eq.trans rfl rfl
@[go_sem] theorem opw_makeSlice {t:TypeId} {l c:Operand}:opw P Γ ⟨dst,.makeSlice t l c,ty,pos,af,gd⟩ K σ=makeSlicew P (tyOf P t) σ.own (ev σ.slots l) (ev σ.slots c) (PutE dst K σ):=Eq.trans rfl rfl
@[go_sem] theorem opw_mapUpdate {t:TypeId} {m k x:Operand}:opw P Γ ⟨dst,.mapUpdate t m k x,ty,pos,af,gd⟩ K σ=mapUpdatew P (tyOf P t) σ.own (ev σ.slots m) (ev σ.slots k) (ev σ.slots x) (PutE dst K σ):=Eq.trans rfl rfl
@[go_sem] theorem opw_insert {t:TypeId} {m k x:Operand}:opw P Γ ⟨dst,.insert t m k x,ty,pos,af,gd⟩ K σ=mapUpdatew P (tyOf P t) σ.own (ev σ.slots m) (ev σ.slots k) (ev σ.slots x) (PutE dst K σ):=Eq.trans rfl rfl
@[go_sem] theorem opw_append {x y:Operand} {t t':TypeId}:opw P Γ ⟨dst,.call { callee:=.builtin .append,args:=#[x,y],argTypes:=#[t,t'] },ty,pos,af,gd⟩ K σ=appTw P σ.own t t' (ev σ.slots x) (ev σ.slots y) (PutE dst K σ):=Eq.trans rfl rfl
attribute [go_sem] appTw_same
@[go_sem] theorem opw_copy {x y:Operand} {t t':TypeId}:opw P Γ ⟨dst,.call { callee:=.builtin .copy,args:=#[x,y],argTypes:=#[t,t'] },ty,pos,af,gd⟩ K σ=copyw P (tyOf P t) σ.own (ev σ.slots x) (ev σ.slots y) (PutE dst K σ):=Eq.trans rfl rfl
@[go_sem] theorem opw_call {f:Operand} {args:List Operand} {ts:Array TypeId}:opw P Γ ⟨dst,.call { callee:=.value f,args:=args.toArray,argTypes:=ts },ty,pos,af,gd⟩ K σ=callw Γ (ev σ.slots f) (args.map (ev σ.slots)) σ.own (PutE dst K σ):=Eq.trans rfl rfl
end
@[go_sem] theorem PutV_some {d:Tmp} {s:List AV} {own:List Obj} {n:Nat} {m:List Nat} {v:AV}:PutV (some d) K ⟨s,own,n,m⟩ v=K ⟨s.set d v,own,n,m⟩:=Eq.trans rfl rfl
@[go_sem] theorem PutV_none {v:AV}:PutV none K σ v=K σ:=Eq.trans rfl rfl
@[go_sem] theorem put_some {d:Tmp} {s:List AV} {own:List Obj} {n:Nat} {m:List Nat} {v:AV}:S.put ⟨s,own,n,m⟩ (some d) v=⟨s.set d v,own,n,m⟩:=Eq.trans rfl rfl
@[go_sem] theorem put_none {v:AV}:S.put σ none v=σ:=Eq.trans rfl rfl
@[go_sem] theorem PutE_some {d:Tmp} {s:List AV} {own own':List Obj} {n:Nat} {m:List Nat} {v:AV}:PutE (some d) K ⟨s,own,n,m⟩ v own' []=K ⟨s.set d v,own',n,m⟩:=Eq.trans rfl rfl
@[go_sem] theorem PutE_none {s:List AV} {own own':List Obj} {n:Nat} {m:List Nat} {v:AV}:PutE none K ⟨s,own,n,m⟩ v own' []=K ⟨s,own',n,m⟩:=Eq.trans rfl rfl
@[go_sem] theorem PutE_kill {d:Tmp} {s:List AV} {own own':List Obj} {n o:Nat} {m:List Nat} {v:AV}:PutE (some d) K ⟨s,own,n,m⟩ v own' [o]=K ⟨(AV.kills o s).set d v,own',n,addMv n m [o]⟩:=Eq.trans rfl rfl
@[go_sem] theorem addMv_nil {n:Nat} {m:List Nat}:addMv n m []=m:=Eq.trans rfl rfl
@[go_sem] theorem addMv_zero {o:Nat} {m:List Nat}:addMv 0 m [o]=m:=by simp[addMv]
@[go_sem] theorem ev_tmp {s:List AV} {t:Tmp}:ev s (.tmp t)=s.getD t .top:=Eq.trans rfl rfl
@[go_sem] theorem ev_func {s:List AV} {f:Nat}:ev s (.func f)=.fn f []:=Eq.trans rfl rfl
@[go_sem] theorem ev_bool {s:List AV} {b:Bool}:ev s (.const (.bool b))=.dat (.bool b):=Eq.trans rfl rfl
@[go_sem] theorem ev_nils {s:List AV}:ev s (.const (.slice none 0 0))=.nils:=Eq.trans rfl rfl
@[go_sem] theorem ev_nilm {s:List AV}:ev s (.const (.map none))=.nilm:=Eq.trans rfl rfl
@[go_sem] theorem ev_i64 {s:List AV} {n:Int} (h:-9223372036854775808<=n/\n<=9223372036854775807):ev s (.const (.int .i64 n))=.dat (.int .i64 n):=by
 simp only[ev,constAV,constAV0]
 rw[if_pos (show (Lit.int .i64 n).wf=true from inR_i64.2 h)]
@[go_sem] theorem ev_u64 {s:List AV} {n:Int} (h:0<=n/\n<=18446744073709551615):ev s (.const (.int .u64 n))=.dat (.int .u64 n):=by
 simp only[ev,constAV,constAV0]
 rw[if_pos (show (Lit.int .u64 n).wf=true from inR_u64.2 h)]
@[go_sem] theorem ev_u8 {s:List AV} {n:Int} (h:0<=n/\n<=255):ev s (.const (.int .u8 n))=.dat (.int .u8 n):=by
 simp only[ev,constAV,constAV0]
 rw[if_pos (show (Lit.int .u8 n).wf=true from inR_u8.2 h)]
@[go_sem] theorem ev_agg {s:List AV} {cs:List Value} (h:cs.all (·.oneCell')=true):ev s (.const (.agg cs.toArray))=.agg (cs.map constAV0):=by
 simp only[ev,constAV,h,if_true]
@[go_sem] theorem constAV0_nil:constAV0 (.slice none 0 0)=.nils:=Eq.trans rfl rfl
@[go_sem] theorem constAV0_nilm:constAV0 (.map none)=.nilm:=Eq.trans rfl rfl
@[go_sem] theorem constAV0_bool {b:Bool}:constAV0 (.bool b)=.dat (.bool b):=Eq.trans rfl rfl
@[go_sem] theorem constAV0_i64 {n:Int} (h:-9223372036854775808<=n/\n<=9223372036854775807):constAV0 (.int .i64 n)=.dat (.int .i64 n):=by
 simp only[constAV0]
 rw[if_pos (show (Lit.int .i64 n).wf=true from inR_i64.2 h)]
@[go_sem] theorem condw_bool {b:Bool} {A B:Prop}:condw (.dat (.bool b)) A B=((b=true->A)/\(b=false->B)):=Eq.trans rfl rfl
@[go_sem] theorem pickw_true {x y:AV} {K:AV->Prop}:pickw (.dat (.bool true)) x y K=K x:=by simp[pickw]
@[go_sem] theorem pickw_false {x y:AV} {K:AV->Prop}:pickw (.dat (.bool false)) x y K=K y:=by simp[pickw]
@[go_sem] theorem grd_bool {b want:Bool} {A B:Prop}:grd (.dat (.bool b)) want A B=((b=want->A)/\(b=(!want)->B)):=Eq.trans rfl rfl
@[go_sem] theorem grd_tup {want:Bool} {A B:Prop}:grd (.tup []) want A B=B:=Eq.trans rfl rfl
section
variable {K:AV->Prop} {t:TypeId} {k:IntKind} {a b:Int}
@[go_sem] theorem bin_add:binTop P .add t (.dat (.int .i64 a)) (.dat (.int .i64 b)) K=(inR .i64 (a+b)/\K (.dat (.int .i64 (a+b)))):=by simp[binTop,eqOk,eqTy,binw,intw,fitw,isSigned]
@[go_sem] theorem bin_sub:binTop P .sub t (.dat (.int .i64 a)) (.dat (.int .i64 b)) K=(inR .i64 (a - b)/\K (.dat (.int .i64 (a - b)))):=by simp[binTop,eqOk,eqTy,binw,intw,fitw,isSigned]
@[go_sem] theorem bin_mul:binTop P .mul t (.dat (.int .i64 a)) (.dat (.int .i64 b)) K=(inR .i64 (a*b)/\K (.dat (.int .i64 (a*b)))):=by simp[binTop,eqOk,eqTy,binw,intw,fitw,isSigned]
@[go_sem] theorem bin_quo:binTop P .quo t (.dat (.int .i64 a)) (.dat (.int .i64 b)) K=(b≠0/\inR .i64 (a.tdiv b)/\K (.dat (.int .i64 (a.tdiv b)))):=by simp[binTop,eqOk,eqTy,binw,intw,fitw,isSigned]
@[go_sem] theorem bin_rem:binTop P .rem t (.dat (.int .i64 a)) (.dat (.int .i64 b)) K=(b≠0/\inR .i64 (a.tmod b)/\K (.dat (.int .i64 (a.tmod b)))):=by simp[binTop,eqOk,eqTy,binw,intw,fitw,isSigned]
@[go_sem] theorem bin_eql:binTop P .eql t (.dat (.int k a)) (.dat (.int k b)) K=K (.dat (.bool (decide (a=b)))):=by simp[binTop,eqOk,eqTy,binw,intw]
@[go_sem] theorem bin_neq:binTop P .neq t (.dat (.int k a)) (.dat (.int k b)) K=K (.dat (.bool (!decide (a=b)))):=by simp[binTop,eqOk,eqTy,binw,intw]
@[go_sem] theorem bin_lss:binTop P .lss t (.dat (.int k a)) (.dat (.int k b)) K=K (.dat (.bool (decide (a<b)))):=by simp[binTop,eqOk,eqTy,binw,intw]
@[go_sem] theorem bin_leq:binTop P .leq t (.dat (.int k a)) (.dat (.int k b)) K=K (.dat (.bool (decide (a<=b)))):=by simp[binTop,eqOk,eqTy,binw,intw]
@[go_sem] theorem bin_gtr:binTop P .gtr t (.dat (.int k a)) (.dat (.int k b)) K=K (.dat (.bool (decide (b<a)))):=by simp[binTop,eqOk,eqTy,binw,intw]
@[go_sem] theorem bin_geq:binTop P .geq t (.dat (.int k a)) (.dat (.int k b)) K=K (.dat (.bool (decide (b<=a)))):=by simp[binTop,eqOk,eqTy,binw,intw]
@[go_sem] theorem bin_and:binTop P .and t (.dat (.int k a)) (.dat (.int k b)) K=K (.dat (.int k (bitsV .and k a b))):=by simp[binTop,eqOk,eqTy,binw,intw]
@[go_sem] theorem bin_or:binTop P .or t (.dat (.int k a)) (.dat (.int k b)) K=K (.dat (.int k (bitsV .or k a b))):=by simp[binTop,eqOk,eqTy,binw,intw]
@[go_sem] theorem bin_xor:binTop P .xor t (.dat (.int k a)) (.dat (.int k b)) K=K (.dat (.int k (bitsV .xor k a b))):=by simp[binTop,eqOk,eqTy,binw,intw]
@[go_sem] theorem bin_andNot:binTop P .andNot t (.dat (.int k a)) (.dat (.int k b)) K=K (.dat (.int k (bitsV .andNot k a b))):=by simp[binTop,eqOk,eqTy,binw,intw]
@[go_sem] theorem bin_shl {k':IntKind}:binTop P .shl t (.dat (.int k a)) (.dat (.int k' b)) K=(0<=b/\K (.dat (.int k (shlV k a b)))):=by simp[binTop,eqOk,eqTy,binw]
@[go_sem] theorem bin_shr {k':IntKind}:binTop P .shr t (.dat (.int k a)) (.dat (.int k' b)) K=(0<=b/\inR k (shrV k a b)/\K (.dat (.int k (shrV k a b)))):=by simp[binTop,eqOk,eqTy,binw]
@[go_sem] theorem bin_seql {x y:List UInt8}:binTop P .eql t (.dat (.str x)) (.dat (.str y)) K=K (.dat (.bool (decide (x=y)))):=by simp[binTop,eqOk,eqTy,binw]
@[go_sem] theorem bin_sneq {x y:List UInt8}:binTop P .neq t (.dat (.str x)) (.dat (.str y)) K=K (.dat (.bool (!decide (x=y)))):=by simp[binTop,eqOk,eqTy,binw]
@[go_sem] theorem bin_sadd {x y:List UInt8}:binTop P .add t (.dat (.str x)) (.dat (.str y)) K=(x.length+y.length<=maxLen/\K (.dat (.str (x++y)))):=by simp[binTop,eqOk,eqTy,binw]
@[go_sem] theorem un_not {c:Bool}:unw .not (.dat (.bool c)) K=K (.dat (.bool (!c))):=Eq.trans rfl rfl
@[go_sem] theorem un_neg:unw .neg (.dat (.int .i64 a)) K=(inR .i64 (0 - a)/\K (.dat (.int .i64 (0 - a)))):=by simp[unw,fitw,isSigned]
end
end
end Go.AM
namespace Go.AM
open Go
attribute [go_sem] List.getD_cons_zero List.getD_cons_succ List.set_cons_zero List.set_cons_succ List.map_cons List.map_nil List.cons_append List.nil_append List.length_cons List.length_nil
section
variable {P:Program} {Γ:Nat->Contract} {fn:Func}
theorem le_data{v:AV}{own:List Obj}{mv:List Nat}(h:v.under 0):Le ⟨[v],own,0,mv⟩ ⟨[v],[],0,[]⟩:=by
 intro c a w hst
 have h1:St c ⟨[v],[],0,mv⟩ a w:=le_drop (s:=[v]) (own:=[]) (ex:=own) (n0:=0) (mv:=mv) (Nat.le_refl _) (by simp only[AV.unders,List.length_nil];exact⟨h,trivial⟩) (by simp) c a w hst
 obtain⟨hd,hn,F,φ,h2,h3,h4⟩:=h1
 exact⟨hd,hn,F,φ,{ h2 with keep:=fun o L hlt _ _=>by rw[← hn]at hlt;simp at hlt },h3,h4⟩
def tmpsOf:List Tmp->List AV->List AV
 | [],_=>[]
 | t :: ts,s=>s.getD t .top :: tmpsOf ts s
theorem resL_tmps:∀(ts:List Tmp) (σ:S) (K:List AV->Prop),K (tmpsOf ts σ.slots)->resL P (ts.map .tmp) σ K
 | [],_,_,h=>h
 | t :: ts,σ,K,h=>by
  simp only[List.map_cons,resL]
  exact resL_tmps ts σ _ h
theorem post_data{v:AV}{s:List AV}{own:List Obj}{mv:List Nat}{e:Exit}(he:e=.ret∨e=.normal)(ts:List Tmp)(hts:fn.results.toList=ts.map .tmp)(hu:v.under 0)(hv:resV (tmpsOf ts s)=v):post P fn v [] [] e ⟨s,own,0,mv⟩:=by
 refine⟨by rcases he with rfl|rfl <;> trivial,?_⟩
 rw[hts]
 refine resL_tmps ts _ _ ⟨[],?_,fun _ h=>h⟩
 rw[hv]
 exact le_data hu
end
end Go.AM
namespace Go.AM
open Go
mutual
def AV.shift(k:Nat):AV->AV
 | .sl o i j=>.sl (k+o) i j
 | .ptr o i j=>.ptr (k+o) i j
 | .map o=>.map (k+o)
 | .yld o=>.yld (k+o)
 | .agg vs=>.agg (AV.shifts k vs)
 | .tup vs=>.tup (AV.shifts k vs)
 | .fn f vs=>.fn f (AV.shifts k vs)
 | .dat d=>.dat d
 | .nils=>.nils
 | .nilm=>.nilm
 | .rptr ag d=>.rptr ag d
 | .top=>.top
def AV.shifts(k:Nat):List AV->List AV
 | []=>[]
 | a :: as=>a.shift k :: AV.shifts k as
end
def Obj.shift(k:Nat):Obj->Obj
 | .box cs=>.box (AV.shifts k cs)
 | .lp r cs=>.lp r (AV.shifts k cs)
 | .bld T u cs=>.bld T u (AV.shifts k cs)
 | .vec cs=>.vec (AV.shifts k cs)
 | .tab k' cs=>.tab k' (AV.shifts k cs)
 | x=>x
section
variable {P:Program} {Γ:Nat->Contract} {F:Nat->Prop} {φ φ':Nat->Option Loc} {w:World} {own:List Obj}
mutual
theorem AV.R_shift{k:Nat}(hφ:∀o L,φ o=some L->φ' (k+o)=some L):∀(a:AV) (v:Value),AV.R F φ w a v->AV.R F φ' w (a.shift k) v
 | .dat d,v,h=>by simpa only[AV.shift,AV.R] using h
 | .nils,_,h=>by simpa only[AV.shift,AV.R] using h
 | .nilm,_,h=>by simpa only[AV.shift,AV.R] using h
 | .sl o' i j,v,h=>by
  simp only[AV.shift,AV.R]at h ⊢
  obtain⟨L,h1,h2⟩:=h
  exact⟨L,hφ o' L h1,h2⟩
 | .ptr o' i j,v,h=>by
  simp only[AV.shift,AV.R]at h ⊢
  obtain⟨L,h1,h2⟩:=h
  exact⟨L,hφ o' L h1,h2⟩
 | .rptr ag d,v,h=>by simpa only[AV.shift,AV.R] using h
 | .agg vs,v,h=>by
  simp only[AV.shift,AV.R]at h ⊢
  obtain⟨arr,h1,h2⟩:=h
  exact⟨arr,h1,AV.Ra_shift hφ vs arr h2⟩
 | .tup vs,v,h=>by
  simp only[AV.shift,AV.R]at h ⊢
  obtain⟨arr,h1,h2⟩:=h
  exact⟨arr,h1,AV.Rs_shift hφ vs arr h2⟩
 | .map o',v,h=>by
  simp only[AV.shift,AV.R]at h ⊢
  obtain⟨L,h1,h2⟩:=h
  exact⟨L,hφ o' L h1,h2⟩
 | .yld o',v,h=>by
  simp only[AV.shift,AV.R]at h ⊢
  obtain⟨L,h1,h2⟩:=h
  exact⟨L,hφ o' L h1,h2⟩
 | .fn f vs,v,h=>by
  simp only[AV.shift,AV.R]at h ⊢
  obtain⟨arr,h1,h2⟩:=h
  exact⟨arr,h1,AV.Rs_shift hφ vs arr h2⟩
 | .top,_,_=>by simp only[AV.shift,AV.R]
theorem AV.Rs_shift{k:Nat}(hφ:∀o L,φ o=some L->φ' (k+o)=some L):∀(as:List AV) (vs:List Value),AV.Rs F φ w as vs->AV.Rs F φ' w (AV.shifts k as) vs
 | [],_,h=>by simpa only[AV.shifts,AV.Rs] using h
 | a :: as,vs,h=>by
  simp only[AV.shifts,AV.Rs]at h ⊢
  obtain⟨v,vs',h1,h2,h3⟩:=h
  exact⟨v,vs',h1,AV.R_shift hφ a v h2,AV.Rs_shift hφ as vs' h3⟩
theorem AV.Ra_shift{k:Nat}(hφ:∀o L,φ o=some L->φ' (k+o)=some L):∀(as:List AV) (vs:List Value),AV.Ra F φ w as vs->AV.Ra F φ' w (AV.shifts k as) vs
 | [],_,h=>by simpa only[AV.shifts,AV.Ra] using h
 | a :: as,vs,h=>by
  simp only[AV.shifts,AV.Ra]at h ⊢
  obtain⟨v,vs',h1,h0,h2,h3⟩:=h
  exact⟨v,vs',h1,h0,AV.R_shift hφ a v h2,AV.Ra_shift hφ as vs' h3⟩
end
theorem AV.shifts_length{k:Nat}:∀(cs:List AV),(AV.shifts k cs).length=cs.length
 | []=>rfl
 | c :: cs=>by simp only[AV.shifts,List.length_cons,AV.shifts_length cs]
theorem ObjR_shift{k:Nat}(hφ:∀o L,φ o=some L->φ' (k+o)=some L){l:Option Loc}{obj:Obj}(h:ObjR F φ w l obj):ObjR F φ' w l (obj.shift k):=by
 cases l with
 | none=>cases obj <;> simp only[ObjR,Obj.shift]at h ⊢
 | some L =>
  cases obj with
  | row ag xs=>simpa only[ObjR,Obj.shift] using h
  | vec cs =>
   simp only[ObjR,Obj.shift]at h ⊢
   obtain⟨h1,h2⟩:=h
   refine⟨h1,?_⟩
   rcases h2 with⟨h2,rfl⟩|⟨h2,arr,ty,h3,h4,h5,vs,h6,h7⟩
   ·exact .inl ⟨h2,rfl⟩
   ·exact .inr ⟨h2,arr,ty,h3,h4,by rw[AV.shifts_length];exact h5,vs,AV.Ra_shift hφ _ _ h6,by rw[AV.shifts_length];exact h7⟩
  | tab k0 cs =>
   simp only[ObjR,Obj.shift]at h ⊢
   obtain⟨h1,h2⟩:=h
   refine⟨h1,?_⟩
   rcases h2 with⟨h2,rfl⟩|⟨h2,arr,ty,h3,h4,h5,vs,h6,h7⟩
   ·exact .inl ⟨h2,rfl⟩
   ·exact .inr ⟨h2,arr,ty,h3,h4,by rw[AV.shifts_length];exact h5,vs,AV.Ra_shift hφ _ _ h6,by rw[AV.shifts_length];exact h7⟩
  | box cs =>
   simp only[ObjR,Obj.shift]at h ⊢
   obtain⟨h1,h2,arr,ty,h3,h4,h5⟩:=h
   exact⟨h1,h2,arr,ty,h3,h4,AV.Ra_shift hφ _ _ h5⟩
  | lp r0 cs =>
   simp only[ObjR,Obj.shift]at h ⊢
   obtain⟨h1,h2,arr,ty,h3,h4,h5⟩:=h
   exact⟨h1,h2,arr,ty,h3,h4,AV.Rs_shift hφ _ _ h5⟩
  | bld T0 u0 cs =>
   simp only[ObjR,Obj.shift]at h ⊢
   obtain⟨h1,h2,arr,ty,h3,h4,h5⟩:=h
   exact⟨h1,h2,arr,ty,h3,h4,AV.Rs_shift hφ _ _ h5⟩
  | brow e0 bs0=>simpa only[ObjR,Obj.shift] using h
  | map m=>simpa only[ObjR,Obj.shift] using h
  | dead=>simp only[ObjR,Obj.shift]
def madeC(R:List D->AV->List Obj->Prop):Contract:=fun args own v own' mv =>
 ∃ds v0 ob,args.all AV.isDat=true/\asDL own args=some ds/\R ds v0 ob/\v=v0.shift own.length/\own'=own++ob.map (Obj.shift own.length)/\mv=[]
theorem okF_made {g : Nat} {fn : Func} {body : Code} {R : List D -> AV -> List Obj -> Prop} (hf : P.funcs[g]? = some fn) (hb : fn.body = some body) (hname : fn.name ≠ "runtime.NumGoroutine")
  (h:∀ds v ob,R ds v ob->sem P body (post P fn v ob []) ⟨ds.map .dat++List.replicate (fn.ntmps - (ds.map AV.dat).length) .top,[],0,[]⟩):OkF P g (madeC R):=by
 intro args own v own' mv hC
 obtain⟨ds,v0,ob,hk,hds,hR,rfl,rfl,rfl⟩:=hC
 refine⟨⟨fn,body,hf,hb,hname⟩,fun F φ w vs hc hs=>?_⟩
 have none0:Conc F (fun _=>none) [] w:=⟨hc.fb,(fun _ _ h=>by cases h),(fun _ _ _ _ h=>by cases h),(fun _ _ h=>by simp at h),(fun _ _=>rfl),hc.glob⟩
 refine(calls_of_sem hf hb (h ds v0 ob hR) (n0:=0) (fun _ _ h=>by cases h) none0 (asDL_dat _ _ _ hk hds hs)).mono ?_
 rintro e w' ⟨r,F',φ',rfl,ha,hv⟩
 let n:=own.length
 let φ2:Nat->Option Loc:=fun o=>if o<n then φ o else φ' (o - n)
 have hφ:∀o L,φ' o=some L->φ2 (n+o)=some L:=fun o L ho=>by
  simp only[φ2]
  rw[if_neg (by omega),Nat.add_sub_cancel_left];exact ho
 have hold:∀b,b<w.heap.size->w'.heap[b]?=w.heap[b]?:=fun b hb=>ha.rest b hb (fun _ _ h=>by cases h)
 have hsub:∀b,F' b->F b∨w.heap.size<=b:=fun b hb=>by
  rcases ha.frsh b hb with h|h|⟨_,_,h,_⟩
  ·exact .inl h
  ·exact .inr h
  ·cases h
 have horig:∀o L',φ' o=some L'->L'.nil=false->w.heap.size<=L'.b:=fun o L' ho hn=>by
  rcases ha.orig o L' ho hn with h|⟨_,_,h,_⟩
  ·exact h
  ·cases h
 have hlow:∀o L,φ o=some L->o<n:=fun o L ho=>by
  rcases Nat.lt_or_ge o n with h|h
  ·exact h
  ·rw[hc.out o h]at ho;cases ho
 have hφ0:∀o L,φ o=some L->φ2 o=some L:=fun o L ho=>by
  simp only[φ2]
  rw[if_pos (hlow o L ho)];exact ho
 refine⟨r,F',φ2,rfl,?_,AV.R_shift hφ _ _ hv⟩
 refine { sub:=ha.sub,ext:=ha.ext,conc:=?_,keep:=fun o L _ ho=>hφ0 o L ho,rest:=fun b hb _=>hold b hb,orig:=fun o L' ho hn=>?_,frsh:=fun b hb=>by rcases hsub b hb with h|h;exact .inl h;exact .inr (.inl h) }
 ·constructor
  ·exact ha.conc.fb
  ·intro o L ho hn
   simp only[φ2]at ho
   split at ho
   ·refine⟨fun hF'=>?_,Nat.lt_of_lt_of_le (hc.live o L ho hn).2 ha.ext.size⟩
    rcases hsub _ hF' with h|h
    ·exact(hc.live o L ho hn).1 h
    ·have:=(hc.live o L ho hn).2;omega
   ·exact ha.conc.live _ L ho hn
  ·intro o1 o2 L1 L2 h1 h2 n1 n2 hne
   simp only[φ2]at h1 h2
   split at h1 <;> split at h2
   ·exact hc.inj o1 o2 L1 L2 h1 h2 n1 n2 hne
   ·have:=(hc.live o1 L1 h1 n1).2
    have:=horig _ L2 h2 n2
    omega
   ·have:=(hc.live o2 L2 h2 n2).2
    have:=horig _ L1 h1 n1
    omega
   ·exact ha.conc.inj _ _ L1 L2 h1 h2 n1 n2 (by omega)
  ·intro o obj ho
   by_cases hlt:o<own.length
   ·rw[List.getElem?_append_left hlt]at ho
    have e:φ2 o=φ o:=by simp only[φ2];rw[if_pos hlt]
    rw[e]
    exact(hc.rep o obj ho).mono ha.sub (hc.sameF hold) hφ0 (fun L hL hn=>hold _ (hc.live o L hL hn).2)
   ·rw[List.getElem?_append_right (by omega),List.getElem?_map,Option.map_eq_some_iff]at ho
    obtain⟨ob',h1,rfl⟩:=ho
    have e:φ2 o=φ' (o - n):=by simp only[φ2];rw[if_neg hlt]
    rw[e]
    exact ObjR_shift hφ (ha.conc.rep _ _ h1)
  ·intro o ho
   simp only[List.length_append,List.length_map]at ho
   simp only[φ2]
   rw[if_neg (by omega)]
   exact ha.conc.out _ (by omega)
  ·exact ha.conc.glob
 ·simp only[φ2]at ho
  split at ho
  ·exact .inr ⟨o,L',ho,hn,rfl⟩
  ·exact .inl (horig _ L' ho hn)
theorem call_made{l:List (Nat×Contract)}{g:Nat}(R:List D->AV->List Obj->Prop)(hm:(g,madeC R)∈l){args:List AV}{own:List Obj}{K:AV->List Obj->List Nat->Prop}(ds:List D)(v:AV)(ob:List Obj)(hk:args.all AV.isDat=true)(hds:asDL own args=some ds)(hR:R ds v ob)
  (hK:K (v.shift own.length) (own++ob.map (Obj.shift own.length)) []):callw (tbl l) (.fn g []) args own K :=
 call_by (madeC R) hm _ _ _ ⟨ds,v,ob,hk,hds,hR,rfl,rfl,rfl⟩ hK
theorem le_obj{s:List AV}{own:List Obj}{n0:Nat}{mv:List Nat}(o:Nat){a b:Obj}(ho:own[o]?=some a)(hab:∀F φ w L,ObjR F φ w (some L) a->ObjR F φ w (some L) b)(hna:∀F φ w,¬ObjR F φ w none a):Le ⟨s,own,n0,mv⟩ ⟨s,own.set o b,n0,mv⟩:=by
 rintro c act w ⟨hd,hn,F,φ,h2,h3,h4⟩
 have hlt:o<own.length:=by
  rcases Nat.lt_or_ge o own.length with h|h
  ·exact h
  ·rw[List.getElem?_eq_none h]at ho;cases ho
 refine⟨hd,hn,F,φ,h2,{ h3 with rep:=fun o' obj ho'=>?_,out:=fun o' ho'=>h3.out o' (by simpa using ho') },h4⟩
 rw[List.getElem?_set]at ho'
 by_cases e:o=o'
 ·subst e
  simp only[if_true,hlt,Option.some.injEq]at ho'
  subst ho'
  have:=h3.rep o a ho
  cases hl:φ o with
  | none=>rw[hl]at this;exact(hna _ _ _ this).elim
  | some L=>rw[hl]at this;exact hab _ _ _ _ this
 ·simp only[e,if_false]at ho'
  exact h3.rep o' obj ho'
theorem Ra_dats:∀{xs:List D} {vs:List Value},D.Cs F w xs vs->AV.Ra F φ w (xs.map .dat) vs
 | [],vs,h=>by simpa only[D.Cs,List.map_nil,AV.Ra] using h
 | d :: xs,vs,h=>by
  simp only[D.Cs]at h
  obtain⟨c,cs,rfl,h1,h2,h3⟩:=h
  simp only[List.map_cons,AV.Ra,AV.R]
  exact⟨c,cs,rfl,D.C_one h1 h2,(D.R_plain h1).2 h2,Ra_dats h3⟩
theorem Cs_dats:∀{xs:List D} {vs:List Value},AV.Ra F φ w (xs.map .dat) vs->D.Cs F w xs vs
 | [],vs,h=>by simpa only[D.Cs,List.map_nil,AV.Ra] using h
 | d :: xs,vs,h=>by
  simp only[List.map_cons,AV.Ra,AV.R]at h
  obtain⟨c,cs,rfl,h1,h2,h3⟩:=h
  obtain⟨g1,g2⟩:=plain_of_one h1 h2
  simp only[D.Cs]
  exact⟨c,cs,rfl,g1,g2,Cs_dats h3⟩
theorem le_vec{s:List AV}{own:List Obj}{n0:Nat}{mv:List Nat}(o:Nat){xs:List D}(ho:own[o]?=some (.row none xs)):Le ⟨s,own,n0,mv⟩ ⟨s,own.set o (.vec (xs.map .dat)),n0,mv⟩:=by
 refine le_obj o ho ?_ (by intro F φ w h;simp only[ObjR]at h)
 intro F φ w L h
 simp only[ObjR,es]at h ⊢
 obtain⟨h1,h2⟩:=h
 refine⟨h1,?_⟩
 rcases h2 with⟨h2,rfl⟩|⟨h2,⟨arr,ty,h3,h4⟩,h5,h6⟩
 ·exact .inl ⟨h2,rfl⟩
 ·rw[h1,Nat.mul_one]at h5
  have hcell:∀p,w.cell? ⟨L.b,p,none⟩=arr[p]?:=fun p=>by simp[World.cell?,h3]
  refine .inr ⟨h2,arr,ty,h3,h4,by simpa using h5,(arr.toList.drop L.base).take xs.length,Ra_dats ?_,fun j hj=>?_⟩
  ·refine D.Cs_iff.2 ⟨by simp;omega,fun i d c hd hc=>?_⟩
   have hi:i<xs.length:=by
    rcases Nat.lt_or_ge i xs.length with h|h
    ·exact h
    ·rw[List.getElem?_eq_none h]at hd;cases hd
   obtain⟨cs,g1,g2,g3,g4⟩:=D.Cr_iff.1 h6 i d hd
   obtain⟨c',rfl⟩:=D.C_single (by simpa using g3) g4
   have:=g2 0 (by simp[es])
   rw[hcell]at this
   simp only[es,Nat.mul_one,Nat.add_zero,List.getElem?_cons_zero]at this
   rw[List.getElem?_take,if_pos hi,List.getElem?_drop]at hc
   rw[Array.getElem?_toList]at hc
   rw[this]at hc
   cases hc
   exact⟨by simpa using g3,g4⟩
  ·simp only[List.length_map]at hj
   rw[List.getElem?_take,if_pos hj,List.getElem?_drop,Array.getElem?_toList]
theorem le_unvec{s:List AV}{own:List Obj}{n0:Nat}{mv:List Nat}(o:Nat){xs:List D}(ho:own[o]?=some (.vec (xs.map .dat))):Le ⟨s,own,n0,mv⟩ ⟨s,own.set o (.row none xs),n0,mv⟩:=by
 refine le_obj o ho ?_ (by intro F φ w h;simp only[ObjR]at h)
 intro F φ w L h
 simp only[ObjR,es]at h ⊢
 obtain⟨h1,h2⟩:=h
 refine⟨h1,?_⟩
 rcases h2 with⟨h2,h3⟩|⟨h2,arr,ty,h3,h4,h5,vs,h6,h7⟩
 ·exact .inl ⟨h2,by simpa using h3⟩
 ·simp only[List.length_map]at h5 h7
  refine .inr ⟨h2,⟨arr,ty,h3,h4⟩,by rw[h1,Nat.mul_one];exact h5,D.Cr_iff.2 fun i d hd=>?_⟩
  have hi:i<xs.length:=by
   rcases Nat.lt_or_ge i xs.length with h|h
   ·exact h
   ·rw[List.getElem?_eq_none h]at hd;cases hd
  obtain⟨q1,q2⟩:=D.Cs_iff.1 (Cs_dats h6)
  have hv:vs[i]?=some vs[i]:=List.getElem?_eq_getElem (by omega)
  obtain⟨g1,g2⟩:=q2 i d _ hd hv
  refine⟨[vs[i]],rfl,fun j hj=>?_,by simpa using g1,g2⟩
  simp only[es]at hj
  have hj0:j=0:=by omega
  subst hj0
  have:w.cell? ⟨L.b,L.base+i*es none+0,none⟩=arr[L.base+i*es none+0]?:=by simp[World.cell?,h3]
  rw[this]
  simp only[es,Nat.mul_one,Nat.add_zero,List.getElem?_cons_zero]
  rw[h7 i hi,hv]
end
end Go.AM
namespace Go.AM
open Go
attribute [go_sem] Int.natCast_nonneg Int.toNat_natCast eq_self
attribute [go_sem] loadObj fieldw partw indexw nilw allocw newVarW varObj bldZ newBox boxw makeSlicew storeObj AV.asCells AV.cellsOf AV.kills AV.kill Obj.kill AV.pure AV.pure.AV.pures
 splice D.setPart fillAV buildw buildSlicew litD litV appendVw appendNw fitw optInt D.isAgg D.size partOk D.part AV.elems
section
variable {P:Program} {τ:Ty} {own:List Obj} {o i j off len n:Nat} {k k':IntKind} {m m':Int} {ag:Option Nat} {d:D} {xs:List D} {K:AV->Prop} {E:AV->List Obj->List Nat->Prop} {x y:AV} {t f:Nat} {vs:List AV}
attribute [go_sem] litN
@[go_sem] theorem nilsIn_nil:nilsIn []=false:=Eq.trans rfl rfl
@[go_sem] theorem nilsIn_nils {r:List AV}:nilsIn (.nils :: r)=true:=Eq.trans rfl rfl
@[go_sem] theorem nilsIn_dat {r:List AV}:nilsIn (.dat d :: r)=nilsIn r:=Eq.trans rfl rfl
@[go_sem] theorem nilsIn_nilm {r:List AV}:nilsIn (.nilm :: r)=nilsIn r:=Eq.trans rfl rfl
@[go_sem] theorem nilsIn_sl {r:List AV}:nilsIn (.sl o off len :: r)=nilsIn r:=Eq.trans rfl rfl
@[go_sem] theorem nilsIn_ptr {r:List AV}:nilsIn (.ptr o i j :: r)=nilsIn r:=Eq.trans rfl rfl
@[go_sem] theorem nilsIn_rptr {r:List AV}:nilsIn (.rptr ag d :: r)=nilsIn r:=Eq.trans rfl rfl
@[go_sem] theorem nilsIn_agg {r:List AV}:nilsIn (.agg vs :: r)=nilsIn r:=Eq.trans rfl rfl
@[go_sem] theorem nilsIn_tup {r:List AV}:nilsIn (.tup vs :: r)=nilsIn r:=Eq.trans rfl rfl
@[go_sem] theorem nilsIn_map {r:List AV}:nilsIn (.map o :: r)=nilsIn r:=Eq.trans rfl rfl
@[go_sem] theorem nilsIn_yld {r:List AV}:nilsIn (.yld o :: r)=nilsIn r:=Eq.trans rfl rfl
@[go_sem] theorem nilsIn_fn {r:List AV}:nilsIn (.fn f vs :: r)=nilsIn r:=Eq.trans rfl rfl
@[go_sem] theorem nilsIn_top {r:List AV}:nilsIn (.top :: r)=nilsIn r:=Eq.trans rfl rfl
@[go_sem] theorem nilPart_nil:nilPart []=false:=Eq.trans rfl rfl
@[go_sem] theorem nilPart_agg:nilPart [(i,.agg vs)]=nilsIn vs:=Eq.trans rfl rfl
@[go_sem] theorem nilPart_dat {m0:Nat}:nilPart [(m0,.dat d)]=false:=Eq.trans rfl rfl
@[go_sem] theorem nilPart_nilm {m0:Nat}:nilPart [(m0,.nilm)]=false:=Eq.trans rfl rfl
@[go_sem] theorem nilPart_nils {m0:Nat}:nilPart [(m0,.nils)]=false:=Eq.trans rfl rfl
@[go_sem] theorem nilPart_sl {m0:Nat}:nilPart [(m0,.sl o off len)]=false:=Eq.trans rfl rfl
@[go_sem] theorem nilPart_ptr {m0:Nat}:nilPart [(m0,.ptr o i j)]=false:=Eq.trans rfl rfl
@[go_sem] theorem nilPart_rptr {m0:Nat}:nilPart [(m0,.rptr ag d)]=false:=Eq.trans rfl rfl
@[go_sem] theorem nilPart_tup {m0:Nat}:nilPart [(m0,.tup vs)]=false:=Eq.trans rfl rfl
@[go_sem] theorem nilPart_map {m0:Nat}:nilPart [(m0,.map o)]=false:=Eq.trans rfl rfl
@[go_sem] theorem nilPart_yld {m0:Nat}:nilPart [(m0,.yld o)]=false:=Eq.trans rfl rfl
@[go_sem] theorem nilPart_fn {m0:Nat}:nilPart [(m0,.fn f vs)]=false:=Eq.trans rfl rfl
@[go_sem] theorem nilPart_top {m0:Nat}:nilPart [(m0,.top)]=false:=Eq.trans rfl rfl
@[go_sem] theorem nilPart_two {a b:Nat×AV} {r:List (Nat×AV)}:nilPart (a :: b :: r)=false:=by obtain⟨_,v⟩:=a;cases v <;> rfl
@[go_sem] theorem loadw_ptr:loadw (some τ) own (.ptr o i j) K=loadObj τ (own.getD o .dead) i j K:=Eq.trans rfl rfl
@[go_sem] theorem loadw_rptr:loadw (some τ) own (.rptr ag d) K=(ag=τ.want/\K (.dat d)):=Eq.trans rfl rfl
@[go_sem] theorem fieldAddrw_ptr:fieldAddrw P (some τ) (.ptr o i j) f K=(match fieldOf P (some τ) f with|some (off,_)=>K (.ptr o i (j+off))|_=>False):=by
 unfold fieldAddrw;cases fieldOf P (some τ) f <;> rfl
@[go_sem] theorem fieldAddrw_rptr:fieldAddrw P (some τ) (.rptr ag d) f K=(match fieldOf P (some τ) f with|some (off,τf)=>partOk ag off τf.want/\K (.rptr τf.want (D.part ag d off τf.want))|_=>False):=by
 unfold fieldAddrw;cases fieldOf P (some τ) f <;> rfl
@[go_sem] theorem idxAddrw_sl:idxAddrw P (some τ) own (.sl o off len) (.dat (.int k m)) K =
  (match τ.desc with|.slice e=>(match tyOf P e with|some τe=>0<=m/\m<len/\((∃ag xs,own.getD o .dead=.row ag xs/\es ag=τe.size)∨(∃cs,own.getD o .dead=.vec cs/\τe.size=1)∨(∃k cs,own.getD o .dead=.tab k cs/\τe.size=k))/\K (.ptr o (off+m.toNat) 0)|none=>False)|_=>False):=Eq.trans rfl rfl
@[go_sem] theorem idxAddrw_dat:idxAddrw P (some τ) own (.dat (.sl ag xs)) (.dat (.int k m)) K =
  (match τ.desc with|.slice e=>(match tyOf P e with|some τe=>0<=m/\m<xs.length/\es ag=τe.size/\K (.rptr ag (D.nth xs m.toNat))|none=>False)|_=>False):=Eq.trans rfl rfl
@[go_sem] theorem idxAddrw_ptr:idxAddrw P (some τ) own (.ptr o i j) (.dat (.int k m)) K =
  (match τ.desc with
  | .array m' e=>(match tyOf P e with
    | some τe=>0<=m/\m<m'/\(match own.getD o .dead with
      | .row none _=>i=0/\j=0/\τe.size=1/\K (.ptr o m.toNat 0)
      | .row (some _) _=>K (.ptr o i (j+m.toNat*τe.size))
      | .box _=>K (.ptr o i (j+m.toNat*τe.size))
      | _=>False)
    | none=>False)
  | _=>False):=Eq.trans rfl rfl
@[go_sem] theorem idxAddrw_rptr:idxAddrw P (some τ) own (.rptr ag d) (.dat (.int k m)) K =
  (match τ.desc with|.array m' e=>(match tyOf P e with|some τe=>0<=m/\m<m'/\partOk ag (m.toNat*τe.size) τe.want/\K (.rptr τe.want (D.part ag d (m.toNat*τe.size) τe.want))|none=>False)|_=>False):=Eq.trans rfl rfl
@[go_sem] theorem lenw_str {s:List UInt8}:lenw P (some τ) own (.dat (.str s)) K=(match τ.desc with|.string=>K (.dat (.int .i64 s.length))|.array n _=>inR .i64 n/\K (.dat (.int .i64 n))|_=>False):=by
 unfold lenw;simp only;cases τ.desc <;> rfl
@[go_sem] theorem lenw_dat:lenw P (some τ) own (.dat (.sl ag xs)) K=(match τ.desc with|.slice _=>K (.dat (.int .i64 xs.length))|.array n _=>inR .i64 n/\K (.dat (.int .i64 n))|_=>False):=by
 unfold lenw;simp only;cases τ.desc <;> rfl
@[go_sem] theorem lenw_sl:lenw P (some τ) own (.sl o off len) K=(match τ.desc with|.slice _=>K (.dat (.int .i64 len))|.array n _=>inR .i64 n/\K (.dat (.int .i64 n))|_=>False):=by
 unfold lenw;simp only;cases τ.desc <;> rfl
@[go_sem] theorem lenw_nils:lenw P (some τ) own .nils K=(match τ.desc with|.slice _=>K (.dat (.int .i64 0))|.array n _=>inR .i64 n/\K (.dat (.int .i64 n))|_=>False):=by
 unfold lenw;simp only;cases τ.desc <;> rfl
@[go_sem] theorem lenw_nilm:lenw P (some τ) own .nilm K=(match τ.desc with|.map _ _=>K (.dat (.int .i64 0))|.array n _=>inR .i64 n/\K (.dat (.int .i64 n))|_=>False):=by
 unfold lenw;simp only;cases τ.desc <;> rfl
@[go_sem] theorem lenw_map:lenw P (some τ) own (.map o) K=(match τ.desc with|.map _ _=>(match own.getD o .dead with|.map m=>inR .i64 m.length/\K (.dat (.int .i64 m.length))|_=>False)|.array n _=>inR .i64 n/\K (.dat (.int .i64 n))|_=>False):=by
 unfold lenw;simp only;cases τ.desc <;> rfl
@[go_sem] theorem copyw_sl:copyw P (some τ) own (.sl o off len) y E=(match τ.desc with
  | .slice e=>(match tyOf P e,y.elems own with
   | some τe,some (tag,ys) =>
    (tag=some τe.want∨ys=[])/\es τe.want=τe.size /\
    (match own.getD o .dead with
     | .row ag xs=>ag=τe.want/\off+len<=xs.length /\
       E (.dat (.int .i64 (min ys.length len:Nat))) (own.set o (.row ag (xs.take off++ys.take len++xs.drop (off+min ys.length len)))) []
     | _=>False)
   | _,_=>False)
  | _=>False):=Eq.trans rfl rfl
@[go_sem] theorem appendRw_sl:appendRw P (some τ) own (.sl o off len) y E=(match τ.desc with
  | .slice e=>(match tyOf P e,y.elems own with
   | some τe,some (tag,ys) =>
    (tag=some τe.want∨ys=[])/\es τe.want=τe.size/\0<τe.size/\(∃z,τe.zero=some z/\z.cells.size=τe.size) /\
    (match own.getD o .dead with
     | .row ag xs=>ag=τe.want/\off+len<=xs.length/\len+ys.length<=140737488355328/\(len+ys.length)*τe.bytes<=140737488355328 /\
       E (.sl o 0 (len+ys.length)) ((own.map (Obj.kill o)).set o (.row ag ((xs.drop off).take len++ys))) [o]
     | _=>False)
   | _,_=>False)
  | _=>False):=Eq.trans rfl rfl
@[go_sem] theorem appendRw_nils:appendRw P (some τ) own .nils y E=(match τ.desc with
  | .slice e=>(match tyOf P e,y.elems own with
   | some τe,some (tag,ys) =>
    (tag=some τe.want∨ys=[])/\es τe.want=τe.size/\0<τe.size/\(∃z,τe.zero=some z/\z.cells.size=τe.size) /\
    ys.length<=140737488355328/\ys.length*τe.bytes<=140737488355328/\E (.sl own.length 0 ys.length) (own++[.row τe.want ys]) []
   | _,_=>False)
  | _=>False):=Eq.trans rfl rfl
@[go_sem] theorem appendw_sl:appendw P (some τ) own (.sl o off len) y E=(match own.getD o .dead with|.vec cs=>appendVw P (some τ) own o off len cs y E|.tab k cs=>appendTw P (some τ) own o off len k cs y E|_=>appendRw P (some τ) own (.sl o off len) y E):=Eq.trans rfl rfl
@[go_sem] theorem appendw_nils:appendw P (some τ) own .nils y E=(match y.vcells own with|some ys=>appendNw P (some τ) own ys E|none=>appendRw P (some τ) own .nils y E):=Eq.trans rfl rfl
@[go_sem] theorem vcells_sl:(AV.sl o off len).vcells own=(match own.getD o .dead with|.vec cs=>if off+len<=cs.length then some ((cs.drop off).take len) else none|_=>none):=Eq.trans rfl rfl
@[go_sem] theorem vcells_dat:(AV.dat d).vcells own=none:=Eq.trans rfl rfl
@[go_sem] theorem vcells_nils:AV.nils.vcells own=none:=Eq.trans rfl rfl
@[go_sem] theorem isNilSl_slice:isNilSl (some (.slice none 0 0))=true:=Eq.trans rfl rfl
@[go_sem] theorem isNilSl_int {z:Int}:isNilSl (some (.int k z))=false:=Eq.trans rfl rfl
@[go_sem] theorem isNilSl_bool {z:Bool}:isNilSl (some (.bool z))=false:=Eq.trans rfl rfl
@[go_sem] theorem isNilSl_string {z:ByteArray}:isNilSl (some (.string z))=false:=Eq.trans rfl rfl
@[go_sem] theorem isNilSl_agg {z:Array Value}:isNilSl (some (.agg z))=false:=Eq.trans rfl rfl
@[go_sem] theorem extractw_tup:extractw (.tup vs) i K=(i<vs.length/\K (vs.getD i .top)):=Eq.trans rfl rfl
@[go_sem] theorem storew_ptr:storew (some τ) own (.ptr o i j) x E=storeObj τ (own.getD o .dead) i j x (fun obj=>E .top (own.set o obj) []):=Eq.trans rfl rfl
@[go_sem] theorem mapUpdatew_map {kd:D}:mapUpdatew P (some τ) own (.map o) (.dat kd) x E=(match τ.desc with
  | .map kt _=>(match tyOf P kt,own.getD o .dead,x.pure with
   | some τk,.map m,some v=>D.isKeyP P kt τk.desc kd=true/\(m.all fun x=>D.isKeyP P kt τk.desc x.1)=true/\E .top (own.set o (.map (mapSet kd v m))) []
   | _,_,_=>False)
  | _=>False):=Eq.trans rfl rfl
@[go_sem] theorem lookupw_map {kd:D} {c:Bool}:lookupw P (some τ) own (.map o) (.dat kd) c K=(match τ.desc with
  | .map kt et=>(match tyOf P kt,(tyOf P et).bind zeroD,own.getD o .dead with
   | some τk,some z,.map m=>D.isKeyP P kt τk.desc kd=true/\(m.all fun x=>D.isKeyP P kt τk.desc x.1)=true /\
     K (if c then .tup [.dat ((mapFind kd m).getD z),.dat (.bool (mapFind kd m).isSome)] else .dat ((mapFind kd m).getD z))
   | _,_,_=>False)
  | _=>False):=Eq.trans rfl rfl
@[go_sem] theorem convw_int {τs:Ty}:convw P (some τs) (some τ) (.dat (.int k m)) K=(match τ.desc with|.int k=>fitw k m K|.string=>K (.dat (.str (runeS m)))|_=>False):=Eq.trans rfl rfl
@[go_sem] theorem convw_str {τs:Ty} {s:List UInt8}:convw P (some τs) (some τ) (.dat (.str s)) K=(match τ.desc with|.string=>K (.dat (.str s))|_=>False):=Eq.trans rfl rfl
@[go_sem] theorem convw_bytes {σ:Ty} {xs:List D}:convw P (some σ) (some τ) (.dat (.sl none xs)) K=(match σ.desc,τ.desc with
  | .slice e,.string=>(match tyOf P e with
   | some τe=>(match τe.desc with|.int .u8=>bytesOk xs=true/\K (.dat (.str (bytesD xs)))|_=>False)
   | none=>False)
  | _,_=>False):=Eq.trans rfl rfl
@[go_sem] theorem minw_int {b:Bool}:minw b (.dat (.int k m)) (.dat (.int k' m')) K=(k=k'/\K (.dat (.int k (if b then min m m' else max m m')))):=Eq.trans rfl rfl
@[go_sem] theorem slicew_sl {lo hi:Option AV}:slicew P (some τ) own (.sl o off len) lo hi K=(match τ.desc with
  | .slice e=>(match tyOf P e,optInt lo 0,optInt hi len with
   | some τe,some l,some h=>(∃ag xs,own.getD o .dead=.row ag xs/\es ag=τe.size)/\0<=l/\l<=h/\h<=len/\K (.sl o (off+l.toNat) (h - l).toNat)
   | _,_,_=>False)
  | _=>False):=Eq.trans rfl rfl
@[go_sem] theorem slicew_dat {lo hi:Option AV}:slicew P (some τ) own (.dat (.sl ag xs)) lo hi K=(match τ.desc with
  | .slice e=>(match tyOf P e,optInt lo 0,optInt hi xs.length with
   | some τe,some l,some h=>es ag=τe.size/\0<=l/\l<=h/\h<=xs.length/\K (.dat (.sl ag ((xs.drop l.toNat).take (h - l).toNat)))
   | _,_,_=>False)
  | _=>False):=Eq.trans rfl rfl
@[go_sem] theorem slicew_nils {lo hi:Option AV}:slicew P (some τ) own .nils lo hi K=(match τ.desc with
  | .slice e=>(match tyOf P e,optInt lo 0,optInt hi 0 with
   | some τe,some l,some h=>l=0/\h=0/\K .nils
   | _,_,_=>False)
  | _=>False):=Eq.trans rfl rfl
end
section
variable {ag:Option Nat} {xs:List D} {cs:List AV} {n:Nat} {own:List Obj}
@[go_sem] theorem es_none:es none=1:=Eq.trans rfl rfl
@[go_sem] theorem es_some {n:Nat}:es (some n)=n:=Eq.trans rfl rfl
@[go_sem ↓] theorem ex_row2:((∃ag' xs',Obj.row ag xs=.row ag' xs'/\es ag'=n)∨(∃cs,Obj.row ag xs=.vec cs/\n=1))=(es ag=n):=by
 apply propext
 constructor
 ·rintro (⟨a,b,h,h2⟩|⟨c,h,_⟩)
  ·cases h;exact h2
  ·cases h
 ·exact fun h=>.inl ⟨_,_,rfl,h⟩
@[go_sem ↓] theorem ex_vec2:((∃ag' xs',Obj.vec cs=.row ag' xs'/\es ag'=n)∨(∃cs',Obj.vec cs=.vec cs'/\n=1))=(n=1):=by
 apply propext
 constructor
 ·rintro (⟨a,b,h,h2⟩|⟨c,h,h2⟩)
  ·cases h
  ·exact h2
 ·exact fun h=>.inr ⟨_,rfl,h⟩
@[go_sem] theorem ex_vec3:(∃cs',Obj.vec cs=Obj.vec cs')=True:=eq_true ⟨cs,rfl⟩
attribute [go_sem] false_and exists_false and_false
@[go_sem ↓] theorem ex_row:(∃ag' xs',Obj.row ag xs=.row ag' xs'/\es ag'=n)=(es ag=n):=by
 apply propext
 constructor
 ·rintro ⟨a,b,h,h2⟩
  cases h;exact h2
 ·exact fun h=>⟨_,_,rfl,h⟩
attribute [go_sem] Int.reduceLE Int.reduceNeg and_self and_true true_and List.getElem?_toArray List.getElem?_cons_succ List.getElem?_cons_zero Option.bind_some Option.map_some Option.map_none forall_const Bool.not_true Bool.not_false Bool.true_eq_false Bool.false_eq_true false_implies true_implies
 List.getD_nil List.drop_zero List.take_zero Int.toNat_natCast Nat.zero_add Nat.add_zero if_true if_false List.drop_succ_cons List.take_succ_cons List.all_cons List.all_nil Bool.and_self Bool.and_true Bool.true_and Int.toNat_zero Nat.mul_one Nat.one_mul Nat.zero_mul reduceCtorEq Bool.not_eq_true Option.getD_some Option.getD_none
@[go_sem] theorem isKey_int {k:IntKind} {n:Int}:D.isKey (.int k) (.int k n)=true:=by simp[D.isKey]
@[go_sem] theorem isKeyP_int {P:Program} {t:TypeId} {k:IntKind} {n:Int}:D.isKeyP P t (.int k) (.int k n)=true:=by simp[D.isKeyP,D.isKey]
@[go_sem] theorem isKeyP_str {P:Program} {t:TypeId} {s:List UInt8}:D.isKeyP P t .string (.str s)=true:=by simp[D.isKeyP,D.isKey]
@[go_sem] theorem isKey_str {s:List UInt8}:D.isKey .string (.str s)=true:=Eq.trans rfl rfl
@[go_sem] theorem one_slice {a:Option Addr} {l c:Nat}:(Value.slice a l c).oneCell'=true:=Eq.trans rfl rfl
@[go_sem] theorem one_int {k:IntKind} {n:Int}:(Value.int k n).oneCell'=true:=Eq.trans rfl rfl
@[go_sem] theorem one_bool {b:Bool}:(Value.bool b).oneCell'=true:=Eq.trans rfl rfl
@[go_sem] theorem one_map {b:Option Nat}:(Value.map b).oneCell'=true:=Eq.trans rfl rfl
attribute [go_sem] D.fits Option.isSome_none Option.isSome_some ne_eq gt_iff_lt Nat.lt_irrefl or_self or_false false_or or_true true_or
@[go_sem] theorem tops_zero:List.replicate 0 AV.top=[]:=Eq.trans rfl rfl
@[go_sem] theorem tops_succ {n:Nat}:List.replicate (n+1) AV.top=AV.top :: List.replicate n AV.top:=Eq.trans rfl rfl
def slotsOf(n:Nat):List (Nat×AV)->List AV
 | []=>List.replicate n .top
 | p :: l=>(slotsOf n l).set p.1 p.2
attribute [go_sem] Int.reduceToNat Int.cast_ofNat_Int slotsOf not_true_eq_false not_false_eq_true decide_true decide_false List.length_map decide_eq_true_eq decide_eq_false_iff_not List.length_append List.length_set List.length_replicate Bool.not_eq_true' Bool.not_eq_false' Nat.reduceAdd Nat.reduceLT Nat.reduceLeDiff
section
variable {P:Program} {Γ:Nat->Contract} {τ:Type} {hd:τ->S} {I:τ->Prop} {μ:τ->Nat} {n:Nat} {Q:Exit->S->Prop} {s:S}
@[go_sem] theorem again_normal:again hd I μ n Q .normal s=∃x,I x/\μ x<n/\Le s (hd x):=Eq.trans rfl rfl
@[go_sem] theorem again_exit {i:Nat}:again hd I μ n Q (.exit i) s=Q (.exit i) s:=Eq.trans rfl rfl
@[go_sem] theorem again_ret:again hd I μ n Q .ret s=Q .ret s:=Eq.trans rfl rfl
end
@[go_sem] theorem slotsLe_nil:slotsLe [] []=True:=Eq.trans rfl rfl
@[go_sem] theorem slotsLe_same {a:AV} {as bs:List AV}:slotsLe (a :: as) (a :: bs)=slotsLe as bs:=by simp[slotsLe]
@[go_sem] theorem slotsLe_top {a:AV} {as bs:List AV}:slotsLe (a :: as) (.top :: bs)=slotsLe as bs:=by simp[slotsLe]
end
end Go.AM
namespace Go.AM
open Go
def AV.refs(o:Nat):AV->Bool
 | .ptr o' _ _=>o' == o
 | .sl o' _ _=>o' == o
 | .map o'=>o' == o
 | _=>false
def mkCall(mf:List Nat)(o:Oper):Option (Nat×Array Operand) :=
 match o.op,o.guard with
 | .call c,none=>(match c.callee with|.value (.func g)=>if mf.contains g then some (g,c.args) else none|_=>none)
 | _,_=>none
def dynF:Nat:=1000000007
def dynCall(mf:List Nat)(o:Oper):Bool :=
 match o.op,o.guard with
 | .call c,none=>(match c.callee with|.value (.tmp _)=>mf.contains dynF|_=>false)
 | _,_=>false
def isMk(mf:List Nat)(o:Oper):Bool:=isMake o || (mkCall mf o).isSome || dynCall mf o
def isStore(o:Oper):Bool :=
 match o.op,o.dst,o.guard with
 | .store _ _ _,none,none=>true
 | _,_,_=>false
def MakeFns(Γ:Nat->Contract)(mf:List Nat):Prop:=∀g args own v own' mv,g∈mf∨dynF∈mf->Γ g args own v own' mv->(∃ex,own'=own++ex)/\mv=[]
def condM(ob:Nat)(o:Oper)(slots:List AV):Prop :=
 match o.op with
 | .store _ a _=>∃i j,ev slots a=.ptr ob i j
 | op=>∀x∈op.operands.toList,(ev slots x).refs ob=false
section
variable {P:Program} {Γ:Nat->Contract} {own:List Obj} {ob:Nat}
def opm(P:Program)(Γ:Nat->Contract)(all:Array Oper)(ob:Nat)(m:Bool)(o:Oper)(K:S->Prop)(σ:S):Prop:=(m=true->condM ob o σ.slots)/\opg P Γ all o K σ
theorem condM_congr{o:Oper}{s s':List AV}(h:∀x∈o.op.operands.toList,ev s' x=ev s x)(hc:condM ob o s):condM ob o s':=by
 unfold condM at hc ⊢
 split
 ·rename_i t a x hop
  rw[hop]at hc h
  simp only at hc
  rw[h a (by simp[Op.operands])]
  exact hc
 ·rename_i hn
  split at hc
  ·rename_i hop;exact(hn _ _ _ hop).elim
  ·intro x hx
   rw[h x hx]
   exact hc x hx
def Eff(P:Program)(Γ:Nat->Contract)(all:Array Oper)(i:Oper)(σ:S)(v:AV)(own':List Obj):Prop :=
 ∀(K':S->Prop) (σ':S),σ'.own=σ.own->(∀x∈i.op.operands.toList,ev σ'.slots x=ev σ.slots x)->K' (σ'.effect i.dst v own' [])->opg P Γ all i K' σ'
theorem mk_det{mf:List Nat}(hmf:MakeFns Γ mf){o:Oper}(hm:isMk mf o=true){K:S->Prop}{σ:S}{all:Array Oper}(h:opg P Γ all o K σ) :
  ∃v ex,K (σ.effect o.dst v (σ.own++ex) [])/\Eff P Γ all o σ v (σ.own++ex):=by
 unfold isMk at hm
 rw[Bool.or_eq_true_iff,Bool.or_eq_true_iff]at hm
 rcases hm with(hm|hm)|hm
 ·obtain⟨v,obj,h1,h2⟩:=make_det hm h
  exact⟨v,[obj],h1,h2⟩
 ·obtain⟨⟨g,args⟩,hg⟩:=Option.isSome_iff_exists.1 hm
  unfold mkCall at hg
  split at hg
  ·rename_i c hc hgd
   split at hg
   ·rename_i g' hcal
    split at hg
    ·rename_i hmem
     simp only[Option.some.injEq,Prod.mk.injEq]at hg
     obtain⟨rfl,rfl⟩:=hg
     have e:∀(K:S->Prop) (σ:S),opg P Γ all o K σ=∃v own' mv,Γ g' (c.args.toList.map (ev σ.slots)) σ.own v own' mv/\K (σ.effect o.dst v own' mv):=fun K σ=>by
      unfold opg
      rw[hgd]
      simp only
      unfold opw
      rw[hc]
      simp only[isV,hcal,eop,ecall,callw,ev,List.append_nil,Bool.false_eq_true,if_false]
      rfl
     rw[e]at h
     obtain⟨v,own',mv,h1,h2⟩:=h
     obtain⟨⟨ex,rfl⟩,rfl⟩:=hmf g' _ _ _ _ _ (.inl (by simpa using hmem)) h1
     refine⟨v,ex,h2,fun K' σ' ho hx hK'=>?_⟩
     rw[e]
     refine⟨v,_,[],?_,hK'⟩
     have ea:c.args.toList.map (ev σ'.slots)=c.args.toList.map (ev σ.slots):=by
      refine List.map_congr_left fun x hx'=>hx x ?_
      rw[hc]
      simp[Op.operands,Call.operands,hcal,hx']
     rw[ea,ho]
     exact h1
    ·cases hg
   ·cases hg
  ·cases hg
 ·unfold dynCall at hm
  split at hm
  ·rename_i c hc hgd
   split at hm
   ·rename_i t hcal
    have e:∀(K:S->Prop) (σ:S),opg P Γ all o K σ=callw Γ (ev σ.slots (.tmp t)) (c.args.toList.map (ev σ.slots)) σ.own (fun v own' mv=>K (σ.effect o.dst v own' mv)):=fun K σ=>by
     unfold opg
     rw[hgd]
     simp only
     unfold opw
     rw[hc]
     simp only[isV,hcal,eop,ecall,Bool.false_eq_true,if_false]
     rfl
    rw[e]at h
    unfold callw at h
    split at h
    ·rename_i g caps hf
     obtain⟨v,own',mv,h1,h2⟩:=h
     obtain⟨⟨ex,rfl⟩,rfl⟩:=hmf g _ _ _ _ _ (.inr (by simpa using hm)) h1
     refine⟨v,ex,h2,fun K' σ' ho hx hK'=>?_⟩
     have ea:c.args.toList.map (ev σ'.slots)=c.args.toList.map (ev σ.slots):=by
      refine List.map_congr_left fun x hx'=>hx x ?_
      rw[hc]
      simp[Op.operands,Call.operands,hcal,hx']
     have ef:ev σ'.slots (.tmp t)=ev σ.slots (.tmp t):=hx _ (by rw[hc];simp[Op.operands,Call.operands,hcal])
     rw[e,ea,ef,ho,hf]
     exact⟨v,_,[],h1,hK'⟩
    ·exact h.elim
   ·cases hm
  ·cases hm
theorem storeObj_det{τ:Ty}{obj:Obj}{i j:Nat}{x:AV}{K:Obj->Prop}(h:storeObj τ obj i j x K):∃obj',K obj'/\∀K':Obj->Prop,K' obj'->storeObj τ obj i j x K':=by
 unfold storeObj at h ⊢
 split at h
 ·split at h
  ·obtain⟨h2,h3,h4,h⟩:=h
   split at h
   ·exact⟨_,h.2,fun K' hK'=>⟨h2,h3,h4,h.1,hK'⟩⟩
   ·exact h.elim
  ·obtain⟨h2,h3,h4,h⟩:=h
   split at h
   ·exact⟨_,h.2,fun K' hK'=>⟨h2,h3,h4,h.1,hK'⟩⟩
   ·exact h.elim
 ·obtain⟨h1,h⟩:=h
  split at h
  ·split at h
   ·rename_i ha
    refine⟨_,h.2.2.2,fun K' hK'=>⟨h1,?_⟩⟩
    rw[if_pos ha]
    exact⟨h.1,h.2.1,h.2.2.1,hK'⟩
   ·rename_i ha
    refine⟨_,h.2.2.2,fun K' hK'=>⟨h1,?_⟩⟩
    rw[if_neg ha]
    exact⟨h.1,h.2.1,h.2.2.1,hK'⟩
  ·exact h.elim
 ·obtain⟨h1,h2,h3,h⟩:=h
  split at h
  ·exact⟨_,h,fun K' hK'=>⟨h1,h2,h3,hK'⟩⟩
  ·exact h.elim
 ·split at h
  ·exact⟨_,h.2.2,fun K' hK'=>⟨h.1,h.2.1,hK'⟩⟩
  ·exact h.elim
 ·obtain⟨h1,h2,h3,h⟩:=h
  split at h
  ·exact⟨_,h,fun K' hK'=>⟨h1,h2,h3,hK'⟩⟩
  ·exact h.elim
 ·obtain⟨h1,h⟩:=h
  split at h
  ·exact⟨_,h.2.2,fun K' hK'=>⟨h1,h.1,h.2.1,hK'⟩⟩
  ·exact h.elim
 ·exact h.elim
theorem store_det{o:Oper}(hm:isStore o=true){K:S->Prop}{σ:S}{all:Array Oper}(hc:condM ob o σ.slots)(h:opg P Γ all o K σ) :
  ∃obj',K (σ.effect o.dst .top (σ.own.set ob obj') [])/\Eff P Γ all o σ .top (σ.own.set ob obj'):=by
 unfold isStore at hm
 split at hm
 ·rename_i t a x hop hdst hg
  unfold condM at hc
  rw[hop]at hc
  simp only at hc
  obtain⟨i,j,ha⟩:=hc
  have e:∀(K:S->Prop) (σ:S),opg P Γ all o K σ=storew (tyOf P t) σ.own (ev σ.slots a) (ev σ.slots x) (PutE o.dst K σ):=fun K σ=>by
   unfold opg
   rw[hg]
   simp only
   unfold opw
   simp only[hop,isV,Bool.false_eq_true,if_false,eop]
  rw[e,ha]at h
  unfold storew at h
  split at h
  ·rename_i τ o' i' j' hτ hp
   cases hp
   obtain⟨obj',h1,h2⟩:=storeObj_det h
   refine⟨obj',h1,fun K' σ' ho hx hK'=>?_⟩
   rw[e,hx a (by rw[hop];simp[Op.operands]),hx x (by rw[hop];simp[Op.operands]),ha,hτ,ho]
   simp only[storew]
   refine h2 _ ?_
   unfold PutE
   exact hK'
  ·exact h.elim
 ·cases hm
theorem vG_mores{pf:List Nat}{all:Array Oper}{o:Oper}(hv:isV o.op=true){slots:List AV}{k:AV->Prop}:∀(ex own:List Obj),vG P Γ pf all o slots own k->vG P Γ pf all o slots (own++ex) k
 | [],own,h=>by rw[List.append_nil];exact h
 | x :: ex,own,h=>by
  have:=vG_mores hv ex (own++[x]) (vG_more hv h)
  rwa [List.append_assoc]at this
theorem vop_set{slots:List AV}{op:Op}{K:AV->Prop}{obj':Obj}(hr:∀x∈op.operands.toList,(ev slots x).refs ob=false)(h:vop P own slots op K):vop P (own.set ob obj') slots op K:=by
 have key:∀o,o≠ob->(own.set ob obj').getD o .dead=own.getD o .dead:=fun o hne=>by
  have hne':¬ob=o:=fun e=>hne e.symm
  simp[List.getD_eq_getElem?_getD,List.getElem?_set,hne']
 unfold vop at h ⊢
 split at h
 case h_7 t a =>
  have hra:=hr a (by simp[Op.operands])
  unfold loadw at h ⊢
  split at h
  ·rename_i o i j hτ hp
   rw[hp]at hra
   simp only[AV.refs,beq_eq_false_iff_ne]at hra
   rw[key _ hra]
   exact h
  ·exact h
  ·exact h.elim
 case h_10 t a i =>
  have hra:=hr a (by simp[Op.operands])
  unfold idxAddrw at h ⊢
  split at h
  ·rename_i o off len k n hτ hp hq
   rw[hp]at hra
   simp only[AV.refs,beq_eq_false_iff_ne]at hra
   rw[key _ hra]
   exact h
  ·exact h
  ·rename_i o i0 j k n hτ hp hq
   rw[hp]at hra
   simp only[AV.refs,beq_eq_false_iff_ne]at hra
   rw[key _ hra]
   exact h
  ·exact h
  ·exact h.elim
 case h_12 t a lo hi =>
  have hra:=hr a (by simp[Op.operands])
  unfold slicew at h ⊢
  split at h
  ·rename_i o off len hτ hp
   rw[hp]at hra
   simp only[AV.refs,beq_eq_false_iff_ne]at hra
   rw[key _ hra]
   exact h
  ·exact h
  ·exact h
  ·exact h
  ·exact h.elim
 case h_15 t a k ok =>
  have hra:=hr a (by simp[Op.operands])
  unfold lookupw at h ⊢
  split at h
  ·rename_i o k' hτ hp hq
   rw[hp]at hra
   simp only[AV.refs,beq_eq_false_iff_ne]at hra
   rw[key _ hra]
   exact h
  ·exact h.elim
 case h_18 c =>
  obtain⟨callee,args,argTypes⟩:=c
  unfold bltw at h ⊢
  split at h
  ·rename_i x t hcal hargs hts
   have hra:=hr x (by
    have:x∈args.toList:=by simp only at hargs;rw[hargs];simp
    simp only at hcal
    subst hcal
    simp[Op.operands,Call.operands,this])
   unfold lenw at h ⊢
   split at h
   ·split at h
    case h_7 =>
     rename_i o _ hp
     rw[hp]at hra
     simp only[AV.refs,beq_eq_false_iff_ne]at hra
     rw[key _ hra]
     exact h
    all_goals exact h
   ·exact h.elim
  ·exact h
  ·exact h
  ·exact h.elim
 all_goals exact h
theorem vG_setOwn{pf:List Nat}{all:Array Oper}{o:Oper}(hv:isV o.op=true){slots:List AV}{k:AV->Prop}{obj':Obj}(hc:condM ob o slots)(h:vG P Γ pf all o slots own k):vG P Γ pf all o slots (own.set ob obj') k:=by
 have hr:∀x∈o.op.operands.toList,(ev slots x).refs ob=false:=by
  unfold condM at hc
  split at hc
  ·rename_i hop;rw[hop]at hv;simp[isV]at hv
  ·exact hc
 have hB:∀k,vB P Γ pf o slots own k->vB P Γ pf o slots (own.set ob obj') k:=fun k h=>by
  unfold vB at h ⊢
  simp only[hv,if_true]at h ⊢
  exact vop_set hr h
 unfold vG at h ⊢
 split at h
 ·exact hB _ h
 ·split at h
  ·unfold grd at h ⊢
   split at h
   ·exact⟨fun e=>hB _ (h.1 e),h.2⟩
   ·exact h
   ·exact h.elim
  ·exact h.elim
theorem swap_ve{pf:List Nat}(hpf:PureFns Γ pf){all:Array Oper}{p i:Oper}(hp:isV p.op=true)(hap:p.apart all i=true){mp mi:Bool}{K:S->Prop}{σ:S}
  (det:∀σ',mi=true∨mi=false->(mi=true->condM ob i σ'.slots)->σ'.own=σ.own->opg P Γ all i (opm P Γ all ob false p K) σ'->True)
  (hi:∀(K:S->Prop) (σ':S),σ'.own=σ.own->(mi=true->condM ob i σ'.slots)->opg P Γ all i K σ'->∃v own',K (σ'.effect i.dst v own' [])/\Eff P Γ all i σ' v own'/\∀k,(mp=true->condM ob p σ.slots)->vG P Γ pf all p σ.slots σ.own k->vG P Γ pf all p σ.slots own' k)
  (h:opm P Γ all ob mp p (opm P Γ all ob mi i K) σ):opm P Γ all ob mi i (opm P Γ all ob mp p K) σ:=by
 obtain⟨h1,h2,h3⟩:=Oper.apart_spec hap
 obtain⟨cp,h⟩:=h
 have hpv:vlike pf p=true:=by simp[vlike,hp]
 rw[opg_vG hpf hpv]at h
 obtain⟨vp,⟨ci,hk⟩,hyp⟩:=vG_det pf all p σ.slots σ.own _ h
 have hops:∀x∈i.op.operands.toList,ev σ.slots x=ev (σ.put p.dst vp).slots x:=fun x hx=>by
  cases hd:p.dst with
  | none=>rfl
  | some d =>
   simp only[S.put]
   rw[ev_set (fun e=>h1 d hd (looks_op (e ▸ hx)))]
 obtain⟨vi,own',hk2,hyi,hst⟩:=hi _ _ (put_own σ p.dst vp).1 ci hk
 refine⟨fun hm=>condM_congr hops (ci hm),hyi _ σ (put_own σ p.dst vp).1.symm hops ⟨fun hm=>?_,?_⟩⟩
 ·refine condM_congr (fun x hx=>?_) (cp hm)
  unfold S.effect
  cases hd:i.dst with
  | none=>rfl
  | some d =>
   simp only[S.put,killAll]
   rw[ev_set (fun e=>h3 d hd (looks_op (e ▸ hx)))]
 ·rw[opg_vG hpf hpv]
  have e:∀k,vG P Γ pf all p (σ.effect i.dst vi own' []).slots (σ.effect i.dst vi own' []).own k=vG P Γ pf all p σ.slots own' k:=by
   intro k
   unfold S.effect
   exact vG_put (P:=P) (Γ:=Γ) (pf:=pf) (all:=all) (o:=p) (o':=i) (σ:={ slots:=killAll [] σ.slots,own:=own',n0:=σ.n0,mv:=addMv σ.n0 σ.mv [] }) (u:=vi) (k:=k) h3
  rw[e]
  refine hst _ cp (hyp _ ?_)
  have e2:(σ.effect i.dst vi own' []).put p.dst vp=(σ.put p.dst vp).effect i.dst vi own' []:=by
   unfold S.effect
   have:=put_comm { slots:=killAll [] σ.slots,own:=own',n0:=σ.n0,mv:=addMv σ.n0 σ.mv [] } (x:=p.dst) (y:=i.dst) vp vi h2
   rw[← this]
   congr 1
   cases p.dst <;> rfl
  rw[e2]
  exact hk2
theorem swap_vvm{pf:List Nat}(hpf:PureFns Γ pf){all:Array Oper}{p i:Oper}(hp:vlike pf p=true)(hi:vlike pf i=true)(hap:p.apart all i=true){mp mi:Bool}{K:S->Prop}{σ:S}
  (h:opm P Γ all ob mp p (opm P Γ all ob mi i K) σ):opm P Γ all ob mi i (opm P Γ all ob mp p K) σ:=by
 obtain⟨h1,h2,h3⟩:=Oper.apart_spec hap
 obtain⟨cp,h⟩:=h
 rw[opg_vG hpf hp]at h
 obtain⟨vp,⟨ci,hk⟩,hyp⟩:=vG_det pf all p σ.slots σ.own _ h
 rw[opg_vG hpf hi,vG_put h1]at hk
 obtain⟨vi,hk2,hyi⟩:=vG_det pf all i σ.slots σ.own _ hk
 have sameOps:∀(a b:Oper) (v:AV),(∀d,a.dst=some d->d∉b.looksAt all)->∀x∈b.op.operands.toList,ev (σ.put a.dst v).slots x=ev σ.slots x:=fun a b v hab x hx=>by
  cases hd:a.dst with
  | none=>rfl
  | some d =>
   simp only[S.put]
   rw[ev_set (fun e=>hab d hd (looks_op (e ▸ hx)))]
 refine⟨fun hm=>condM_congr (fun x hx=>(sameOps p i vp h1 x hx).symm) (ci hm),?_⟩
 rw[opg_vG hpf hi]
 refine hyi _ ⟨fun hm=>condM_congr (sameOps i p vi h3) (cp hm),?_⟩
 rw[opg_vG hpf hp,vG_put h3]
 refine hyp _ ?_
 rw[← put_comm σ vp vi h2]
 exact hk2
def chainM(P:Program)(Γ:Nat->Contract)(ops:Array Oper)(ob:Nat)(ms:List Nat)(Q:Exit->S->Prop):List Nat->S->Prop
 | [],σ=>Q .normal σ
 | i :: r,σ=>match ops[i]? with|some o=>opm P Γ ops ob (ms.contains i) o (chainM P Γ ops ob ms Q r) σ|none=>False
def swapOkM(pf mf ms:List Nat)(ops:Array Oper)(p i:Nat):Bool :=
 match ops[p]?,ops[i]? with
 | some op,some oi=>op.apart ops oi && ((vlike pf op && vlike pf oi) || (isV op.op && isMk mf oi) || (isV op.op && ms.contains p && isStore oi && ms.contains i))
 | _,_=>false
def pairsOkM(pf mf ms:List Nat)(ops:Array Oper):List Nat->Bool
 | []=>true
 | p :: r=>(r.all fun i=>Region.waitsFor .any ops i p || swapOkM pf mf ms ops p i) && pairsOkM pf mf ms ops r
def drawOkM(pf mf ms:List Nat)(ops:Array Oper)(L:List Nat):Bool:=pairsOkM pf mf ms ops L && backOk ops && edgesOk ops && allOf ops.size L && nodupB L
theorem bubbleM{pf mf ms:List Nat}(hpf:PureFns Γ pf)(hmf:MakeFns Γ mf){ops:Array Oper}{Q:Exit->S->Prop}{i:Nat}{oi:Oper}(hi:ops[i]?=some oi):∀(pre post:List Nat) (σ:S),(∀p∈pre,swapOkM pf mf ms ops p i=true)->chainM P Γ ops ob ms Q (pre++i :: post) σ ->
  opm P Γ ops ob (ms.contains i) oi (chainM P Γ ops ob ms Q (pre++post)) σ
 | [],post,σ,_,h=>by
  simp only[List.nil_append,chainM,hi]at h ⊢
  exact h
 | p :: pre,post,σ,hs,h=>by
  have e2:∀(op:Oper) (l:List Nat),ops[p]?=some op->chainM P Γ ops ob ms Q (p :: l)=opm P Γ ops ob (ms.contains p) op (chainM P Γ ops ob ms Q l):=fun op l hop=>by funext σ;simp only[chainM,hop]
  simp only[List.cons_append]at h ⊢
  have hp:=hs p (by simp)
  unfold swapOkM at hp
  rw[hi]at hp
  cases hop:ops[p]? with
  | none=>simp only[chainM,hop]at h
  | some op =>
   rw[e2 op _ hop]at h ⊢
   simp only[hop,Bool.and_eq_true,Bool.or_eq_true]at hp
   obtain⟨hap,hk⟩:=hp
   have hvp:vlike pf op=true:=by
    rcases hk with(hk|hk)|hk
    ·exact hk.1
    ·simp[vlike,hk.1]
    ·simp[vlike,hk.1.1.1]
   have h':opm P Γ ops ob (ms.contains p) op (opm P Γ ops ob (ms.contains i) oi (chainM P Γ ops ob ms Q (pre++post))) σ :=
    ⟨h.1,chain_mono hpf hvp (fun σ' hσ'=>bubbleM hpf hmf hi pre post σ' (fun q hq=>hs q (by simp[hq])) hσ') h.2⟩
   rcases hk with(hk|hk)|hk
   ·exact swap_vvm hpf hk.1 hk.2 hap h'
   ·refine swap_ve hpf hk.1 hap (fun _ _ _ _ _=>trivial) (fun K σ' ho hc hh=>?_) h'
    obtain⟨v,ex,g1,g2⟩:=mk_det hmf hk.2 hh
    refine⟨v,_,g1,g2,fun k _ hg=>?_⟩
    rw[ho]
    exact vG_mores hk.1 ex _ hg
   ·refine swap_ve hpf hk.1.1.1 hap (fun _ _ _ _ _=>trivial) (fun K σ' ho hc hh=>?_) h'
    obtain⟨obj',g1,g2⟩:=store_det hk.1.2 (hc hk.2) hh
    refine⟨.top,_,g1,g2,fun k hcp hg=>?_⟩
    rw[ho]
    exact vG_setOwn hk.1.1.1 (hcp hk.1.1.2) hg
theorem pairs_frontM{pf mf ms:List Nat}{ops:Array Oper}:∀{L:List Nat},pairsOkM pf mf ms ops L=true->∀pre i post,L=pre++i :: post->∀p∈pre,Region.waitsFor .any ops i p=true∨swapOkM pf mf ms ops p i=true
 | [],_,pre,i,post,e,p,hp=>by cases pre <;> cases e
 | q :: r,h,pre,i,post,e,p,hp=>by
  simp only[pairsOkM,Bool.and_eq_true]at h
  cases pre with
  | nil=>cases hp
  | cons a pre =>
   simp only[List.cons_append,List.cons.injEq]at e
   obtain⟨rfl,e⟩:=e
   rcases List.mem_cons.1 hp with rfl|hp
   ·have:=List.all_eq_true.1 h.1 i (by rw[e];simp)
    simpa using this
   ·exact pairs_frontM h.2 pre i post e p hp
theorem pairs_filterM{pf mf ms:List Nat}{ops:Array Oper}(f:Nat->Bool):∀{L:List Nat},pairsOkM pf mf ms ops L=true->pairsOkM pf mf ms ops (L.filter f)=true
 | [],_=>rfl
 | q :: r,h=>by
  simp only[pairsOkM,Bool.and_eq_true]at h
  simp only[List.filter_cons]
  split
  ·simp only[pairsOkM,Bool.and_eq_true]
   exact⟨List.all_eq_true.2 fun i hi=>List.all_eq_true.1 h.1 i (List.mem_filter.1 hi).1,pairs_filterM f h.2⟩
  ·exact pairs_filterM f h.2
theorem wpAny_of_chainM{pf mf ms:List Nat}(hΓ:OkG P Γ)(hpf:PureFns Γ pf)(hmf:MakeFns Γ mf){ops:Array Oper}{Q:Exit->S->Prop}{L:List Nat}(hok:drawOkM pf mf ms ops L=true){c:Ctx}:∀(fuel:Nat) (listed:Array Bool) (σ:S) (a:Act) (w:World),listed.size=ops.size ->
  (L.filter fun i=>!listed.getD i true).length<=fuel->St c σ a w->chainM P Γ ops ob ms Q (L.filter fun i=>!listed.getD i true) σ->wpAnyIn (fen c.rd) 0 P .any ops (lift c Q) fuel listed a w:=by
 simp only[drawOkM,Bool.and_eq_true]at hok
 obtain⟨⟨⟨⟨hpairs,hback⟩,hedges⟩,hall⟩,hnd⟩:=hok
 have hnodup:=nodup_of hnd
 simp only[allOf,Bool.and_eq_true,List.all_eq_true,List.mem_range,List.contains_eq_mem,decide_eq_true_eq]at hall
 obtain⟨⟨hmem,hlen⟩,hlt⟩:=hall
 have ready:∀(listed:Array Bool),listed.size=ops.size->Region.ready .any ops listed=[]->(L.filter fun i=>!listed.getD i true)=[]:=by
  intro listed hsz hr
  rw[List.filter_eq_nil_iff]
  have key:∀i,i<ops.size->listed.getD i true=true:=by
   intro i
   induction i using Nat.strongRecOn with
   | _ i ih =>
    intro hlt'
    cases hx:listed.getD i true with
    | true=>rfl
    | false =>
     exfalso
     have:i∈Region.ready .any ops listed:=by
      refine mem_ready.2 ⟨hx,ops[i],Array.getElem?_eq_getElem hlt',fun e he hb=>?_⟩
      have hw:Region.waitsFor .any ops i e.on=true:=by
       simp only[Region.waitsFor,Array.getElem?_eq_getElem hlt',Array.any_eq_true']
       exact⟨e,he,by simp[hb]⟩
      have hon:e.on<ops.size:=by
       have h1:=Array.all_eq_true'.1 hedges ops[i] (Array.getElem_mem hlt')
       have h2:=Array.all_eq_true'.1 h1 e he
       simpa [hb] using h2
      have hlt2:e.on<i:=by
       have h1:=List.all_eq_true.1 hback i (List.mem_range.2 hlt')
       have h2:=List.all_eq_true.1 h1 e.on (List.mem_range.2 hon)
       simpa [hw] using h2
      have h3:=ih e.on hlt2 hon
      have h4:e.on<listed.size:=by omega
      simp[h4]at h3 ⊢
      exact h3
     rw[hr]at this
     cases this
  intro i hi
  simp only[Bool.not_eq_true',Bool.not_eq_false]
  exact key i (hlt i hi)
 intro fuel
 induction fuel with
 | zero =>
  intro listed σ a w hsz hf hst hch
  have h0:(L.filter fun i=>!listed.getD i true)=[]:=List.eq_nil_of_length_eq_zero (by omega)
  rw[h0]at hch
  refine⟨?_,lift_mk hst hch⟩
  rw[List.eq_nil_iff_forall_not_mem]
  intro i hi
  obtain⟨g1,o,g2,_⟩:=mem_ready.1 hi
  have hi':i<ops.size:=(Array.getElem?_eq_some_iff.1 g2).1
  have:i∈(L.filter fun i=>!listed.getD i true):=List.mem_filter.2 ⟨hmem i hi',by simp[g1]⟩
  rw[h0]at this
  cases this
 | succ fuel ih =>
  intro listed σ a w hsz hf hst hch
  refine⟨fun hr=>?_,fun i hi=>?_⟩
  ·rw[ready listed hsz hr]at hch
   exact lift_mk hst hch
  ·obtain⟨g1,o,g2,g3⟩:=mem_ready.1 hi
   have hi':i<ops.size:=(Array.getElem?_eq_some_iff.1 g2).1
   obtain⟨pre,post,e1,e2⟩:=filter_erase hnodup (hmem i hi') (f:=fun i=>!listed.getD i true) (by simp[g1])
   have hfr:=pairs_frontM (pairs_filterM (fun i=>!listed.getD i true) hpairs) pre i post e1
   rw[e1]at hch
   have hb:=bubbleM hpf hmf g2 pre post σ (fun p hp=>by
    rcases hfr p hp with h|h
    ·exfalso
     have hpm:p∈(L.filter fun i=>!listed.getD i true):=by rw[e1];simp[hp]
     have hun:=(List.mem_filter.1 hpm).2
     simp only[Region.waitsFor,g2,Array.any_eq_true',Bool.and_eq_true,beq_iff_eq]at h
     obtain⟨e,he,hb,hon⟩:=h
     have hl:=g3 e he hb
     rw[hon]at hl
     have:listed.getD p true=false:=by simpa using hun
     rw[getD_both this]at hl
     cases hl
    ·exact h) hch
   unfold wpOpIn
   simp only[g2]
   have hnext:(L.filter fun j=>!(listed.setIfInBounds i true).getD j true)=pre++post:=by
    rw[← e2]
    refine List.filter_congr fun j hj=>?_
    have hj':=hlt j hj
    by_cases e:i=j
    ·subst e
     simp[hsz,hi']
    ·have e':¬(j=i):=fun h=>e h.symm
     simp[Array.getElem?_setIfInBounds_ne e,e']
   have hlen':(L.filter fun j=>!(listed.setIfInBounds i true).getD j true).length<=fuel:=by
    rw[hnext]
    rw[e1]at hf
    simp only[List.length_append,List.length_cons]at hf ⊢
    omega
   rcases opg_sound hΓ (Q:=lift c Q) hst hb.2 with⟨hw,hwp⟩|⟨hw,σ',hst',hK⟩
   ·rw[if_pos hw]
    refine Oper.wpIn_mono ?_ hwp
    rintro a' w' ⟨σ',hst',hK⟩
    exact ih _ σ' a' w' (by simp[hsz]) hlen' hst' (by rw[hnext];exact hK)
   ·rw[if_neg (by simp[hw])]
    exact⟨fun _ _=>trivial,ih _ σ' _ w (by simp[hsz]) hlen' hst' (by rw[hnext];exact hK)⟩
theorem sem_drawM{pf mf ms:List Nat}(hm:P.follows .mixedOrders=true)(hΓ:OkG P Γ)(hpf:PureFns Γ pf)(hmf:MakeFns Γ mf){id:Nat}{ops:Array Oper}{Q:Exit->S->Prop}{σ:S}(L:List Nat)(hok:drawOkM pf mf ms ops L=true)
  (h:chainM P Γ ops ob ms Q L σ):sem P (.region id ops true) Q σ:=by
 intro c a w hst
 refine wpIn_region_any hm ?_
 have hst':St c σ a { w with drawn:=w.drawn+1 }:=by
  obtain⟨hd,hn,F,φ,h2,h3,h4⟩:=hst
  refine⟨hd,hn,F,φ,⟨h2.sub,⟨h2.ext.os,h2.ext.tape,h2.ext.output,h2.ext.size,h2.ext.same,Nat.le_trans h2.ext.drn (Nat.le_succ _)⟩,h2.keep,h2.rest,h2.orig,h2.frsh⟩,h3.drew,?_⟩
  exact AV.Rs_mono (fun _ h=>h) same_drew (fun _ _ h=>h) _ _ h4
 have hf:(L.filter fun i=>!(Array.replicate ops.size false).getD i true)=L:=by
  rw[List.filter_eq_self]
  intro i hi
  simp only[drawOkM,Bool.and_eq_true,allOf,List.all_eq_true,decide_eq_true_eq]at hok
  have:=hok.1.2.2 i hi
  simp[this]
 refine wpAny_of_chainM hΓ hpf hmf hok ops.size _ σ a _ (by simp) ?_ hst' (by rw[hf];exact h)
 rw[hf]
 simp only[drawOkM,Bool.and_eq_true,allOf,decide_eq_true_eq]at hok
 omega
end
end Go.AM

