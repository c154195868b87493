/- Own work over the model of the kit. -/
import Derived.Test.YtjfoclncfhiffaaD6
set_option linter.unnecessarySimpa false
set_option linter.unusedSimpArgs false
set_option linter.unusedVariables false
namespace Go.AM
open Go
def famO(ag:Option Nat)(M:List (List D)):List Obj:=M.map (.row ag)
def famR:Nat->List (List D)->List AV
 | _,[]=>[]
 | b,l :: M=>.sl b 0 l.length :: famR (b+1) M
def frzF(ag:Option Nat):Nat->List (List D)->AV->AV
 | _,[],v=>v
 | b,l :: M,v=>frzF ag (b+1) M (v.frz b ag l)
def frzFs(ag:Option Nat)(b:Nat)(M:List (List D))(s:List AV):List AV:=s.map (frzF ag b M)
def frzFo(ag:Option Nat)(b:Nat)(M:List (List D)):Obj->Obj
 | .vec cs=>.vec (frzFs ag b M cs)
 | .tab k cs=>.tab k (frzFs ag b M cs)
 | .box cs=>.box (frzFs ag b M cs)
 | .lp r cs=>.lp r (frzFs ag b M cs)
 | .bld T u cs=>.bld T u (frzFs ag b M cs)
 | x=>x
theorem post_resO{P:Program}{fn:Func}{v:AV}{s:List AV}{own own':List Obj}{n0:Nat}{mv mv' mvP:List Nat}{e:Exit}(he:e=.ret∨e=.normal)(rs:List ResultVar)(hrs:fn.results.toList=rs)(hm:∀o,o∈mv'->o∈mvP)
  (h:resL P rs ⟨s,own,n0,mv⟩ (fun vs=>Le ⟨[resV vs],own,n0,mv⟩ ⟨[v],own',n0,mv'⟩)):post P fn v own' mvP e ⟨s,own,n0,mv⟩:=by
 refine⟨by rcases he with rfl|rfl <;> trivial,?_⟩
 rw[hrs]
 have key:∀(rs:List ResultVar) (K K':List AV->Prop),(∀vs,K vs->K' vs)->resL P rs ⟨s,own,n0,mv⟩ K->resL P rs ⟨s,own,n0,mv⟩ K':=by
  intro rs
  induction rs with
  | nil=>intro K K' hk h;exact hk _ h
  | cons r rs ih =>
   intro K K' hk h
   cases r with
   | tmp t=>simp only[resL]at h ⊢;exact ih _ _ (fun vs hv=>hk _ hv) h
   | cell a t =>
    simp only[resL]at h ⊢
    obtain⟨v,hv,hall⟩:=loadw_det _ _ _ h
    exact hall _ (ih _ _ (fun vs hv=>hk _ hv) hv)
 exact key rs _ _ (fun vs hv=>⟨mv',hv,hm⟩) h
end Go.AM
namespace Go.AM
open Go
def cutB:List Nat->Nat->Bool
 | [],_=>false
 | k :: ks,i=>decide (i=k) || cutB ks i
def awpK(ks:List Nat)(P:Program)(Γ:Nat->Contract):Code->(Exit->S->Prop)->S->Prop
 | .skip,Q,σ=>Q .normal σ
 | .region id ops draw,Q,σ=>if draw then sem P (.region id ops true) Q σ else (match cutB ks id with|true=>sem P (.region id ops draw) Q σ|false=>awpOps P Γ ops Q ops.toList σ)
 | .seq a b,Q,σ=>awpK ks P Γ a (fun e s=>match e with|.normal=>awpK ks P Γ b Q s|e=>Q e s) σ
 | .cond c x y,Q,σ=>condw (ev σ.slots c) (awpK ks P Γ x Q σ) (awpK ks P Γ y Q σ)
 | .block id body,Q,σ=>awpK ks P Γ body (fun e s=>match e with|.exit i=>if i=id then Q .normal s else Q (.exit i) s|e=>Q e s) σ
 | .exit id,Q,σ=>Q (.exit id) σ
 | .ret,Q,σ=>Q .ret σ
 | .loop b,Q,σ=>sem P (.loop b) Q σ
 | .rangeFunc f ps as b,Q,σ=>sem P (.rangeFunc f ps as b) Q σ
 | .scope b,Q,σ=>sem P (.scope b) Q σ
 | .label l,Q,σ=>Q .normal σ
 | .goto l,Q,σ=>Q (.goto l) σ
 | .refuse _,_,_=>False
def andThenK(ks:List Nat)(P:Program)(Γ:Nat->Contract)(b:Code)(Q:Exit->S->Prop):Exit->S->Prop:=fun e s=>match e with|.normal=>awpK ks P Γ b Q s|e=>Q e s
def condK(ks:List Nat)(P:Program)(Γ:Nat->Contract)(v:AV)(a b:Code)(Q:Exit->S->Prop)(σ:S):Prop:=condw v (awpK ks P Γ a Q σ) (awpK ks P Γ b Q σ)
def regK(c:Bool)(P:Program)(Γ:Nat->Contract)(id:Nat)(ops:Array Oper)(Q:Exit->S->Prop)(σ:S):Prop:=match c with|true=>sem P (.region id ops false) Q σ|false=>awpOps P Γ ops Q ops.toList σ
section
variable {P:Program} {Γ:Nat->Contract} {ks:List Nat} {Q:Exit->S->Prop} {σ:S}
theorem sem_of_awpK(ks:List Nat)(hΓ:OkG P Γ):∀(code:Code) (Q:Exit->S->Prop) (σ:S),awpK ks P Γ code Q σ->sem P code Q σ
 | .skip,Q,σ,h=>fun c a w hst=>wpIn_skip (lift_mk hst h)
 | .region id ops draw,Q,σ,h=>by
  simp only[awpK]at h
  split at h
  ·rename_i hd;subst hd;exact h
  ·rename_i hd
   have:draw=false:=by simpa using hd
   subst this
   split at h
   ·exact h
   ·exact fun c a w hst=>wpIn_region_list (awpOps_sound hΓ ops.toList σ a w hst h)
 | .seq x y,Q,σ,h=>by
  intro c a w hst
  simp only[awpK]at h
  refine wpIn_seq (wpIn_mono (sem_of_awpK ks hΓ x _ σ h c a w hst) ?_)
  rintro e a' w' ⟨c',σ',hx,hst',hq⟩
  cases e with
  | normal=>exact sem_ext (sem_of_awpK ks hΓ y Q σ' hq) hx hst'
  | _=>exact⟨c',σ',hx,hst',hq⟩
 | .cond x y z,Q,σ,h=>by
  intro c a w hst
  simp only[awpK]at h
  unfold condw at h
  split at h
  ·rename_i b hb
   have hst':=hst
   obtain⟨hd,hn,F,φ,h2,h3,h4⟩:=hst'
   have hv:=ev_R (F:=F) (φ:=φ) (w:=w) h3.glob h4 x
   rw[hb]at hv
   exact wpIn_cond_split (R_bool.1 hv) (fun hb=>sem_of_awpK ks hΓ y Q σ (h.1 hb) c a w hst) (fun hb=>sem_of_awpK ks hΓ z Q σ (h.2 hb) c a w hst)
  ·exact h.elim
 | .block id body,Q,σ,h=>by
  intro c a w hst
  simp only[awpK]at h
  refine wpIn_block (wpIn_mono (sem_of_awpK ks hΓ body _ σ h c a w hst) ?_)
  rintro e a' w' ⟨c',σ',hx,hst',hq⟩
  cases e with
  | exit i =>
   simp only[Exit.inBlock]
   split
   ·rename_i hi;simp only[hi,if_true]at hq;exact⟨c',σ',hx,hst',hq⟩
   ·rename_i hi;simp only[hi,if_false]at hq;exact⟨c',σ',hx,hst',hq⟩
  | _=>exact⟨c',σ',hx,hst',hq⟩
 | .exit id,Q,σ,h=>fun c a w hst=>wpIn_exit (lift_mk hst h)
 | .ret,Q,σ,h=>fun c a w hst=>wpIn_ret (lift_mk hst h)
 | .loop b,Q,σ,h=>h
 | .rangeFunc _ _ _ _,Q,σ,h=>h
 | .scope _,Q,σ,h=>h
 | .label _,Q,σ,h=>fun c a w hst=>wpIn_label (lift_mk hst h)
 | .goto _,Q,σ,h=>fun c a w hst=>wpIn_goto (lift_mk hst h)
 | .refuse _,Q,σ,h=>h.elim
@[go_sem] theorem awpK_skip:awpK ks P Γ .skip Q σ=Q .normal σ:=Eq.trans rfl rfl
@[go_sem] theorem awpK_region {id:Nat} {ops:List Oper}:awpK ks P Γ (.region id ops.toArray false) Q σ=regK (cutB ks id) P Γ id ops.toArray Q σ:=by simp only[awpK,regK,Bool.false_eq_true,if_false]
@[go_sem] theorem awpK_draw {id:Nat} {ops:Array Oper}:awpK ks P Γ (.region id ops true) Q σ=sem P (.region id ops true) Q σ:=by simp only[awpK,if_true]
@[go_sem] theorem regK_true {id:Nat} {ops:Array Oper}:regK true P Γ id ops Q σ=sem P (.region id ops false) Q σ:=Eq.trans rfl rfl
@[go_sem] theorem regK_false {id:Nat} {ops:List Oper}:regK false P Γ id ops.toArray Q σ=awpOps P Γ ops.toArray Q ops σ:=Eq.trans rfl rfl
@[go_sem] theorem cutB_nil {i:Nat}:cutB [] i=false:=Eq.trans rfl rfl
@[go_sem] theorem cutB_same {i:Nat}:cutB (i :: ks) i=true:=by simp[cutB]
@[go_sem] theorem cutB_other {i k:Nat} (h:i≠k):cutB (k :: ks) i=cutB ks i:=by simp[cutB,h]
@[go_sem] theorem awpK_seq {a b:Code}:awpK ks P Γ (.seq a b) Q σ=awpK ks P Γ a (andThenK ks P Γ b Q) σ:=Eq.trans rfl rfl
@[go_sem] theorem awpK_cond {x:Operand} {a b:Code}:awpK ks P Γ (.cond x a b) Q σ=condK ks P Γ (ev σ.slots x) a b Q σ:=Eq.trans rfl rfl
@[go_sem] theorem condK_true {a b:Code}:condK ks P Γ (.dat (.bool true)) a b Q σ=awpK ks P Γ a Q σ:=by simp[condK,condw]
@[go_sem] theorem condK_false {a b:Code}:condK ks P Γ (.dat (.bool false)) a b Q σ=awpK ks P Γ b Q σ:=by simp[condK,condw]
@[go_sem] theorem awpK_block {id:Nat} {b:Code}:awpK ks P Γ (.block id b) Q σ=awpK ks P Γ b (inBlk id Q) σ:=Eq.trans rfl rfl
@[go_sem] theorem awpK_exit {id:Nat}:awpK ks P Γ (.exit id) Q σ=Q (.exit id) σ:=Eq.trans rfl rfl
@[go_sem] theorem awpK_ret:awpK ks P Γ .ret Q σ=Q .ret σ:=Eq.trans rfl rfl
@[go_sem] theorem awpK_loop {b:Code}:awpK ks P Γ (.loop b) Q σ=sem P (.loop b) Q σ:=Eq.trans rfl rfl
@[go_sem] theorem andThenK_normal {b:Code} {s:S}:andThenK ks P Γ b Q .normal s=awpK ks P Γ b Q s:=Eq.trans rfl rfl
@[go_sem] theorem andThenK_exit {b:Code} {s:S} {i:Nat}:andThenK ks P Γ b Q (.exit i) s=Q (.exit i) s:=Eq.trans rfl rfl
@[go_sem] theorem andThenK_ret {b:Code} {s:S}:andThenK ks P Γ b Q .ret s=Q .ret s:=Eq.trans rfl rfl
end
end Go.AM
namespace Go.AM
open Go
section
variable {P:Program} {t:TypeId} {K:AV->Prop}
@[go_sem] theorem bin_eqlB {a b:Bool}:binTop P .eql t (.dat (.bool a)) (.dat (.bool b)) K=(eqTy (tyOf P t) (.dat (.bool a))=true/\K (.dat (.bool (a == b)))):=rfl
@[go_sem] theorem bin_neqB {a b:Bool}:binTop P .neq t (.dat (.bool a)) (.dat (.bool b)) K=(eqTy (tyOf P t) (.dat (.bool a))=true/\K (.dat (.bool (!(a == b))))):=rfl
@[go_sem] theorem bin_eqlS {a b:List UInt8}:binTop P .eql t (.dat (.str a)) (.dat (.str b)) K=K (.dat (.bool (decide (a=b)))):=by simp[binTop,eqOk,eqTy,binw]
@[go_sem] theorem bin_neqS {a b:List UInt8}:binTop P .neq t (.dat (.str a)) (.dat (.str b)) K=K (.dat (.bool (!decide (a=b)))):=by simp[binTop,eqOk,eqTy,binw]
@[go_sem] theorem bin_addS {a b:List UInt8}:binTop P .add t (.dat (.str a)) (.dat (.str b)) K=(a.length+b.length<=maxLen/\K (.dat (.str (a++b)))):=by simp[binTop,eqOk,eqTy,binw]
@[go_sem] theorem eqTy_boolD {τ:Ty} {a:Bool}:eqTy (some τ) (.dat (.bool a))=(match τ.desc with|.bool=>true|_=>false):=rfl
@[go_sem] theorem beq_tt:(true == true)=true:=rfl
@[go_sem] theorem beq_ff:(false == false)=true:=rfl
@[go_sem] theorem beq_tf:(true == false)=false:=rfl
@[go_sem] theorem beq_ft:(false == true)=false:=rfl
end
end Go.AM
namespace Go.AM
open Go
def isApp(o:Oper):Bool :=
 match o.op,o.guard with
 | .call c,none=>(match c.callee with|.builtin .append=>true|_=>false)
 | _,_=>false
def isLit(o:Oper):Bool :=
 match o.op,o.guard with
 | .buildSlice _ _ _,none=>true
 | _,_=>false
def isQ(o:Oper):Bool :=
 match o.op,o.guard with
 | .move _,none|.assign _,none|.load _ _,none|.fieldAddr _ _ _,none|.indexAddr _ _ _,none|.nilCheck _,none=>true
 | _,_=>false
def condA(ko:Nat)(o:Oper)(s:List AV):Prop :=
 match o.op with
 | .call c=>(match c.args.toList with|[x,_]=>(match ev s x with|.sl o' _ _=>o'=ko|_=>False)|_=>False)
 | .load _ x=>(match ev s x with|.ptr o' _ _=>o'≠ko|.rptr _ _=>True|_=>False)
 | .fieldAddr _ x _=>(match ev s x with|.ptr o' _ _=>o'≠ko|.rptr _ _=>True|_=>False)
 | .indexAddr _ x i=>(match ev s x with|.ptr o' _ _=>o'≠ko|.sl o' _ _=>o'≠ko|.dat _=>True|_=>False)/\(match ev s i with|.dat _=>True|_=>False)
 | .move _=>True
 | .assign _=>True
 | .nilCheck x=>(match ev s x with|.ptr o' _ _=>o'≠ko|.rptr _ _=>True|_=>False)
 | _=>False
section
variable {P:Program} {Γ:Nat->Contract} {own:List Obj} {ko:Nat}
def opk(P:Program)(Γ:Nat->Contract)(all:Array Oper)(ko:Nat)(m:Bool)(o:Oper)(K:S->Prop)(σ:S):Prop:=(m=true->condA ko o σ.slots)/\opg P Γ all o K σ
theorem kills_eq(o:Nat):∀s:List AV,AV.kills o s=s.map (AV.kill o)
 | []=>rfl
 | a :: s=>by simp only[AV.kills,List.map_cons,kills_eq o s]
theorem kills_getD(o:Nat)(s:List AV)(i:Nat):(AV.kills o s).getD i .top=(s.getD i .top).kill o:=by
 rw[kills_eq]
 simp only[List.getD_eq_getElem?_getD,List.getElem?_map]
 cases s[i]? <;> rfl
theorem kills_put(o:Nat)(s:List AV)(i:Nat)(v:AV):AV.kills o (s.set i v)=(AV.kills o s).set i (v.kill o):=by
 rw[kills_eq,kills_eq,List.map_set]
theorem constAV0_kill(o:Nat)(v:Value):(constAV0 v).kill o=constAV0 v:=by
 unfold constAV0;split <;> first|rfl|(split <;> rfl)
theorem constAV_kill(o:Nat)(v:Value):(constAV v).kill o=constAV v:=by
 unfold constAV
 split
 ·split
  ·simp only[AV.kill,kills_eq,List.map_map]
   congr 1
   exact List.map_congr_left fun x _=>constAV0_kill o x
  ·rfl
 ·exact constAV0_kill o _
theorem ev_kills(o:Nat)(s:List AV)(x:Operand):ev (AV.kills o s) x=(ev s x).kill o:=by
 cases x with
 | tmp t=>exact kills_getD o s t
 | const v=>exact(constAV_kill o v).symm
 | func f=>rfl
 | global g=>simp only[ev,globAV];split <;> rfl
theorem getD_killset{o':Nat}{obj':Obj}(h:o'≠ko):((own.map (Obj.kill ko)).set ko obj').getD o' .dead=(own.getD o' .dead).kill ko:=by
 have h':¬ko=o':=fun e=>h e.symm
 simp only[List.getD_eq_getElem?_getD,List.getElem?_set,h',if_false,List.getElem?_map]
 cases own[o']? <;> rfl
theorem loadObj_kill{τ:Ty}{obj:Obj}{i j:Nat}{k:AV->Prop}(h:loadObj τ obj i j k):loadObj τ (obj.kill ko) i j (fun v'=>∃v,v'=v.kill ko/\k v):=by
 unfold loadObj at h
 split at h
 ·unfold loadObj
  simp only[Obj.kill]
  split at h
  ·rename_i ha;rw[if_pos ha];exact⟨h.1,h.2.1,h.2.2.1,_,rfl,h.2.2.2⟩
  ·rename_i ha;rw[if_neg ha];exact⟨h.1,h.2.1,_,rfl,h.2.2⟩
 ·unfold loadObj
  simp only[Obj.kill]
  exact⟨h.1,h.2.1,_,rfl,h.2.2⟩
 ·unfold loadObj
  simp only[Obj.kill]
  refine⟨h.1,h.2.1,by rw[kills_eq,List.length_map];exact h.2.2.1,_,?_,h.2.2.2⟩
  exact kills_getD _ _ _
 ·unfold loadObj
  simp only[Obj.kill]
  split at h
  ·rename_i ha;rw[if_pos ha]
   refine⟨by rw[kills_eq,List.length_map];exact h.1,_,?_,h.2⟩
   simp only[AV.kill,kills_eq,List.map_drop,List.map_take]
  ·rename_i ha;rw[if_neg ha]
   refine⟨by rw[kills_eq,List.length_map];exact h.1,_,?_,h.2⟩
   exact kills_getD _ _ _
 ·unfold loadObj
  simp only[Obj.kill]
  refine⟨h.1,h.2.1,h.2.2.1,by rw[kills_eq,List.length_map];exact h.2.2.2.1,_,?_,h.2.2.2.2⟩
  exact kills_getD _ _ _
 ·unfold loadObj
  simp only[Obj.kill]
  refine⟨h.1,?_⟩
  obtain⟨_,h⟩:=h
  split at h
  ·rename_i ha;rw[if_pos ha]
   refine⟨by rw[kills_eq,List.length_map];exact h.1,_,?_,h.2⟩
   simp only[AV.kill,kills_eq,List.map_drop,List.map_take]
  ·rename_i ha;rw[if_neg ha]
   refine⟨by rw[kills_eq,List.length_map];exact h.1,_,?_,h.2⟩
   exact kills_getD _ _ _
 ·exact h.elim
theorem vop_kill{o:Oper}(hq:isQ o=true){s:List AV}{obj':Obj}{k:AV->Prop}(hc:condA ko o s)(h:vop P own s o.op k) :
  vop P ((own.map (Obj.kill ko)).set ko obj') (AV.kills ko s) o.op (fun v'=>∃v,v'=v.kill ko/\k v):=by
 unfold isQ at hq
 unfold condA at hc
 split at hq
 ·rename_i x hop _
  rw[hop]at h ⊢
  simp only[vop]at h ⊢
  exact⟨_,ev_kills _ _ _,h⟩
 ·rename_i x hop _
  rw[hop]at h ⊢
  simp only[vop]at h ⊢
  exact⟨_,ev_kills _ _ _,h⟩
 ·rename_i t x hop _
  rw[hop]at h hc ⊢
  simp only[vop]at h hc ⊢
  rw[ev_kills]
  cases hx:ev s x <;> rw[hx]at hc h <;> simp only at hc
  ·rename_i o' i j
   simp only[AV.kill,hc,if_false]
   unfold loadw at h ⊢
   split at h
   ·rename_i τ o2 i2 j2 hτ hp
    cases hp
    rw[getD_killset hc]
    exact loadObj_kill h
   ·rename_i hp;cases hp
   ·exact h.elim
  ·simp only[AV.kill]
   unfold loadw at h ⊢
   split at h
   ·rename_i hp;cases hp
   ·rename_i hp;cases hp
    exact⟨h.1,_,rfl,h.2⟩
   ·exact h.elim
 ·rename_i t x f hop _
  rw[hop]at h hc ⊢
  simp only[vop]at h hc ⊢
  rw[ev_kills]
  cases hx:ev s x <;> rw[hx]at hc h <;> simp only at hc
  ·rename_i o' i j
   simp only[AV.kill,hc,if_false]
   unfold fieldAddrw at h ⊢
   split at h
   ·rename_i hf hp
    cases hp
    exact⟨_,by simp only[AV.kill,hc,if_false],h⟩
   ·rename_i hp;cases hp
   ·exact h.elim
  ·simp only[AV.kill]
   unfold fieldAddrw at h ⊢
   split at h
   ·rename_i hp;cases hp
   ·rename_i hf hp
    cases hp
    exact⟨h.1,_,rfl,h.2⟩
   ·exact h.elim
 ·rename_i t x i hop _
  rw[hop]at h hc ⊢
  simp only[vop]at h hc ⊢
  rw[ev_kills,ev_kills]
  obtain⟨hc,hi⟩:=hc
  cases hy:ev s i <;> rw[hy]at hi <;> simp only at hi
  rename_i di
  rw[hy]at h
  simp only[AV.kill]
  cases hx:ev s x <;> rw[hx]at hc h <;> simp only at hc
  ·simp only[AV.kill]
   unfold idxAddrw at h ⊢
   split at h
   ·rename_i hp _;cases hp
   ·rename_i τ ag xs k' n hτ hp hn
    cases hp;cases hn
    simp only at h ⊢
    split at h
    ·split at h
     ·exact⟨h.1,h.2.1,h.2.2.1,_,rfl,h.2.2.2⟩
     ·exact h.elim
    ·exact h.elim
   ·rename_i hp _;cases hp
   ·rename_i hp _;cases hp
   ·exact h.elim
  ·rename_i o' off len
   simp only[AV.kill,hc,if_false]
   unfold idxAddrw at h ⊢
   split at h
   ·rename_i τ o2 off2 len2 k' n hτ hp hn
    cases hp;cases hn
    simp only at h ⊢
    split at h
    ·split at h
     ·obtain⟨h1,h2,h3,h4⟩:=h
      refine⟨h1,h2,?_,_,?_,h4⟩
      ·rw[getD_killset hc]
       rcases h3 with⟨ag,xs,e1,e2⟩|⟨cs,e1,e2⟩|⟨k9,cs,e1,e2⟩
       ·exact .inl ⟨ag,xs,by rw[e1];rfl,e2⟩
       ·exact .inr (.inl ⟨AV.kills ko cs,by rw[e1];rfl,e2⟩)
       ·exact .inr (.inr ⟨k9,AV.kills ko cs,by rw[e1];rfl,e2⟩)
      ·simp only[AV.kill,hc,if_false]
     ·exact h.elim
    ·exact h.elim
   ·rename_i hp _;cases hp
   ·rename_i hp _;cases hp
   ·rename_i hp _;cases hp
   ·exact h.elim
  ·rename_i o' i0 j0
   simp only[AV.kill,hc,if_false]
   unfold idxAddrw at h ⊢
   split at h
   ·rename_i hp _;cases hp
   ·rename_i hp _;cases hp
   ·rename_i τ o2 off2 len2 k' n hτ hp hn
    cases hp;cases hn
    simp only at h ⊢
    split at h
    ·split at h
     ·obtain⟨h1,h2,h3⟩:=h
      refine⟨h1,h2,?_⟩
      rw[getD_killset hc]
      split at h3
      ·rename_i e1;rw[e1];simp only[Obj.kill]
       exact⟨h3.1,h3.2.1,h3.2.2.1,_,by simp only[AV.kill,hc,if_false],h3.2.2.2⟩
      ·rename_i e1;rw[e1];simp only[Obj.kill]
       exact⟨_,by simp only[AV.kill,hc,if_false],h3⟩
      ·rename_i e1;rw[e1];simp only[Obj.kill]
       exact⟨_,by simp only[AV.kill,hc,if_false],h3⟩
      ·exact h3.elim
     ·exact h.elim
    ·exact h.elim
   ·rename_i hp _;cases hp
   ·exact h.elim
 ·rename_i x hop _
  rw[hop]at h hc ⊢
  simp only[vop]at h hc ⊢
  rw[ev_kills]
  cases hx:ev s x <;> rw[hx]at hc h <;> simp only at hc
  ·simp only[AV.kill,hc,if_false]
   simp only[nilw]at h ⊢
   exact⟨_,by simp only[AV.kill,hc,if_false],h⟩
  ·simp only[AV.kill]
   simp only[nilw]at h ⊢
   exact⟨_,rfl,h⟩
 ·cases hq
theorem condA_kills{o:Oper}(hq:isQ o=true){s:List AV}(hc:condA ko o s):condA ko o (AV.kills ko s):=by
 unfold isQ at hq
 unfold condA at hc ⊢
 split at hq
 ·rename_i x hop _;rw[hop];trivial
 ·rename_i x hop _;rw[hop];trivial
 ·rename_i t x hop _
  rw[hop]at hc ⊢
  simp only at hc ⊢
  rw[ev_kills]
  cases hx:ev s x <;> rw[hx]at hc <;> simp only at hc
  ·simp only[AV.kill,hc,if_false];exact hc
  ·trivial
 ·rename_i t x f hop _
  rw[hop]at hc ⊢
  simp only at hc ⊢
  rw[ev_kills]
  cases hx:ev s x <;> rw[hx]at hc <;> simp only at hc
  ·simp only[AV.kill,hc,if_false];exact hc
  ·trivial
 ·rename_i t x i hop _
  rw[hop]at hc ⊢
  simp only at hc ⊢
  rw[ev_kills,ev_kills]
  obtain⟨hc,hi⟩:=hc
  refine⟨?_,?_⟩
  ·cases hx:ev s x <;> rw[hx]at hc <;> simp only at hc
   ·trivial
   ·simp only[AV.kill,hc,if_false];exact hc
   ·simp only[AV.kill,hc,if_false];exact hc
  ·cases hy:ev s i <;> rw[hy]at hi <;> simp only at hi
   trivial
 ·rename_i x hop _
  rw[hop]at hc ⊢
  simp only at hc ⊢
  rw[ev_kills]
  cases hx:ev s x <;> rw[hx]at hc <;> simp only at hc
  ·simp only[AV.kill,hc,if_false];exact hc
  ·trivial
 ·cases hq
theorem appendw_det{τ:Option Ty}{off len:Nat}{y:AV}{K:AV->List Obj->List Nat->Prop}(h:appendw P τ own (.sl ko off len) y K) :
  ∃v obj',K v ((own.map (Obj.kill ko)).set ko obj') [ko]/\∀K':AV->List Obj->List Nat->Prop,K' v ((own.map (Obj.kill ko)).set ko obj') [ko]->appendw P τ own (.sl ko off len) y K':=by
 unfold appendw at h ⊢
 simp only at h ⊢
 split at h
 ·unfold appendVw at h ⊢
  split at h
  ·split at h
   ·split at h
    ·obtain⟨h1,h2,h3,h4,h5,h6⟩:=h
     rename_i cs hobj _ _ _ _ _ _ _ _ _ _
     exact⟨_,_,h6,fun K' hK'=>⟨h1,h2,h3,h4,h5,hK'⟩⟩
    ·exact h.elim
   ·exact h.elim
  ·exact h.elim
 ·unfold appendTw at h ⊢
  split at h
  ·split at h
   ·split at h
    ·obtain⟨h1,h2,h3,h4,h5,h6,h7,h8⟩:=h
     exact⟨_,_,h8,fun K' hK'=>⟨h1,h2,h3,h4,h5,h6,h7,hK'⟩⟩
    ·exact h.elim
   ·exact h.elim
  ·exact h.elim
 ·unfold appendRw at h ⊢
  split at h
  ·split at h
   ·split at h
    ·obtain⟨h1,h2,h3,h4,h5⟩:=h
     simp only at h5
     split at h5
     ·rename_i ag xs hobj
      obtain⟨g1,g2,g3,g4,g5⟩:=h5
      exact⟨_,_,g5,fun K' hK'=>⟨h1,h2,h3,h4,by simp only[hobj];exact⟨g1,g2,g3,g4,hK'⟩⟩⟩
     ·exact h5.elim
    ·exact h.elim
   ·exact h.elim
  ·exact h.elim
theorem appendSw_det{τ:Option Ty}{off len:Nat}{s:List UInt8}{K:AV->List Obj->List Nat->Prop}(h:appendSw P τ own (.sl ko off len) s K) :
  ∃v obj',K v ((own.map (Obj.kill ko)).set ko obj') [ko]/\∀K':AV->List Obj->List Nat->Prop,K' v ((own.map (Obj.kill ko)).set ko obj') [ko]->appendSw P τ own (.sl ko off len) s K':=by
 unfold appendSw at h ⊢
 split at h
 ·split at h
  ·split at h
   ·obtain⟨h1,h2,h3,h5⟩:=h
    simp only at h5
    split at h5
    ·rename_i ag xs hobj
     obtain⟨g1,g2,g3,g4,g5⟩:=h5
     exact⟨_,_,g5,fun K' hK'=>⟨h1,h2,h3,by simp only[hobj];exact⟨g1,g2,g3,g4,hK'⟩⟩⟩
    ·exact h5.elim
   ·exact h.elim
  ·exact h.elim
 ·exact h.elim
theorem appTw_det{t t':TypeId}{off len:Nat}{y:AV}{K:AV->List Obj->List Nat->Prop}(h:appTw P own t t' (.sl ko off len) y K) :
  ∃v obj',K v ((own.map (Obj.kill ko)).set ko obj') [ko]/\∀K':AV->List Obj->List Nat->Prop,K' v ((own.map (Obj.kill ko)).set ko obj') [ko]->appTw P own t t' (.sl ko off len) y K':=by
 unfold appTw at h ⊢
 split at h
 ·rename_i e
  obtain⟨v,obj',h1,h2⟩:=appendw_det h
  exact⟨v,obj',h1,fun K' hK'=>by rw[if_pos e];exact h2 K' hK'⟩
 ·rename_i e
  split at h
  ·rename_i hτ'
   obtain⟨v,obj',h1,h2⟩:=appendSw_det h.2
   exact⟨v,obj',h1,fun K' hK'=>by rw[if_neg e];exact⟨h.1,h2 K' hK'⟩⟩
  ·exact h.elim
theorem lit_det{o:Oper}(hm:isLit o=true){K:S->Prop}{σ:S}{all:Array Oper}(h:opg P Γ all o K σ) :
  ∃v ex,K (σ.effect o.dst v (σ.own++ex) [])/\Eff P Γ all o σ v (σ.own++ex):=by
 unfold isLit at hm
 split at hm
 ·rename_i t len parts hop hg
  have e:∀(K:S->Prop) (σ:S),opg P Γ all o K σ=buildSlicew P (tyOf P t) σ.own len (parts.toList.map fun p=>(p.1,ev σ.slots p.2)) (PutE o.dst K σ):=fun K σ=>by
   unfold opg
   rw[hg]
   simp only
   unfold opw
   simp only[hop,isV,Bool.false_eq_true,if_false,eop]
  rw[e]at h
  have key:∃v obj,PutE o.dst K σ v (σ.own++[obj]) []/\∀K':AV->List Obj->List Nat->Prop,K' v (σ.own++[obj]) []->buildSlicew P (tyOf P t) σ.own len (parts.toList.map fun p=>(p.1,ev σ.slots p.2)) K':=by
   unfold buildSlicew at h ⊢
   split at h
   ·split at h
    ·split at h
     ·obtain⟨h1,h2,h3,h4,h5,h6,h7⟩:=h
      exact⟨_,_,h7,fun K' hK'=>⟨h1,h2,h3,h4,h5,h6,hK'⟩⟩
     ·split at h
      ·obtain⟨h1,h2,h3,h4,h5⟩:=h
       exact⟨_,_,h5,fun K' hK'=>⟨h1,h2,h3,h4,hK'⟩⟩
      ·split at h
       ·obtain⟨h1,h2,h3,h4,h5,h6⟩:=h
        exact⟨_,_,h6,fun K' hK'=>⟨h1,h2,h3,h4,h5,hK'⟩⟩
       ·exact h.elim
     ·exact h.elim
    ·exact h.elim
   ·exact h.elim
  obtain⟨v,obj,h1,h2⟩:=key
  refine⟨v,[obj],h1,fun K' σ' ho hxs hK'=>?_⟩
  have ea:(parts.toList.map fun p=>(p.1,ev σ'.slots p.2))=parts.toList.map fun p=>(p.1,ev σ.slots p.2):=by
   refine List.map_congr_left fun p hp=>?_
   rw[hxs p.2 (by rw[hop];simp only[Op.operands];simp only[Array.toList_map,List.mem_map];exact⟨p,hp,rfl⟩)]
  rw[e,ea,ho]
  exact h2 _ hK'
 ·cases hm
theorem condA_congr{o:Oper}{s s':List AV}(h:∀x∈o.op.operands.toList,ev s' x=ev s x)(hc:condA ko o s):condA ko o s':=by
 unfold condA at hc ⊢
 split
 ·rename_i c hop
  rw[hop]at hc h
  simp only at hc
  split at hc
  ·rename_i x y hargs
   rw[h x (by simp[Op.operands,Call.operands,hargs])]
   exact hc
  ·exact hc.elim
 ·rename_i t x hop
  rw[hop]at hc h
  simp only at hc
  rw[h x (by simp[Op.operands])]
  exact hc
 ·rename_i t x f hop
  rw[hop]at hc h
  simp only at hc
  rw[h x (by simp[Op.operands])]
  exact hc
 ·rename_i t x i hop
  rw[hop]at hc h
  simp only at hc
  rw[h x (by simp[Op.operands]),h i (by simp[Op.operands])]
  exact hc
 ·trivial
 ·trivial
 ·rename_i x hop
  rw[hop]at hc h
  simp only at hc
  rw[h x (by simp[Op.operands])]
  exact hc
 ·rename_i h1 h2 h3 h4 h5 h6 h7
  split at hc
  ·rename_i hop;exact(h1 _ hop).elim
  ·rename_i hop;exact(h2 _ _ hop).elim
  ·rename_i hop;exact(h3 _ _ _ hop).elim
  ·rename_i hop;exact(h4 _ _ _ hop).elim
  ·rename_i hop;exact(h5 _ hop).elim
  ·rename_i hop;exact(h6 _ hop).elim
  ·rename_i hop;exact(h7 _ hop).elim
  ·exact hc
end
end Go.AM
namespace Go.AM
open Go
inductive Waits (ops:Array Oper):Nat->Nat->Prop
 | one {i p:Nat}:Region.waitsFor .any ops i p=true->Waits ops i p
 | step {i q p:Nat}:Region.waitsFor .any ops i q=true->Waits ops q p->Waits ops i p
def depsOf(ops:Array Oper)(i:Nat):List Nat:=(List.range ops.size).filter fun p=>Region.waitsFor .any ops i p
def ancT(ops:Array Oper):Nat->List (List Nat)
 | 0=>[]
 | n+1=>ancT ops n++[let T:=ancT ops n;let D:=depsOf ops n;(List.range ops.size).filter fun p=>D.contains p || D.any fun q=>(T.getD q []).contains p]
def ancF(ops:Array Oper):Nat->Nat->List (List Nat)->List (List Nat)
 | 0,_,T=>T
 | k+1,n,T=>ancF ops k (n+1) (T++[let D:=depsOf ops n;(List.range ops.size).filter fun p=>D.contains p || D.any fun q=>(T.getD q []).contains p])
section
variable {P:Program} {Γ:Nat->Contract} {own:List Obj} {ko:Nat}
def chainK(P:Program)(Γ:Nat->Contract)(ops:Array Oper)(ko:Nat)(ms:List Nat)(Q:Exit->S->Prop):List Nat->S->Prop
 | [],σ=>Q .normal σ
 | i :: r,σ=>match ops[i]? with|some o=>opk P Γ ops ko (ms.contains i) o (chainK P Γ ops ko ms Q r) σ|none=>False
def swapOkK(pf mf ms:List Nat)(ops:Array Oper)(p i:Nat):Bool :=
 match ops[p]?,ops[i]? with
 | some op,some oi=>op.apart ops oi && ((vlike pf op && vlike pf oi) || (isV op.op && (isMk mf oi || isLit oi)) || (isV op.op && isQ op && ms.contains p && isApp oi && ms.contains i))
 | _,_=>false
def pairsOkK(T:List (List Nat))(pf mf ms:List Nat)(ops:Array Oper):List Nat->Bool
 | []=>true
 | p :: r=>(r.all fun i=>(T.getD i []).contains p || swapOkK pf mf ms ops p i) && pairsOkK T pf mf ms ops r
def drawOkK(pf mf ms:List Nat)(ops:Array Oper)(L:List Nat):Bool:=pairsOkK (ancF ops ops.size 0 []) pf mf ms ops L && backOk ops && edgesOk ops && allOf ops.size L && nodupB L
def Closed(ops:Array Oper)(listed:Array Bool):Prop:=∀j p,Region.waitsFor .any ops j p=true->listed.getD j false=true->listed.getD p false=true
end
section
variable {P:Program} {Γ:Nat->Contract} {all:Array Oper} {Q:Exit->S->Prop} {i ko:Nat} {r ms:List Nat} {s:List AV} {own:List Obj} {n:Nat} {m:List Nat} {dst:Option Tmp} {ty:TypeId} {pos:String} {af:Array Edge} {gd:Option (Nat×Bool)}
@[go_sem] theorem chainK_nil:chainK P Γ all ko ms Q [] ⟨s,own,n,m⟩=Q .normal ⟨s,own,n,m⟩:=Eq.trans rfl rfl
@[go_sem] theorem chainK_go:chainK P Γ all ko ms Q (i :: r) ⟨s,own,n,m⟩=(match all[i]? with|some o=>((ms.contains i=true->condA ko o s)/\opg P Γ all o (chainK P Γ all ko ms Q r) ⟨s,own,n,m⟩)|none=>False):=Eq.trans rfl rfl
@[go_sem] theorem condA_call {c:Call}:condA ko ⟨dst,.call c,ty,pos,af,gd⟩ s=(match c.args.toList with|[x,_]=>(match ev s x with|.sl o' _ _=>o'=ko|_=>False)|_=>False):=Eq.trans rfl rfl
@[go_sem] theorem condA_load {t:TypeId} {x:Operand}:condA ko ⟨dst,.load t x,ty,pos,af,gd⟩ s=(match ev s x with|.ptr o' _ _=>o'≠ko|.rptr _ _=>True|_=>False):=Eq.trans rfl rfl
@[go_sem] theorem condA_nilCheck {x:Operand}:condA ko ⟨dst,.nilCheck x,ty,pos,af,gd⟩ s=(match ev s x with|.ptr o' _ _=>o'≠ko|.rptr _ _=>True|_=>False):=Eq.trans rfl rfl
@[go_sem] theorem condA_fieldAddr {t:TypeId} {x:Operand} {f:Nat}:condA ko ⟨dst,.fieldAddr t x f,ty,pos,af,gd⟩ s=(match ev s x with|.ptr o' _ _=>o'≠ko|.rptr _ _=>True|_=>False):=Eq.trans rfl rfl
@[go_sem] theorem condA_indexAddr {t:TypeId} {x y:Operand}:condA ko ⟨dst,.indexAddr t x y,ty,pos,af,gd⟩ s=((match ev s x with|.ptr o' _ _=>o'≠ko|.sl o' _ _=>o'≠ko|.dat _=>True|_=>False)/\(match ev s y with|.dat _=>True|_=>False)):=Eq.trans rfl rfl
@[go_sem] theorem condA_move {x:Operand}:condA ko ⟨dst,.move x,ty,pos,af,gd⟩ s=True:=Eq.trans rfl rfl
@[go_sem] theorem condA_assign {x:Operand}:condA ko ⟨dst,.assign x,ty,pos,af,gd⟩ s=True:=Eq.trans rfl rfl
end
end Go.AM

