/- Own work over the model of the kit. -/
import Derived.Test.YtjfoclncfhiffaaD2
import Derived.Defers
import Derived.OrdersIn
import Derived.RangeFuncRecord
import Derived.Sort.LoopGhostIn
set_option linter.unnecessarySimpa false
set_option linter.unusedSimpArgs false
set_option linter.unusedVariables false
namespace Go.AM
open Go
abbrev Contract:=List AV->List Obj->AV->List Obj->List Nat->Prop
structure S where
 slots:List AV
 own:List Obj
 n0:Nat
 mv:List Nat
def S.put(σ:S)(dst:Option Tmp)(v:AV):S :=
 match dst with
 | some d=>{ σ with slots:=σ.slots.set d v }
 | none=>σ
def killAll:List Nat->List AV->List AV
 | [],s=>s
 | o :: os,s=>killAll os (AV.kills o s)
def addMv(n0:Nat)(mv kl:List Nat):List Nat :=
 match kl with
 | []=>mv
 | o :: os=>addMv n0 (if o<n0 then (if mv.contains o then mv else mv++[o]) else mv) os
def S.effect(σ:S)(dst:Option Tmp)(v:AV)(own':List Obj)(kl:List Nat):S :=
 S.put { slots:=killAll kl σ.slots,own:=own',n0:=σ.n0,mv:=addMv σ.n0 σ.mv kl } dst v
def callw(Γ:Nat->Contract)(f:AV)(args:List AV)(own:List Obj)(K:AV->List Obj->List Nat->Prop):Prop :=
 match f with
 | .fn g caps=>∃v own' mv,Γ g (args++caps) own v own' mv/\K v own' mv
 | _=>False
def RoundW(P:Program)(o:Nat)(r:Loop)(args:List AV)(own:List Obj)(b:Bool)(own':List Obj)(mv:List Nat):Prop :=
 ∀F φ w vs L arr,Conc F φ own w->AV.Rs F φ w args vs->φ o=some L->w.heap[L.b]?=some (.loop { r with tmps:=arr }) ->
  RoundIn Fence.wide 0 P L.b r.fn ((r.params.zip vs.toArray).foldl (fun tmps (t,a)=>tmps.setIfInBounds t a) arr) r.assign r.body w fun e w'=>∃F' φ',e=.returned (.bool b)/\After F φ w F' φ' own' w' mv
def yieldw(P:Program)(o:Nat)(args:List AV)(own:List Obj)(K:AV->List Obj->List Nat->Prop):Prop :=
 ∃r cs b own' mv,own.getD o .dead=.lp r cs/\r.params.size=args.length/\RoundW P o r args own b own' mv/\K (.dat (.bool b)) own' mv
def ecall(P:Program)(Γ:Nat->Contract)(own:List Obj)(slots:List AV)(f:Callee)(args:List Operand)(ts:List TypeId)(K:AV->List Obj->List Nat->Prop):Prop :=
 match f,args,ts with
 | .builtin .append,[x,y],[t,t']=>appTw P own t t' (ev slots x) (ev slots y) K
 | .builtin .copy,[x,y],[t,_]=>copyw P (tyOf P t) own (ev slots x) (ev slots y) K
 | .builtin .clear,[x],[t]=>clearw P (tyOf P t) own (ev slots x) K
 | .value f,args,_=>callw Γ (ev slots f) (args.map (ev slots)) own K
 | _,_,_=>False
def eop(P:Program)(Γ:Nat->Contract)(own:List Obj)(slots:List AV)(op:Op)(K:AV->List Obj->List Nat->Prop):Prop :=
 match op with
 | .alloc e=>allocw P e own K
 | .box _ x=>boxw own (ev slots x) K
 | .buildSlice t len parts=>buildSlicew P (tyOf P t) own len (parts.toList.map fun p=>(p.1,ev slots p.2)) K
 | .store t a x=>storew (tyOf P t) own (ev slots a) (ev slots x) K
 | .makeMap _ none=>K (.map own.length) (own++[.map []]) []
 | .makeSlice t l c=>makeSlicew P (tyOf P t) own (ev slots l) (ev slots c) K
 | .mapUpdate t m k x=>mapUpdatew P (tyOf P t) own (ev slots m) (ev slots k) (ev slots x) K
 | .insert t m k x=>mapUpdatew P (tyOf P t) own (ev slots m) (ev slots k) (ev slots x) K
 | .call c=>ecall P Γ own slots c.callee c.args.toList c.argTypes.toList K
 | _=>False
def isV:Op->Bool
 | .move _|.assign _|.pick _ _ _|.binOp _ _ _ _ _|.unOp _ _ _|.convert _ _ _|.load _ _|.fieldAddr _ _ _|.field _ _ _|.indexAddr _ _ _|.index _ _ _
 | .slice _ _ _ _ _|.build _ _|.extract _ _|.lookup _ _ _ _|.nilCheck _|.makeFunc _ _ _=>true
 | .call c=>(match c.callee with|.builtin .len|.builtin .min|.builtin .max=>true|_=>false)
 | _=>false
def PutV(dst:Option Tmp)(K:S->Prop)(σ:S)(v:AV):Prop:=K (σ.put dst v)
def PutE(dst:Option Tmp)(K:S->Prop)(σ:S)(v:AV)(own':List Obj)(kl:List Nat):Prop:=K (σ.effect dst v own' kl)
def opw(P:Program)(Γ:Nat->Contract)(o:Oper)(K:S->Prop)(σ:S):Prop :=
 if isV o.op then vop P σ.own σ.slots o.op (PutV o.dst K σ) else eop P Γ σ.own σ.slots o.op (PutE o.dst K σ)
def grd(v:AV)(want:Bool)(A B:Prop):Prop :=
 match v with
 | .dat (.bool b)=>(b=want->A)/\(b=(!want)->B)
 | .tup []=>B
 | _=>False
def opg(P:Program)(Γ:Nat->Contract)(all:Array Oper)(o:Oper)(K:S->Prop)(σ:S):Prop :=
 match o.guard with
 | none=>opw P Γ o K σ
 | some (j,want) =>
  match (all[j]?).bind (·.dst) with
  | some d=>grd (σ.slots.getD d .top) want (opw P Γ o K σ) (K (σ.put o.dst (.tup [])))
  | none=>False
def awpOps(P:Program)(Γ:Nat->Contract)(all:Array Oper)(Q:Exit->S->Prop):List Oper->S->Prop
 | [],σ=>Q .normal σ
 | o :: os,σ=>opg P Γ all o (awpOps P Γ all Q os) σ
structure Ctx where
 F0:Nat->Prop
 w0:World
 φ0:Nat->Option Loc
 n0:Nat
 rd:Option Nat:=none
 ds:List Deferred:=[]
def Ctx.third(c:Ctx)(b:Nat):Prop:=b<c.w0.heap.size/\¬c.F0 b/\∀o L,c.φ0 o=some L->L.nil=false->L.b≠b
def markD(b:Nat):Deferred:={ target:=.collected b,args:=#[] }
structure Ctx.ok (c:Ctx):Prop where
 rnd:∀l,c.rd=some l->c.third l/\∃r,c.w0.heap[l]?=some (.loop r)
 mks:∀d∈c.ds,∃b,d=markD b/\c.third b/\c.w0.heap[b]?=some (.deferred (some []))
 nod:c.ds.Nodup
 old:∀i L,c.φ0 i=some L->L.nil=false->L.b<c.w0.heap.size
theorem Ctx.ok0{F:Nat->Prop}{w:World}{φ:Nat->Option Loc}{own:List Obj}{n:Nat}(hc:Conc F φ own w):Ctx.ok ⟨F,w,φ,n,none,[]⟩:=⟨fun _ h=>(by cases h),fun _ h=>(by cases h),List.nodup_nil,fun i L h hn=>(hc.live i L h hn).2⟩
def fen(rd:Option Nat):Fence:={ Fence.wide with round:=rd }
structure Since (c:Ctx) (mv:List Nat) (F:Nat->Prop) (φ:Nat->Option Loc) (w:World):Prop where
 sub:∀b,c.F0 b->F b
 ext:Ext c.F0 c.w0 w
 keep:∀o L,o<c.n0->o∉mv->c.φ0 o=some L->φ o=some L
 rest:∀b,b<c.w0.heap.size->(∀o L,c.φ0 o=some L->L.nil=false->L.b≠b)->w.heap[b]?=c.w0.heap[b]?
 orig:∀o L',φ o=some L'->L'.nil=false->c.w0.heap.size<=L'.b∨∃o' L,c.φ0 o'=some L/\L.nil=false/\L.b=L'.b
 frsh:∀b,F b->c.F0 b∨c.w0.heap.size<=b∨∃o L,c.φ0 o=some L/\L.nil=false/\L.b=b
theorem Since.third{c:Ctx}{mv:List Nat}{F:Nat->Prop}{φ:Nat->Option Loc}{w:World}(h:Since c mv F φ w){b:Nat}(hb:c.third b) :
  b<w.heap.size/\¬F b/\(∀o L,φ o=some L->L.nil=false->L.b≠b)/\w.heap[b]?=c.w0.heap[b]?:=by
 refine⟨Nat.lt_of_lt_of_le hb.1 h.ext.size,fun hF=>?_,fun o L ho hn e=>?_,h.rest b hb.1 hb.2.2⟩
 ·rcases h.frsh b hF with h1|h1|⟨o,L,h1,h2,h3⟩
  ·exact hb.2.1 h1
  ·exact absurd hb.1 (by omega)
  ·exact hb.2.2 o L h1 h2 h3
 ·rcases h.orig o L ho hn with h1|⟨o',L',h1,h2,h3⟩
  ·have:=hb.1;omega
  ·exact hb.2.2 o' L' h1 h2 (h3.trans e)
def St(c:Ctx)(σ:S)(a:Act)(w:World):Prop :=
 (a.defers=c.ds/\c.ok)/\σ.n0=c.n0/\∃F φ,Since c σ.mv F φ w/\Conc F φ σ.own w/\AV.Rs F φ w σ.slots a.tmps.toList
def OkG(P:Program)(Γ:Nat->Contract):Prop :=
 ∀ g args own v own' mv, Γ g args own v own' mv -> (∃ fn body, P.funcs[g]? = some fn /\ fn.body = some body /\ fn.name ≠ "runtime.NumGoroutine") /\
  ∀F φ w vs,Conc F φ own w->AV.Rs F φ w args vs->Calls P g vs.toArray w fun e w'=>∃r F' φ',e=.returned r/\After F φ w F' φ' own' w' mv/\AV.R F' φ' w' v r
section
variable {P:Program} {Γ:Nat->Contract} {c:Ctx}
theorem put_R{F:Nat->Prop}{φ:Nat->Option Loc}{w:World}{σ:S}{a:Act}{dst:Option Tmp}{v:AV}{r:Value}(hs:AV.Rs F φ w σ.slots a.tmps.toList)(hv:AV.R F φ w v r) :
  AV.Rs F φ w (σ.put dst v).slots (a.put dst r).tmps.toList:=by
 cases dst with
 | none=>exact hs
 | some d =>
  simp only[S.put,Act.put,Array.toList_setIfInBounds]
  exact AV.Rs_set hs d v r hv
theorem put_own(σ:S)(dst:Option Tmp)(v:AV):(σ.put dst v).own=σ.own/\(σ.put dst v).n0=σ.n0/\(σ.put dst v).mv=σ.mv:=by cases dst <;> exact⟨rfl,rfl,rfl⟩
theorem put_defers(a:Act)(dst:Option Tmp)(r:Value):(a.put dst r).defers=a.defers:=by cases dst <;> rfl
theorem killAll_R{F F':Nat->Prop}{w w':World}(hF:∀b,F b->F' b)(hw:Same F w w'):∀(kl:List Nat) {φ φ':Nat->Option Loc} {s:List AV} {vs:List Value},(∀o L,o∉kl->φ o=some L->φ' o=some L)->AV.Rs F φ w s vs->AV.Rs F' φ' w' (killAll kl s) vs
 | [],φ,φ',s,vs,hk,h=>AV.Rs_mono hF hw (fun o L ho=>hk o L (by simp) ho) _ _ h
 | o :: os,φ,φ',s,vs,hk,h=>by
  simp only[killAll]
  classical
  have h1:AV.Rs F (fun i=>if i=o then none else φ i) w (AV.kills o s) vs :=
   AV.Rs_kill (o:=o) (F:=F) (F':=F) (w:=w) (w':=w) (fun _ h=>h) (Same.refl F w) (fun o' L hne ho=>by simp only[hne,if_false];exact ho) s vs h
  refine killAll_R hF hw os (fun o' L hn ho=>?_) h1
  split at ho
  ·cases ho
  ·rename_i hne
   exact hk o' L (by simp[hne,hn]) ho
theorem mem_addMv:∀(kl mv:List Nat) (n0 o:Nat),o<n0->o∉addMv n0 mv kl->o∉mv/\o∉kl
 | [],mv,n0,o,_,h=>⟨by simpa [addMv] using h,by simp⟩
 | k :: kl,mv,n0,o,hlt,h=>by
  simp only[addMv]at h
  obtain⟨h1,h2⟩:=mem_addMv kl _ n0 o hlt h
  by_cases hk:k<n0
  ·rw[if_pos hk]at h1
   by_cases hc:mv.contains k=true
   ·rw[if_pos hc]at h1
    refine⟨h1,?_⟩
    simp only[List.mem_cons,not_or]
    refine⟨fun e=>h1 ?_,h2⟩
    subst e
    simpa using hc
   ·rw[if_neg hc]at h1
    simp only[List.mem_append,List.mem_singleton,not_or]at h1
    exact⟨h1.1,by simp only[List.mem_cons,not_or];exact⟨h1.2,h2⟩⟩
  ·rw[if_neg hk]at h1
   refine⟨h1,?_⟩
   simp only[List.mem_cons,not_or]
   exact⟨fun e=>hk (e ▸ hlt),h2⟩
theorem St.put{σ:S}{a:Act}{w:World}{F:Nat->Prop}{φ:Nat->Option Loc}{dst:Option Tmp}{v:AV}{r:Value}(hd:a.defers=c.ds/\c.ok)(hn:σ.n0=c.n0)(h2:Since c σ.mv F φ w)(h3:Conc F φ σ.own w)
  (h4:AV.Rs F φ w σ.slots a.tmps.toList) (hv:AV.R F φ w v r):St c (σ.put dst v) (a.put dst r) w:=by
 refine⟨by rw[put_defers];exact hd,by rw[(put_own σ dst v).2.1];exact hn,F,φ,?_,?_,put_R h4 hv⟩
 ·rw[(put_own σ dst v).2.2];exact h2
 ·rw[(put_own σ dst v).1];exact h3
theorem Since.after{mv:List Nat}{w w':World}{F F':Nat->Prop}{φ φ':Nat->Option Loc}{own':List Obj}{kl:List Nat}(h2:Since c mv F φ w)(ha:After F φ w F' φ' own' w' kl):Since c (addMv c.n0 mv kl) F' φ' w' where
 sub b hb:=ha.sub b (h2.sub b hb)
 ext:=h2.ext.trans (ha.ext.mono (fun b hb=>h2.sub b hb))
 keep o L ho hm h0:=by
  obtain⟨m1,m2⟩:=mem_addMv kl mv c.n0 o ho hm
  exact ha.keep o L m2 (h2.keep o L ho m1 h0)
 rest b hb hall:=by
  rw[ha.rest b (Nat.lt_of_lt_of_le hb h2.ext.size) (fun o L ho hn e=>?_)]
  ·exact h2.rest b hb hall
  ·rcases h2.orig o L ho hn with h|⟨o',L',h1,h2',h3⟩
   ·omega
   ·exact hall o' L' h1 h2' (h3.trans e)
 orig o L' ho hn:=by
  rcases ha.orig o L' ho hn with h|⟨o',L,h1,h2',h3⟩
  ·exact .inl (Nat.le_trans h2.ext.size h)
  ·rw[← h3];exact h2.orig o' L h1 h2'
 frsh b hb:=by
  rcases ha.frsh b hb with h|h|⟨o,L,h1,h2',h3⟩
  ·exact h2.frsh b h
  ·exact .inr (.inl (Nat.le_trans h2.ext.size h))
  ·rw[← h3]
   rcases h2.orig o L h1 h2' with h|h
   ·exact .inr (.inl h)
   ·exact .inr (.inr h)
theorem St.effect{σ:S}{a:Act}{w w':World}{F F':Nat->Prop}{φ φ':Nat->Option Loc}{dst:Option Tmp}{v:AV}{r:Value}{own':List Obj}{kl:List Nat}(hd:a.defers=c.ds/\c.ok)(hn:σ.n0=c.n0)(h2:Since c σ.mv F φ w)
  (h4:AV.Rs F φ w σ.slots a.tmps.toList) (ha:After F φ w F' φ' own' w' kl) (hv:AV.R F' φ' w' v r):St c (σ.effect dst v own' kl) (a.put dst r) w':=by
 unfold S.effect
 refine St.put (F:=F') (φ:=φ') hd hn ?_ ha.conc (killAll_R ha.sub ha.ext.same kl ha.keep h4) hv
 simp only
 rw[hn]
 exact h2.after ha
theorem wp_value{rd:Option Nat}{o:Oper}{a:Act}{w w':World}{r:Value}{next:Act->World->Prop}{Q:Exit->Act->World->Prop}(hnd:∀c,o.op≠.defer c)(hrun:(execOp a.eval o).run P w=.ok (.value r) w')(h:next (a.put o.dst r) w'):o.wpIn (fen rd) 0 P a w next Q:=by
 unfold Oper.wpIn
 refine⟨fun _ _=>trivial,?_⟩
 rw[Oper.semAt_eq _ _ _ hnd,hrun]
 exact h
theorem wp_skip'{rd:Option Nat}{o:Oper}{a:Act}{w w':World}{next:Act->World->Prop}{Q:Exit->Act->World->Prop}(hnd:∀c,o.op≠.defer c)(hrun:(execOp a.eval o).run P w=.ok .skip w')(h:next (a.put o.dst undef) w'):o.wpIn (fen rd) 0 P a w next Q:=by
 unfold Oper.wpIn
 refine⟨fun _ _=>trivial,?_⟩
 rw[Oper.semAt_eq _ _ _ hnd,hrun]
 exact h
theorem exec_buildSlice(ρ:Operand->Value)(dst:Option Tmp)(t:TypeId)(len:Nat)(parts:Array (Nat×Operand))(ty:TypeId)(pos:String)(after:Array Edge)(guard:Option (Nat×Bool)) :
  execOp ρ { dst:=dst,op:=.buildSlice t len parts,type:=ty,pos:=pos,after:=after,guard:=guard }=(do pure (Next.value (← Instr.buildSlice t len (parts.toList.map fun p=>(p.1,ρ p.2)).toArray))):=by
 have e:(parts.map fun p=>(p.1,ρ p.2))=(parts.toList.map fun p=>(p.1,ρ p.2)).toArray:=by
  apply Array.ext'
  simp
 rw[← e]
 rfl
theorem opw_sound(hΓ:OkG P Γ){o:Oper}{K:S->Prop}{σ:S}{a:Act}{w:World}{Q:Exit->Act->World->Prop}(hst:St c σ a w)(h:opw P Γ o K σ) :
  o.wpIn (fen c.rd) 0 P a w (fun a' w'=>∃σ',St c σ' a' w'/\K σ') Q:=by
 obtain⟨hd,hn,F,φ,h2,h3,h4⟩:=hst
 have hnd:∀d,o.op≠.defer d:=fun d e=>by unfold opw at h;rw[e]at h;simp only[isV,Bool.false_eq_true,if_false,eop]at h
 unfold opw at h
 split at h
 ·obtain⟨v,r,hrun,hv,hK⟩:=vop_sound h3 h4 h
  exact wp_value hnd hrun ⟨_,St.put hd hn h2 h3 h4 hv,hK⟩
 ·
  rename_i hiv
  clear hiv
  have does:∀s:Sem Value,Does P F φ w s (PutE o.dst K σ)->(execOp a.eval o)=(do pure (Next.value (← s)))->o.wpIn (fen c.rd) 0 P a w (fun a' w'=>∃σ',St c σ' a' w'/\K σ') Q:=by
   rintro s ⟨v,r,own',kl,F',φ',w',hrun,ha,hv,hK⟩ he
   refine wp_value hnd (r:=r) (w':=w') ?_ ⟨_,St.effect hd hn h2 h4 ha hv,hK⟩
   rw[he]
   simp only[Sem.run_bind,hrun,Result.andThen_ok,Sem.run_pure]
  have skips:∀s:Sem Unit,(∃v own' kl F' φ' w',s.run P w=.ok () w'/\After F φ w F' φ' own' w' kl/\v=.top/\PutE o.dst K σ v own' kl)->(execOp a.eval o)=(do s;pure .skip) ->
    o.wpIn (fen c.rd) 0 P a w (fun a' w'=>∃σ',St c σ' a' w'/\K σ') Q:=by
   rintro s ⟨v,own',kl,F',φ',w',hrun,ha,rfl,hK⟩ he
   refine wp_skip' hnd (w':=w') ?_ ⟨_,St.effect hd hn h2 h4 ha (by simp only[AV.R]),hK⟩
   rw[he]
   simp only[Sem.run_bind,hrun,Result.andThen_ok,Sem.run_pure]
  obtain⟨dst,op,ty,pos,after,guard⟩:=o
  simp only at h does skips hnd
  unfold eop at h
  split at h
  case h_1 e=>exact does _ (allocw_sound h3 h) rfl
  case h_2 e x=>exact does _ (boxw_sound h3 (ev_R h3.glob h4 x) h) rfl
  case h_3 t len parts =>
   exact does _ (buildSlicew_sound h3 (Rp_parts h3.glob h4 parts.toList) h) (exec_buildSlice _ _ _ _ _ _ _ _ _)
  case h_4 t x y=>exact skips _ (storew_sound h3 (ev_R h3.glob h4 x) (ev_R h3.glob h4 y) h) rfl
  case h_5 t=>exact does _ (makeMap_sound h3 h) rfl
  case h_6 t x y=>exact does _ (makeSlicew_sound h3 (ev_R h3.glob h4 x) (ev_R h3.glob h4 y) h) rfl
  case h_7 t m k x=>exact skips _ (mapUpdatew_sound h3 (ev_R h3.glob h4 m) (ev_R h3.glob h4 k) (ev_R h3.glob h4 x) h) rfl
  case h_8 t m k x=>exact skips _ (mapUpdatew_sound h3 (ev_R h3.glob h4 m) (ev_R h3.glob h4 k) (ev_R h3.glob h4 x) h) rfl
  case h_9 call =>
   obtain⟨callee,args,ts⟩:=call
   simp only at h does skips hnd
   unfold ecall at h
   split at h
   ·rename_i x y t t' e1 e2
    have e1:args=#[x,y]:=by rw[← Array.toArray_toList (xs:=args),e1]
    have e2:ts=#[t,t']:=by rw[← Array.toArray_toList (xs:=ts),e2]
    subst e1;subst e2
    refine does _ (appTw_sound (ty:=ty) h3 (ev_R h3.glob h4 x) (ev_R h3.glob h4 y) h) ?_
    simp only[execOp,resolve,pure_bind,invoke,builtin,List.map_toArray,List.map_cons,List.map_nil]
   ·rename_i x y t t' e1 e2
    have e1:args=#[x,y]:=by rw[← Array.toArray_toList (xs:=args),e1]
    have e2:ts=#[t,t']:=by rw[← Array.toArray_toList (xs:=ts),e2]
    subst e1;subst e2
    refine does _ (copyw_sound (sT:=t') (ty:=ty) h3 (ev_R h3.glob h4 x) (ev_R h3.glob h4 y) h) ?_
    simp only[execOp,resolve,pure_bind,invoke,builtin,List.map_toArray,List.map_cons,List.map_nil]
   ·rename_i x t e1 e2
    have e1:args=#[x]:=by rw[← Array.toArray_toList (xs:=args),e1]
    have e2:ts=#[t]:=by rw[← Array.toArray_toList (xs:=ts),e2]
    subst e1;subst e2
    refine does _ (clearw_sound (ty:=ty) h3 (ev_R h3.glob h4 x) h) ?_
    simp only[execOp,resolve,pure_bind,invoke,builtin,List.map_toArray,List.map_cons,List.map_nil]
   ·rename_i f
    unfold callw at h
    split at h
    ·rename_i g caps hf
     obtain⟨v,own',mv,hg,hK⟩:=h
     obtain⟨⟨fn,body,hfn,hbody,hname⟩,hcalls⟩:=hΓ g _ _ _ _ _ hg
     have hfR:=ev_R (F:=F) (φ:=φ) (w:=w) h3.glob h4 f
     rw[hf]at hfR
     simp only[AV.R]at hfR
     obtain⟨carr,hfe,hcaps⟩:=hfR
     have hargs:=Rs_map (F:=F) (φ:=φ) (w:=w) h3.glob h4 args.toList
     have hc':=hcalls F φ w _ h3 (AV.Rs_append hargs hcaps)
     have hrun:(execOp a.eval { dst:=dst,op:=.call { callee:=.value f,args:=args,argTypes:=ts },type:=ty,pos:=pos,after:=after,guard:=guard }).run P w=.ok (.enter g (args.toList.map a.eval++carr).toArray) w:=by
      have e:args.map a.eval++carr.toArray=(args.toList.map a.eval++carr).toArray:=by
       apply Array.ext'
       simp
      have hbn:fn.body.isNone=false:=by rw[hbody];rfl
      have hnm : (fn.name == "runtime.NumGoroutine") = false := by simpa using hname
      simp only[execOp,resolve,Deferred.ofValue,hfe,pure_bind,invoke,callFunc,Sem.run_bind,run_program,Result.andThen_ok,hfn,hnm,hbn,Bool.false_eq_true,if_false,Sem.run_pure,Array.empty_append,e]
     unfold Oper.wpIn
     refine⟨fun _ _=>trivial,?_⟩
     rw[Oper.semAt_eq _ _ _ hnd,hrun,Oper.uponIn_enter]
     refine⟨fun h=>Bool.noConfusion (show false=true from h),?_⟩
     have hci:CallsIn (fen c.rd) 0 P g (args.toList.map a.eval++carr).toArray w _:=(callsIn_wide (n:=0)).2 hc'
     refine hci.mono fun e w' hpost=>?_
     obtain⟨r,F',φ',rfl,ha,hv⟩:=hpost
     exact⟨_,St.effect hd hn h2 h4 ha hv,hK⟩
    ·exact h.elim
   ·exact h.elim
  case h_10=>exact h.elim
structure CExt (c c':Ctx):Prop where
 rd:c'.rd=c.rd
 n0:c'.n0=c.n0
 size:c.w0.heap.size<=c'.w0.heap.size
 since:∀mv F φ w,Since c' mv F φ w->Since c mv F φ w
 mks:∀d∈c'.ds,d∈c.ds∨∃b,d=markD b/\c.w0.heap.size<=b
theorem CExt.refl(c:Ctx):CExt c c:=⟨rfl,rfl,Nat.le_refl _,fun _ _ _ _ h=>h,fun d h=>.inl h⟩
theorem CExt.trans{c c' c'':Ctx}(h:CExt c c')(k:CExt c' c''):CExt c c'':=⟨k.rd.trans h.rd,k.n0.trans h.n0,Nat.le_trans h.size k.size,fun _ _ _ _ x=>h.since _ _ _ _ (k.since _ _ _ _ x),fun d hd=>by
 rcases k.mks d hd with h1|⟨b,h1,h2⟩
 ·exact h.mks d h1
 ·exact .inr ⟨b,h1,Nat.le_trans h.size h2⟩⟩
def lift(c:Ctx)(Q:Exit->S->Prop):Exit->Act->World->Prop:=fun e a w=>∃c' σ,CExt c c'/\St c' σ a w/\Q e σ
theorem lift_mk{c:Ctx}{Q:Exit->S->Prop}{e:Exit}{a:Act}{w:World}{σ:S}(h:St c σ a w)(hq:Q e σ):lift c Q e a w:=⟨c,σ,.refl c,h,hq⟩
theorem lift_ext{c c':Ctx}(hx:CExt c c'){Q:Exit->S->Prop}{e:Exit}{a:Act}{w:World}(h:lift c' Q e a w):lift c Q e a w:=by
 obtain⟨c2,σ,h1,h2,h3⟩:=h
 exact⟨c2,σ,hx.trans h1,h2,h3⟩
theorem St.skip{σ:S}{a:Act}{w:World}{dst:Option Tmp}(hst:St c σ a w):St c (σ.put dst (.tup [])) (a.put dst undef) w:=by
 obtain⟨hd,hn,F,φ,h2,h3,h4⟩:=hst
 exact St.put hd hn h2 h3 h4 (by simp only[AV.R,AV.Rs];exact⟨[],rfl,rfl⟩)
theorem opg_sound(hΓ:OkG P Γ){all:Array Oper}{o:Oper}{K:S->Prop}{σ:S}{a:Act}{w:World}{Q:Exit->Act->World->Prop}(hst:St c σ a w)(h:opg P Γ all o K σ) :
  (Region.wanted o (yielded all a.tmps)=true/\o.wpIn (fen c.rd) 0 P a w (fun a' w'=>∃σ',St c σ' a' w'/\K σ') Q)∨(Region.wanted o (yielded all a.tmps)=false/\∃σ',St c σ' (a.put o.dst undef) w/\K σ'):=by
 unfold opg at h
 split at h
 ·rename_i hg
  exact .inl ⟨by simp[Region.wanted,hg],opw_sound hΓ hst h⟩
 ·rename_i j want hg
  split at h
  ·rename_i d hdst
   have hslot:=hst
   obtain⟨hd,hn,F,φ,h2,h3,h4⟩:=hslot
   have hv:=AV.Rs_get h4 d
   have hy:yielded all a.tmps j=(match a.tmps[d]? with|some (.bool b)=>some b|_=>none):=by
    simp only[yielded,hdst,Option.bind_some]
    rfl
   unfold grd at h
   split at h
   ·rename_i b hb
    rw[hb]at hv
    have e:=R_bool.1 hv
    have hget:a.tmps[d]?=some (.bool b):=by
     rw[← Array.getElem?_toList]
     cases hx:a.tmps.toList[d]? with
     | none=>simp[List.getD_eq_getElem?_getD,hx,undef]at e
     | some x=>simp[List.getD_eq_getElem?_getD,hx]at e;rw[e]
    rw[hget]at hy
    by_cases hbw:b=want
    ·exact .inl ⟨by simp[Region.wanted,hg,hy,hbw],opw_sound hΓ hst (h.1 hbw)⟩
    ·refine .inr ⟨by simp[Region.wanted,hg,hy,hbw],_,hst.skip,h.2 ?_⟩
     cases b <;> cases want <;> simp_all
   ·rename_i hb
    rw[hb]at hv
    simp only[AV.R,AV.Rs]at hv
    obtain⟨arr,e,rfl⟩:=hv
    have hget:(match a.tmps[d]? with|some (.bool b)=>some b|_=>none)=(none:Option Bool):=by
     rw[← Array.getElem?_toList]
     cases hx:a.tmps.toList[d]? with
     | none=>rfl
     | some x=>simp[List.getD_eq_getElem?_getD,hx]at e;rw[e]
    rw[hget]at hy
    exact .inr ⟨by simp[Region.wanted,hg,hy],_,hst.skip,h⟩
   ·exact h.elim
  ·exact h.elim
theorem awpOps_sound(hΓ:OkG P Γ){all:Array Oper}{Q:Exit->S->Prop}:∀(l:List Oper) (σ:S) (a:Act) (w:World),St c σ a w->awpOps P Γ all Q l σ->wpListIn (fen c.rd) 0 P all (lift c Q) l a w
 | [],σ,a,w,hst,h=>lift_mk hst h
 | o :: os,σ,a,w,hst,h=>by
  simp only[awpOps]at h
  unfold wpListIn
  rcases opg_sound hΓ (Q:=lift c Q) hst h with⟨hw,hwp⟩|⟨hw,σ',hst',hK⟩
  ·rw[if_pos hw]
   refine Oper.wpIn_mono ?_ hwp
   rintro a' w' ⟨σ',hst',hK⟩
   exact awpOps_sound hΓ os σ' a' w' hst' hK
  ·rw[if_neg (by simp[hw])]
   exact⟨fun _ _=>trivial,awpOps_sound hΓ os σ' _ w hst' hK⟩
end
end Go.AM

