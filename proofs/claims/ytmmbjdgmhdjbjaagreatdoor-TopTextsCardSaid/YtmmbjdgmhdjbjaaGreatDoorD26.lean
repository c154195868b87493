/- Own work over the model of the kit. -/
import Derived.Test.YtmmbjdgmhdjbjaaGreatDoorD25
import Derived.Test.YtmmbjdgmhdjbjaaGreatDoorD23
import Derived.Test.YtmmbjdgmhdjbjaaGreatDoorD13
import Derived.Test.YtmmbjdgmhdjbjaaGreatDoorD12
import Derived.Test.YtmmbjdgmhdjbjaaGreatDoorD10
import Derived.Test.YtmmbjdgmhdjbjaaGreatDoorD24
set_option linter.unnecessarySimpa false
set_option linter.unusedSimpArgs false
set_option linter.unusedVariables false
set_option maxHeartbeats 8000000
set_option maxRecDepth 8000
namespace Go.AM
open Go Go.Proofs
def lS(s:PSys)(us:List US)(f:Nat->AV)(cur:List D):List Obj:=[.box [.dat (.sl (some 3) (s.pools.map aK)),.dat (.sl none (bb s.locks)),.sl 1 0 s.classes.length,.dat (.sl (some 7) (us.map usD))],.tab 4 (bL (fun i=>AV.ren (emb [1,2,3] 4) (f i)) 0 s.classes),.row (some 4) cur]
theorem jf(g:Nat->Nat)(f:Nat->AV):∀(l:List PCls) (i:Nat),AV.rens g (bL f i l)=bL (fun i=>AV.ren g (f i)) i l
 | [],_=>rfl
 | c :: r,i=>by simp only[bL,AV.rens,AV.ren];rw[jf g f r (i+1)]
def WW(xs:List AV)(obs:List Obj)(v0:AV)(obs' ex:List Obj)(mv0:List Nat):Prop:=∃(s:PSys) (us:List US) (f:Nat->AV) (cur:List D) (u:US),(∀i,CellOk (f i))/\s.big/\1<=u.kind/\u.kind<=5 /\
 xs=[.ptr 0 0 0,.dat (usD u)]/\obs=lS s us f cur/\v0=.dat (.int .i64 (eM s u.kind u.name))/\obs'=lS s us f cur/\ex=[]/\mv0=[]
abbrev um:List (Nat×a8):=[(42,cr P2),(44,cr PT),(46,au zB)]
theorem rZ:OkG Tryz.prog (tbl um):=ai yT (ai zU (ai BL ae))
theorem aad:aQ (tbl um) [46]:=s5 (by
 intro g C h hg
 simp only[List.mem_singleton]at hg
 subst hg
 simp only[um,List.mem_cons,Prod.mk.injEq,List.not_mem_nil,or_false]at h
 rcases h with⟨h,_⟩|⟨h,_⟩|⟨_,h⟩
 ·simp at h
 ·simp at h
 ·exact⟨_,h⟩)
theorem Zx:iC (tbl um) [46]:=rC (by
 intro g C h hg
 simp only[List.mem_singleton]at hg
 subst hg
 simp only[um,List.mem_cons,Prod.mk.injEq,List.not_mem_nil,or_false]at h
 rcases h with⟨h,_⟩|⟨h,_⟩|⟨_,h⟩
 ·simp at h
 ·simp at h
 ·exact⟨_,h⟩)
theorem At:OkF Tryz.prog 20 (cr WW):=by
 refine c9 Tryz.func20 rfl (by decide) ?_
 rintro xs obs v0 obs' ex mv0 ⟨s,us,f,cur,u,hf,hbig,k1,k5,rfl,rfl,rfl,rfl,rfl,rfl⟩
 generalize hV:eM s u.kind u.name=V
 unfold eM at hV
 refine a6 (Γ:=tbl um) rZ _ _ _ ?_
 have hp:=hbig.np
 have hc:=hbig.nc
 have hl:=hbig.nl
 have under:∀x∈lS s us f cur,x.under 3:=fun x hx=>by
  simp only[lS,List.mem_cons,List.not_mem_nil,or_false]at hx
  rcases hx with rfl|rfl|rfl
  ·simp[Obj.under,AV.unders,AV.under]
  ·have key:∀(l:List PCls) (i:Nat),AV.unders 3 (bL (fun i=>AV.ren (emb [1,2,3] 4) (f i)) i l):=fun l=>by
    induction l with
    | nil=>intro i;simp only[bL,AV.unders]
    | cons c r ih =>
     intro i
     simp only[bL,AV.unders,AV.under,true_and]
     refine⟨?_,ih (i+1)⟩
     rcases hf i with h|⟨d,h⟩|⟨m,h⟩ <;> rw[h]
     ·trivial
     ·trivial
     ·show 2<3;decide
   exact key _ _
  ·trivial
 have fin:∀sl ex (v:Int),sl.getD 4 .top=.dat (.int .i64 v)->v=V->post Tryz.prog Tryz.f20 (.dat (.int .i64 V)) (lS s us f cur++[]) [] .ret ⟨sl,lS s us f cur++ex,3,[]⟩:=fun sl ex v h e=>by
  subst e
  refine aH (mv':=[]) (.inl rfl) [.tmp 4] rfl (fun _ h=>h) ?_
  simp only[go_sem,h,List.append_nil]
  exact gf (own:=lS s us f cur) (Nat.le_refl 3) (by simp only[AV.unders,AV.under];exact⟨trivial,trivial⟩) under
 have call1:∀(K:AV->List Obj->List Nat->Prop),K (.dat (.int .i64 (dF u.name 0 (s.pools.map fun p:PPool=>p.name)))) (lS s us f cur++[usB u 0]) [] ->
   eB (tbl um) (.fn 42 []) [.dat (.sl (some 3) (s.pools.map aK)),.fn 43 [.ptr 3 0 0]] (lS s us f cur++[usB u 0]) K:=fun K hK=>by
  refine⟨.dat (.int .i64 (dF u.name 0 (s.pools.map fun p:PPool=>p.name))),lS s us f cur++[usB u 0],[],⟨_,aI 0 rfl,[3],[.dat (.sl (some 3) (s.pools.map aK)),.fn 43 [.ptr 0 0 0]],[usB u 0],.dat (.int .i64 (dF u.name 0 (s.pools.map fun p:PPool=>p.name))),[usB u 0],[],[],by decide,by simp[lS],rfl,rfl,rfl,?_,?_,?_,⟨s.pools,u,0,by omega,rfl,rfl,rfl,rfl,rfl,rfl⟩,by simp only[AV.ren],?_,rfl⟩,hK⟩
  ·simp only[AV.unders,AV.under,true_and,and_true];decide
  ·simp only[List.mem_singleton,forall_eq];exact p9 u 0
  ·intro j hj
   obtain rfl:j=0:=by simp at hj;exact hj
   rfl
  ·simp only[List.map_nil,oH];rfl
 have call2:∀(K:AV->List Obj->List Nat->Prop),K (.dat (.int .i64 (dF u.name 0 (s.classes.map fun p:PCls=>p.name)))) (lS s us f cur++[usB u 0]) [] ->
   eB (tbl um) (.fn 44 []) [.sl 1 0 s.classes.length,.fn 45 [.ptr 3 0 0]] (lS s us f cur++[usB u 0]) K:=fun K hK=>by
  have hr:(Obj.tab 4 (bL f 0 s.classes)).ren (emb [1,2,3] 4)=.tab 4 (bL (fun i=>AV.ren (emb [1,2,3] 4) (f i)) 0 s.classes):=by simp only[Obj.ren,jf]
  refine⟨.dat (.int .i64 (dF u.name 0 (s.classes.map fun p:PCls=>p.name))),lS s us f cur++[usB u 0],[],⟨_,aI 1 rfl,[1,2,3],[.sl 0 0 s.classes.length,.fn 45 [.ptr 2 0 0]],[.tab 4 (bL f 0 s.classes),.row (some 4) cur,usB u 0],.dat (.int .i64 (dF u.name 0 (s.classes.map fun p:PCls=>p.name))),[.tab 4 (bL f 0 s.classes),.row (some 4) cur,usB u 0],[],[],by decide,by simp[lS],rfl,rfl,rfl,?_,?_,?_,⟨s.classes,f,u,0,cur,hf,by omega,rfl,rfl,rfl,rfl,rfl,rfl⟩,by simp only[AV.ren],?_,rfl⟩,hK⟩
  ·simp only[AV.unders,AV.under,true_and,and_true];decide
  ·intro x hx
   simp only[List.mem_cons,List.not_mem_nil,or_false]at hx
   rcases hx with rfl|rfl|rfl
   ·have key:∀(l:List PCls) (i:Nat),AV.unders 3 (bL f i l):=fun l=>by
     induction l with
     | nil=>intro i;simp only[bL,AV.unders]
     | cons c r ih =>
      intro i
      simp only[bL,AV.unders,AV.under,true_and]
      refine⟨?_,ih (i+1)⟩
      rcases hf i with h|⟨d,h⟩|⟨m,h⟩ <;> rw[h]
      ·trivial
      ·trivial
      ·show 1<3;decide
    exact key _ _
   ·trivial
   ·simp[usB,Obj.under,AV.unders,AV.under]
  ·intro j hj
   have:j=0∨j=1∨j=2:=by simp at hj;omega
   rcases this with rfl|rfl|rfl
   ·exact congrArg some hr.symm
   ·rfl
   ·rfl
  ·have hl4:(lS s us f cur++[usB u 0]).length=4:=rfl
   simp only[List.map_nil,oH,List.map_cons,hl4,hr];rfl
 have hk:u.kind=1∨u.kind=2∨u.kind=3∨u.kind=4∨u.kind=5:=by omega
 have wrong:∀m:Nat,u.kind≠m->((u.kind:Int)=(m:Int))=False:=fun m h=>eq_false (by omega)
 obtain⟨cls,line,name,kind,cnt,deep⟩:=u
 simp only at *
 rcases hk with rfl|rfl|rfl|rfl|rfl
 ·simp only[go_sem,Tryz.ntmps20,lS,usD,Int.natCast_one,eq_self,decide_true]
  refine call1 _ ?_
  simp only[go_sem,lS,usB]
  exact fin _ [_] _ rfl hV
 ·simp only[go_sem,Tryz.ntmps20,lS,usD,Int.natCast_one,Int.cast_ofNat_Int,eq_self,decide_true,decide_false]
  refine call1 _ ?_
  simp only[go_sem,lS,usB]
  exact fin _ [_] _ rfl hV
 ·simp only[go_sem,Tryz.ntmps20,lS,usD,Int.natCast_one,Int.cast_ofNat_Int,eq_self,decide_true,decide_false]
  refine aX [] [] (pf:=[46]) (mf:=[]) mixed rZ aad Zx fQ (il [0,1,2,3,4,5,6,7,8]) (by kernel_rfl) ?_
  simp only[go_sem]
  refine ah zB (aI 2 rfl) [.sl none (bb s.locks),.str name] _ rfl ⟨s.locks,name,rfl,by omega,rfl⟩ (.inl rfl) ?_
  simp only[go_sem]
  exact fin _ [_] _ rfl hV
 ·simp only[go_sem,Tryz.ntmps20,lS,usD,Int.natCast_one,Int.cast_ofNat_Int,eq_self,decide_true,decide_false]
  refine aX [] [] (pf:=[46]) (mf:=[]) mixed rZ aad Zx fQ (il [0,1,2,3,4,5,6,7,8]) (by kernel_rfl) ?_
  simp only[go_sem]
  refine ah zB (aI 2 rfl) [.sl none (bb s.locks),.str name] _ rfl ⟨s.locks,name,rfl,by omega,rfl⟩ (.inl rfl) ?_
  simp only[go_sem]
  exact fin _ [_] _ rfl hV
 ·simp only[go_sem,Tryz.ntmps20,lS,usD,Int.natCast_one,Int.cast_ofNat_Int,eq_self,decide_true,decide_false]
  refine call2 _ ?_
  simp only[go_sem,lS,usB]
  exact fin _ [_] _ rfl hV
theorem lW(c:UInt8):∀s:Str,(aJ c s).length<=s.length+1/\∀x∈aJ c s,x.length<=s.length
 | []=>by simp[aJ]
 | b :: t=>by
  have ih:=lW c t
  rw[cT]
  by_cases h:b=c
  ·rw[if_pos h]
   refine⟨by simp only[List.length_cons];omega,fun x hx=>?_⟩
   rcases List.mem_cons.1 hx with rfl|hx
   ·simp
   ·have:=ih.2 x hx;simp only[List.length_cons];omega
  ·rw[if_neg h]
   cases hs:aJ c t with
   | nil=>exact absurd hs (p7 c t)
   | cons y r =>
    rw[hs]at ih
    simp only[List.length_cons]at ih ⊢
    refine⟨by omega,fun x hx=>?_⟩
    rcases List.mem_cons.1 hx with rfl|hx
    ·have:=ih.2 y (by simp);simp only[List.length_cons];omega
    ·have:=ih.2 x (by simp[hx]);omega
theorem A5(s:Str):(aU s).length<=s.length+1/\∀x∈aU s,x.length<=s.length/\x≠[]:=by
 have h:=lW 32 s
 refine⟨Nat.le_trans (List.length_filter_le _ _) h.1,fun x hx=>?_⟩
 obtain⟨h1,h2⟩:=List.mem_filter.1 hx
 exact⟨h.2 x h1,by simpa using h2⟩
theorem r7{s:List AV}{L:List Nat}(h:∀o∈L,AV.kills o s=s):∀kl,(∀o∈kl,o∈L)->killAll kl s=s
 | [],_=>rfl
 | o :: kl,hk=>by
  simp only[killAll]
  rw[h o (hk o (by simp))]
  exact r7 h kl fun k hk'=>hk k (by simp[hk'])
def jP(w:List Str)(i:Nat)(E:PSys×List US):Int×PSys×List US :=
 if bm (w.getD 0 [])=0 then (4,E) else if bm (w.getD 0 [])<=4 then ((gu w E.1).1,(gu w E.1).2,E.2) else ((mE w (i+1) E.1 E.2).1,E.1,(mE w (i+1) E.1 E.2).2)
structure RdOk (i:Nat) (E:PSys×List US):Prop where
 np:E.1.pools.length<=i
 nl:E.1.locks.length<=i
 nc:E.1.classes.length<=i
 nu:E.2.length<=i
 st:∀c∈E.1.classes,c.steps=[]
 us:∀u∈E.2,1<=u.kind/\u.kind<=5/\u.cls<E.1.classes.length/\u.line<=i
 srt:E.2.Pairwise fun a b=>a.cls<=b.cls
theorem Mq(w:List Str):b7 w 0=false:=by simp[b7]
theorem te{w:List Str}(hsk:d6 w=false)(r:List PL)(i:Nat)(s:PSys)(us:List US) :
  fB (eP w :: r) i s us=if (jP w i (s,us)).1=0 then fB r (i+1) (jP w i (s,us)).2.1 (jP w i (s,us)).2.2 else .inl ((i+1:Nat),(jP w i (s,us)).1):=by
 have hk:=rx (w.getD 0 [])
 unfold eP jP
 rw[hsk]
 simp only[Bool.false_eq_true,if_false]
 generalize hK:bm (w.getD 0 [])=k at *
 by_cases h0:k=0
 ·subst h0
  unfold jl
  rw[Mq]
  simp[fB]
 rw[if_neg h0]
 rcases hk with hk|⟨h11,h15⟩
 ·simp only[hk,if_true]
  unfold jl gu
  rw[hK]
  cases hf:b7 w k with
  | false=>simp[fB]
  | true =>
   simp only[if_true,show k<10 by omega,fB,Bool.true_eq_false,if_false]
   by_cases hin:w.getD 1 []∈aB s
   ·simp only[hin,if_true];simp
   ·simp only[hin,if_false];simp
 ·simp only[show ¬k<=4 by omega,if_false]
  unfold jl mE
  rw[hK]
  cases hf:b7 w k with
  | false=>simp[fB]
  | true =>
   simp only[if_true,show ¬k<10 by omega,fB,Bool.true_eq_false,if_false,false_or]
   by_cases hc:s.classes.length=0
   ·simp only[hc,if_true];simp
   ·simp only[hc,if_false];simp
theorem yS{w:List Str}(hsk:d6 w=true)(r:List PL)(i:Nat)(s:PSys)(us:List US):fB (eP w :: r) i s us=fB r (i+1) s us:=by
 unfold eP
 rw[hsk]
 rfl
theorem RdOk.more{i:Nat}{E:PSys×List US}(h:RdOk i E):RdOk (i+1) E :=
 ⟨Nat.le_succ_of_le h.np,Nat.le_succ_of_le h.nl,Nat.le_succ_of_le h.nc,Nat.le_succ_of_le h.nu,h.st,fun u hu=>⟨(h.us u hu).1,(h.us u hu).2.1,(h.us u hu).2.2.1,Nat.le_succ_of_le (h.us u hu).2.2.2⟩,h.srt⟩
theorem G8{s:PSys}{k:Nat}{x:Str}{a b:Int}:s.classes.length<=(ru s k x a b).classes.length/\(ru s k x a b).classes.length<=s.classes.length+1/\(ru s k x a b).pools.length<=s.pools.length+1/\(ru s k x a b).locks.length<=s.locks.length+1:=by
 unfold ru
 split
 ·simp
 split
 ·simp
 ·simp
theorem JO{s:PSys}{k:Nat}{x:Str}{a b:Int}(h:∀c∈s.classes,c.steps=[]):∀c∈(ru s k x a b).classes,c.steps=[]:=by
 unfold ru
 split
 ·exact h
 split
 ·exact h
 ·intro c hc
  simp only[List.mem_append,List.mem_singleton]at hc
  rcases hc with hc|rfl
  ·exact h c hc
  ·rfl
theorem RdOk.step{w:List Str}{i:Nat}{E:PSys×List US}(h:RdOk i E)(h0:(jP w i E).1=0):RdOk (i+1) (jP w i E).2:=by
 obtain⟨s,us⟩:=E
 have hk:=rx (w.getD 0 [])
 unfold jP at h0 ⊢
 generalize hK:bm (w.getD 0 [])=k at *
 by_cases hk0:k=0
 ·rw[if_pos hk0]at h0;cases h0
 rw[if_neg hk0]at h0 ⊢
 rcases hk with hk|⟨h11,h15⟩
 ·rw[if_pos hk]at h0 ⊢
  unfold gu at h0 ⊢
  rw[hK]at h0 ⊢
  by_cases hf:b7 w k=false
  ·rw[if_pos hf]at h0;cases h0
  rw[if_neg hf]at h0 ⊢
  by_cases hin:w.getD 1 []∈aB s
  ·simp only[if_pos hin]at h0;cases h0
  simp only[if_neg hin]at h0 ⊢
  generalize hs':ru s k _ _ _=s'
  have hc:s.classes.length<=s'.classes.length/\s'.classes.length<=s.classes.length+1/\s'.pools.length<=s.pools.length+1/\s'.locks.length<=s.locks.length+1:=by rw[← hs'];exact G8
  have hst:∀c∈s'.classes,c.steps=[]:=by rw[← hs'];exact JO h.st
  have h1:=h.np;have h2:=h.nl;have h3:=h.nc;have h4:=h.nu
  simp only at h1 h2 h3 h4
  exact⟨by simp only;omega,by simp only;omega,by simp only;omega,by simp only;omega,hst,fun u hu=>⟨(h.us u hu).1,(h.us u hu).2.1,Nat.lt_of_lt_of_le (h.us u hu).2.2.1 hc.1,Nat.le_succ_of_le (h.us u hu).2.2.2⟩,h.srt⟩
 ·rw[if_neg (by omega)]at h0 ⊢
  unfold mE at h0 ⊢
  rw[hK]at h0 ⊢
  by_cases hf:b7 w k=false∨s.classes.length=0
  ·simp only[if_pos hf]at h0;cases h0
  simp only[if_neg hf]at h0 ⊢
  have hc0:s.classes.length≠0:=fun e=>hf (.inr e)
  have h1:=h.np;have h2:=h.nl;have h3:=h.nc;have h4:=h.nu
  simp only at h1 h2 h3 h4
  refine⟨by simp only;omega,by simp only;omega,by simp only;omega,by simp only[List.length_append,List.length_cons,List.length_nil];omega,h.st,?_,?_⟩
  ·intro u hu
   rcases List.mem_append.1 hu with hu|hu
   ·exact⟨(h.us u hu).1,(h.us u hu).2.1,(h.us u hu).2.2.1,Nat.le_succ_of_le (h.us u hu).2.2.2⟩
   ·obtain rfl:=List.mem_singleton.1 hu
    refine⟨by show 1<=k - 10;omega,by show k - 10<=5;omega,by show s.classes.length - 1<s.classes.length;omega,by show i+1<=i+1;omega⟩
  ·rw[List.pairwise_append]
   refine⟨h.srt,List.pairwise_singleton _ _,fun a ha b hb=>?_⟩
   obtain rfl:=List.mem_singleton.1 hb
   have:=(h.us a ha).2.2.1
   simp only at this
   show a.cls<=s.classes.length - 1
   omega
theorem P1:RdOk 0 (sys0,[]):=⟨Nat.le_refl _,Nat.le_refl _,Nat.le_refl _,Nat.le_refl _,(fun c hc=>by cases hc),(fun u hu=>by cases hu),List.Pairwise.nil⟩
def jr{ε α:Type}(f:Str->ε->ε ⊕ α):List Str->ε->ε ⊕ α
 | [],E=>.inl E
 | p :: ps,E=>match f p E with
  | .inl E'=>jr f ps E'
  | .inr o=>.inr o
def yd{ε α β:Type}(h:α->β):ε ⊕ α->ε ⊕ β
 | .inl E=>.inl E
 | .inr a=>.inr (h a)
theorem oT{ε α:Type}(f:Str->ε->ε ⊕ α)(h:α->List Obj):∀(l:List Str) (E:ε),gh (fun x E=>yd h (f x E)) l E=yd h (jr f l E)
 | [],E=>rfl
 | p :: ps,E=>by
  simp only[gh,jr]
  cases hf:f p E with
  | inl E'=>exact oT f h ps E'
  | inr a=>rfl
theorem lH{ε α:Type}(f:Str->ε->ε ⊕ α)(J:List Str->ε->Prop)(hJ:∀E x ps E',J (x :: ps) E->f x E=.inl E'->J ps E'):∀(l:List Str) (E:ε) (a:α),J l E->jr f l E=.inr a->∃E' x ps,J (x :: ps) E'/\f x E'=.inr a
 | [],E,a,_,h=>by cases h
 | p :: ps,E,a,hj,h=>by
  simp only[jr]at h
  cases hf:f p E with
  | inl E'=>rw[hf]at h;exact lH f J hJ ps E' a (hJ E p ps E' hj hf) h
  | inr o =>
   rw[hf]at h
   cases h
   exact⟨E,p,ps,hj,hf⟩
theorem qw{ε α:Type}(f:Str->ε->ε ⊕ α)(J:List Str->ε->Prop)(hJ:∀E x ps E',J (x :: ps) E->f x E=.inl E'->J ps E'):∀(l:List Str) (E E':ε),J l E->jr f l E=.inl E'->J [] E'
 | [],E,E',hj,h=>by cases h;exact hj
 | p :: ps,E,E',hj,h=>by
  simp only[jr]at h
  cases hf:f p E with
  | inl E2=>rw[hf]at h;exact qw f J hJ ps E2 E' (hJ E p ps E2 hj hf) h
  | inr o=>rw[hf]at h;cases h
abbrev sqT(s:Str)(c:UInt8)(x:Obj):List Obj:=[.box [.dat (.str s)],.box [.dat (.str [c])],.box [.dat (.int .i64 0)],x]
def OJ{ε:Type}(pre:ε->List Obj)(M:List Nat)(s:Str)(c:UInt8):ε ⊕ (List Obj×Code)->Exit->S->Prop
 | .inl E'=>uo true (pre E'++sqT s c .dead) M none
 | .inr (O,jc)=>uo false (O++sqT s c .dead) M (some jc)
theorem yz(s:Str)(c:UInt8)(x:Obj)(o:Nat):(sqT s c x).map (Obj.killAll [o])=sqT s c (Obj.killAll [o] x):=by
 simp only[sqT,List.map_cons,List.map_nil,Obj.killAll,killAll,AV.kills,AV.kill]
theorem DI(A:List Obj)(s:Str)(c:UInt8)(x y:Obj):(A++sqT s c x).set (A.length+3) y=A++sqT s c y:=by
 rw[List.set_append_right _ _ (by omega)]
 simp[sqT]
theorem uk{l:List (Nat×a8)}(hΓ:OkG Tryz.prog (tbl l))(hm:(66,Fi)∈l){g:Operand}{p:Tmp}{assign body:Code}{Q:Exit->S->Prop}{sl:List AV}{own:List Obj}{n0:Nat}{mv0:List Nat}
  {ε:Type} (n:Nat) (c:UInt8) (s:Str) (pre:ε->List Obj) (E0:ε) (M:List Nat) (f:Str->ε->ε ⊕ (List Obj×Code)) (J:List Str->ε->Prop)
  (hg:ev sl g=.fn 66 [.ptr (n+1) 0 0,.ptr n 0 0,.ptr (n+2) 0 0]) (hs:s.length<=9000000000000000000)
  (yN:own=pre E0++[.box [.dat (.str s)],.box [.dat (.str [c])],.box [.dat (.int .i64 0)]])
  (dG:∀E,(pre E).length=n/\(pre E).map (Obj.killAll [n+3])=pre E)
  (hsl:∀kl:List Nat,(∀o∈kl,o∈M∨o=n+3)->killAll kl sl=sl)
  (hM:∀o∈M,o<n∨n+3<o)
  (hJ0:J (aJ c s) E0)
  (hJ:∀E x ps E',J (x :: ps) E->f x E=.inl E'->J ps E')
  (hO:∀E x ps O jc,J (x :: ps) E->f x E=.inr (O,jc)->O.length=n/\O.map (Obj.killAll [n+3])=O)
  (Qs:∀E s' x ps,J (x :: ps) E->sem Tryz.prog assign (fun e σ=>e=.normal/\σ.mv=[]/\sem Tryz.prog body (OJ pre M s' c (f x E)) σ) ⟨sl.set p (.dat (.str x)),pre E++sqT s' c .dead,n+4,[]⟩)
  (hQ:match jr f (aJ c s) E0 with
   | .inl E=>Q .normal ⟨sl,pre E++[.dead,.box [.dat (.str [c])],.box [.dat (.int .i64 0)],.dead],n0,bW n0 mv0 M⟩
   | .inr (O,jc)=>LW Q (some jc) ⟨sl,O++[.dead,.box [.dat (.str [c])],.box [.dat (.int .i64 0)],.dead],n0,bW n0 mv0 M⟩) :
  sem Tryz.prog (.rangeFunc g #[p] assign body) Q ⟨sl,own,n0,mv0⟩:=by
 refine BM hΓ hg ?_
 intro fn dfr
 have hlen:own.length=n+3:=by rw[yN];simp[(dG E0).1]
 simp only[hlen]
 let r:Loop:=lO fn dfr #[p] assign body
 have hr:lO fn dfr #[p] assign body=r:=rfl
 simp only[hr]
 have abR:∀kl:List Nat,(∀o∈kl,o∈M)->killAll kl sl=sl:=fun kl h=>hsl kl fun o ho=>.inl (h o ho)
 have aaw:killAll [n+3] sl=sl:=hsl _ fun o ho=>.inr (by simpa using ho)
 have abS:killAll M sl=sl:=abR M fun o h=>h
 have aax:killAll ((n+3) :: M) sl=sl:=hsl _ fun o ho=>by (rcases List.mem_cons.1 ho with h|h);exact .inr h;exact .inl h
 let W:ε->Str->List Obj:=fun E s=>pre E++sqT s c (.lp r sl)
 let h':List Obj×Code->List Obj:=fun a=>a.1++[.dead,.box [.dat (.str [c])],.box [.dat (.int .i64 0)],.lp { r with state:=.done,pending:=some a.2 } sl]
 have hW:∀E s,W E s=pre E++sqT s c (.lp r sl):=fun _ _=>rfl
 have nd:∀(A:List Obj) (s:Str) (x:Obj),A.length=n->(A++sqT s c x).set n .dead=A++[.dead,.box [.dat (.str [c])],.box [.dat (.int .i64 0)],x]:=fun A s x h=>by
  rw[List.set_append_right _ _ (by omega),h,Nat.sub_self]
  rfl
 have jt:∀(A B:List Obj) (k:Nat),A.length=n->(A++B).getD (n+k) .dead=B.getD k .dead:=fun A B k h=>by
  simp only[List.getD_eq_getElem?_getD]
  rw[List.getElem?_append_right (by omega),h,Nat.add_sub_cancel_left]
 have hit:IterW Tryz.prog n c W M (fun x E=>yd h' (f x E)) J:=by
  refine⟨fun E s=>jt _ _ 0 (dG E).1,fun E s=>jt _ _ 1 (dG E).1,fun E s=>jt _ _ 2 (dG E).1,fun E s s'=>?_,hM,fun E s' x ps hj=>?_⟩
  ·simp only[hW]
   rw[List.set_append_right _ _ (by have:=(dG E).1;omega),(dG E).1,Nat.sub_self]
   rfl
  ·have hE:=dG E
   have S5:((W E s').map (Obj.killAll [n+3])).set (n+3) .dead=pre E++sqT s' c .dead:=by
    rw[hW,List.map_append,hE.2,yz]
    have:=DI (pre E) s' c (Obj.killAll [n+3] (.lp r sl)) .dead
    rwa [hE.1]at this
   have hWl:(W E s').length=n+4:=by rw[hW,List.length_append,hE.1];rfl
   have hst:=Qs E s' x ps hj
   have key:∀b ownB pend,ownB.length=n->ownB.map (Obj.killAll [n+3])=ownB->OJ pre M s' c (f x E)=uo b (ownB++sqT s' c .dead) M pend ->
     xl Tryz.prog (n+3) r [.dat (.str x)] (W E s') b (ownB++sqT s' c (.lp (if b then r else { r with state:=.done,pending:=pend }) sl)) M:=by
    intro b ownB pend h1 h2 h3
    have h:=EL (P:=Tryz.prog) (o:=n+3) (r:=r) (cs:=sl) (args:=[.dat (.str x)]) (own:=W E s') (b:=b) (ownB:=ownB++sqT s' c .dead) (mvB:=M) (pend:=pend) (jt _ _ 3 hE.1) rfl rfl (by rw[List.length_append,h1];show n+3<n+4;omega) (by
     rw[S5,aaw,hWl]
     rw[h3]at hst
     exact hst)
    rw[abS,List.map_append,h2,yz]at h
    have e:=DI ownB s' c (Obj.killAll [n+3] .dead) (.lp (if b then r else { r with state:=.done,pending:=pend }) sl)
    rw[h1]at e
    rw[e]at h
    exact h
   cases hf:f x E with
   | inl E' =>
    refine⟨r,sl,true,W E' s',M,jt _ _ 3 hE.1,rfl,?_,fun o h=>h,rfl,rfl,hJ E x ps E' hj hf⟩
    have h:=key true (pre E') none (dG E').1 (dG E').2 (by rw[hf];rfl)
    exact h
   | inr a =>
    obtain⟨O,jc⟩:=a
    obtain⟨o1,o2⟩:=hO E x ps O jc hj hf
    refine⟨r,sl,false,O++sqT s' c (.lp { r with state:=.done,pending:=some jc } sl),M,jt _ _ 3 hE.1,rfl,?_,fun o h=>h,rfl,?_⟩
    ·exact key false O (some jc) o1 o2 (by rw[hf];rfl)
    ·exact nd O s' _ o1
 have hcall:tbl l 66 (.yld (n+3) :: [.ptr (n+1) 0 0,.ptr n 0 0,.ptr (n+2) 0 0]) (own++[.lp r sl]) (.tup []) (lV W n (gh (fun x E=>yd h' (f x E)) (aJ c s) E0)) M :=
  ⟨Fi,hm,n,c,ε,W,M,_,J,E0,s,hit,rfl,hs,by rw[yN,hW,List.append_assoc];rfl,hJ0,rfl,rfl,rfl⟩
 rw[oT]at hcall
 have hMn:n+3∉M:=fun h=>by have:=hM _ h;omega
 have fin:∀(A:List Obj) (x:Obj),A.length=n->A.map (Obj.killAll [n+3])=A->(((A++[.dead,.box [.dat (.str [c])],.box [.dat (.int .i64 0)],x]).map (Obj.killAll [n+3])).set (n+3) .dead)=A++[.dead,.box [.dat (.str [c])],.box [.dat (.int .i64 0)],.dead]:=fun A x h1 h2=>by
  rw[List.map_append,h2,List.set_append_right _ _ (by omega),h1,Nat.add_sub_cancel_left]
  simp only[List.map_cons,List.map_nil,Obj.killAll,killAll,AV.kills,AV.kill,List.set_cons_succ,List.set_cons_zero]
 cases hR:jr f (aJ c s) E0 with
 | inl E =>
  rw[hR]at hcall hQ
  have e:lV W n (.inl E)=pre E++[.dead,.box [.dat (.str [c])],.box [.dat (.int .i64 0)],.lp r sl]:=nd (pre E) [] _ (dG E).1
  replace hcall:tbl l _ _ _ _ (lV W n (.inl E)) M:=hcall
  rw[e]at hcall
  refine⟨.tup [],_,M,r,sl,hcall,jt _ _ 3 (dG E).1,(fun h=>by cases h),by simp[(dG E).1],hMn,?_⟩
  rw[fin _ _ (dG E).1 (dG E).2,aax]
  exact hQ
 | inr a =>
  obtain⟨O,jc⟩:=a
  obtain⟨E',x,ps,hj,hfx⟩:=lH f J hJ _ _ _ hJ0 hR
  obtain⟨o1,o2⟩:=hO E' x ps O jc hj hfx
  rw[hR]at hcall hQ
  replace hcall:tbl l _ _ _ _ (O++[.dead,.box [.dat (.str [c])],.box [.dat (.int .i64 0)],.lp { r with state:=.done,pending:=some jc } sl]) M:=hcall
  refine⟨.tup [],_,M,{ r with state:=.done,pending:=some jc },sl,hcall,jt _ _ 3 o1,(fun h=>by cases h),by simp[o1],hMn,?_⟩
  rw[fin _ _ o1 o2,aax]
  exact hQ
end Go.AM
namespace Go.AM
open Go
theorem zr{s:List AV}{own:List Obj}{n0:Nat}{mv:List Nat}(o j:Nat)(ag:Option Nat){k:Nat}{cs:List AV}(ho:own[o]?=some (.tab k cs))(hj:cs.getD j .top=.nils)(h0:n0<=own.length) :
  Le ⟨s,own,n0,mv⟩ ⟨s,own.set o (.tab k (cs.set j (.sl own.length 0 0)))++[.row ag []],n0,mv⟩:=by
 rintro c a w ⟨hd,hn,F,φ,h2,h3,h4⟩
 let L:Loc:=⟨true,0,0,0,es ag⟩
 have gM:=dO h3 L
 have h4':=AV.Rs_mono (fun _ h=>h) (Same.refl F w) gM _ _ h4
 have h5:=h3.new (L:=L) (obj:=Obj.row ag []) (Nat.le_refl _) (fun _ _=>rfl) (fun hn'=>by cases hn') (by simp only[ObjR];exact⟨rfl,.inl ⟨rfl,trivial⟩⟩)
 refine⟨hd,hn,F,ext φ own.length L,⟨h2.sub,h2.ext,fun o L' hlt hm h=>gM o L' (h2.keep o L' hlt hm h),h2.rest,fun o L' ho' hn'=>?_,h2.frsh⟩,?_,h4'⟩
 ·unfold ext at ho'
  split at ho'
  ·cases ho';cases hn'
  ·exact h2.orig o L' ho' hn'
 ·have pt:o<own.length:=by
   rcases Nat.lt_or_ge o own.length with h|h
   ·exact h
   ·rw[List.getElem?_eq_none h]at ho;cases ho
  refine⟨h5.fb,h5.live,h5.inj,fun o' obj ho'=>?_,fun o' ho'=>h5.out o' (by simpa using ho'),h5.glob⟩
  have dB:own.set o (.tab k (cs.set j (.sl own.length 0 0)))++[Obj.row ag []]=(own++[Obj.row ag []]).set o (Obj.tab k (cs.set j (.sl own.length 0 0))):=by rw[List.set_append_left _ _ pt]
  simp only at ho'
  rw[dB,List.getElem?_set]at ho'
  by_cases e:o=o'
  ·subst e
   simp only[if_true,List.length_append,List.length_cons,List.length_nil,show o<own.length+(0+1) by omega,Option.some.injEq]at ho'
   subst ho'
   have hr:=h5.rep o (.tab k cs) (by rw[List.getElem?_append_left pt];exact ho)
   cases hl:ext φ own.length L o with
   | none=>rw[hl]at hr;simp only[ObjR]at hr
   | some L' =>
    rw[hl]at hr
    simp only[ObjR]at hr ⊢
    obtain⟨q1,q2⟩:=hr
    refine⟨q1,?_⟩
    rcases q2 with⟨q2,rfl⟩|⟨q2,arr,ty,q3,q4,q5,vs,q6,q7⟩
    ·exact .inl ⟨q2,rfl⟩
    refine .inr ⟨q2,arr,ty,q3,q4,by simpa using q5,vs,?_,by simpa using q7⟩
    have jt:=AV.Rs_get (AV.Ra_iff.1 q6).1 j
    rw[hj]at jt
    have hv:=cR.1 jt
    have key:=AV.Ra_set q6 j (.sl own.length 0 0) (.slice none 0 0) rfl (by
     simp only[AV.R]
     exact⟨L,aM _ _ _,.inl ⟨rfl,by simp⟩⟩)
    have jM:vs.set j (.slice none 0 0)=vs:=by
     apply List.ext_getElem?
     intro k
     rw[List.getElem?_set]
     split
     ·rename_i hk
      subst hk
      split
      ·rename_i hlt
       rw[← hv]
       simp[List.getD_eq_getElem?_getD,List.getElem?_eq_getElem hlt]
      ·rename_i hge
       rw[List.getElem?_eq_none (by omega)]
     ·rfl
    rw[jM]at key
    exact key
  ·simp only[e,if_false]at ho'
   exact h5.rep o' obj ho'
def nd(x y:AV):Prop:=y=x∨(x=.nils/\∃ag,y=.dat (.sl ag []))
def nds:List AV->List AV->Prop
 | [],[]=>True
 | x :: xs,y :: ys=>nd x y/\nds xs ys
 | _,_=>False
theorem aaA{F:Nat->Prop}{φ:Nat->Option Loc}{w:World}{x y:AV}{v:Value}(h:nd x y)(hv:AV.R F φ w x v):AV.R F φ w y v:=by
 rcases h with rfl|⟨rfl,ag,rfl⟩
 ·exact hv
 ·exact Gl ag hv
theorem BU{F:Nat->Prop}{φ:Nat->Option Loc}{w:World}:∀{xs ys:List AV} {vs:List Value},nds xs ys->AV.Ra F φ w xs vs->AV.Ra F φ w ys vs
 | [],[],_,_,h=>h
 | x :: xs,y :: ys,vs,h,hv=>by
  simp only[AV.Ra]at hv ⊢
  obtain⟨u,us,e,h1,h2,h3⟩:=hv
  exact⟨u,us,e,h1,aaA h.1 h2,BU h.2 h3⟩
theorem BR:∀{xs ys:List AV},nds xs ys->ys.length=xs.length
 | [],[],_=>rfl
 | x :: xs,y :: ys,h=>by simp only[List.length_cons,BR h.2]
theorem Fj{s:List AV}{own:List Obj}{n0:Nat}{mv:List Nat}(o:Nat){k:Nat}{cs cs':List AV}(ho:own[o]?=some (.tab k cs))(h:nds cs cs'):Le ⟨s,own,n0,mv⟩ ⟨s,own.set o (.tab k cs'),n0,mv⟩:=by
 refine tC o ho ?_ (by intro F φ w h;simp only[ObjR]at h)
 intro F φ w L hr
 have hl:=BR h
 simp only[ObjR]at hr ⊢
 obtain⟨h1,h2⟩:=hr
 refine⟨h1,?_⟩
 rcases h2 with⟨h2,rfl⟩|⟨h2,arr,ty,h3,h4,h5,vs,h6,h7⟩
 ·exact .inl ⟨h2,List.length_eq_zero_iff.1 (by rw[hl];rfl)⟩
 ·exact .inr ⟨h2,arr,ty,h3,h4,by rw[hl];exact h5,vs,BU h h6,by rw[hl];exact h7⟩
theorem DU{F:Nat->Prop}{φ:Nat->Option Loc}{w:World}{v:Value}(a b c:Option Nat)(h:AV.R F φ w (.agg [.nils,.nils,.nils]) v):AV.R F φ w (.dat (.agg [.sl a [],.sl b [],.sl c []])) v:=by
 refine KZ (ds:=[.sl a [],.sl b [],.sl c []]) ?_
 simp only[AV.R]at h ⊢
 obtain⟨cs,e,h⟩:=h
 exact⟨cs,e,BU (xs:=[.nils,.nils,.nils]) ⟨.inr ⟨rfl,a,rfl⟩,.inr ⟨rfl,b,rfl⟩,.inr ⟨rfl,c,rfl⟩,trivial⟩ h⟩
theorem kG{vs:List AV}{own:List Obj}{n0:Nat}{mv:List Nat}(a b c:Option Nat):Le ⟨[.tup (.agg [.nils,.nils,.nils] :: vs)],own,n0,mv⟩ ⟨[.tup (.dat (.agg [.sl a [],.sl b [],.sl c []]) :: vs)],own,n0,mv⟩:=by
 rintro cx act w ⟨hd,hn,F,φ,h2,h3,h4⟩
 refine⟨hd,hn,F,φ,h2,h3,?_⟩
 simp only[AV.Rs,AV.R]at h4 ⊢
 obtain⟨v,us,e,⟨vs',rfl,h5⟩,h6⟩:=h4
 obtain⟨u,us2,e2,h7,h8⟩:=h5
 refine⟨_,us,e,⟨_,rfl,u,us2,e2,?_,h8⟩,h6⟩
 have:=DU (F:=F) (φ:=φ) (w:=w) (v:=u) a b c (by simpa only[AV.R] using h7)
 simpa only[AV.R] using this
end Go.AM
namespace Go.AM
open Go Go.Proofs
abbrev Pm(q:PSys×Int×Int):AV:=.tup [.dat (aY q.1),.dat (.int .i64 q.2.1),.dat (.int .i64 q.2.2)]
def yA(lines:Str->List Str)(ds:List D)(v:AV):Prop:=∃s:Str,ds=[.str s]/\s.length<=1000000/\v=Pm (pn lines s)
theorem tG(kl:List Nat):∀(l:List PCls) (i:Nat),killAll kl (bL (fun _=>.nils) i l)=bL (fun _=>.nils) i l:=by
 induction kl with
 | nil=>intro l i;rfl
 | cons o r ih=>intro l i;simp only[killAll,cH,ih]
theorem uh(g:Nat->Nat)(l:List PCls)(i:Nat):AV.rens g (bL (fun _=>.nils) i l)=bL (fun _=>.nils) i l:=by
 rw[jf];rfl
theorem uq(o:Nat)(ag:Option Nat)(xs:List D):∀(l:List PCls) (i:Nat),AV.frzs o ag xs (bL (fun _=>.nils) i l)=bL (fun _=>.nils) i l
 | [],_=>rfl
 | c :: r,i=>by simp only[bL,AV.frzs,AV.frz];rw[uq o ag xs r (i+1)]
@[go_sem] theorem MX {d:Tmp} {K:S->Prop} {s:List AV} {own own':List Obj} {n o p:Nat} {os m:List Nat} {v:AV}:gb (some d) K ⟨s,own,n,m⟩ v own' (o :: p :: os)=K ⟨(killAll (o :: p :: os) s).set d v,own',n,bW n m (o :: p :: os)⟩:=Eq.trans rfl rfl
attribute [go_sem] tG cH uh uq
def kr(E:Nat×PSys×List US):List Obj:=[.box [.nils,.nils,.nils],.box [.dat (.int .i64 0)],.box [.dat (.int .i64 0)],.box [.sl 5 0 E.2.1.pools.length,.sl 6 0 E.2.1.locks.length,.sl 7 0 E.2.1.classes.length,.sl 8 0 E.2.2.length],.box [.dat (.int .i64 E.1)],
 .row (some 3) (E.2.1.pools.map aK),.row none (bb E.2.1.locks),.tab 4 (bL (fun _=>.nils) 0 E.2.1.classes),.row (some 7) (E.2.2.map usD)]
def ml(E:Nat×PSys×List US)(e:Int):List Obj:=[.box [.nils,.nils,.nils],.box [.dat (.int .i64 E.1)],.box [.dat (.int .i64 e)],.box [.sl 5 0 E.2.1.pools.length,.sl 6 0 E.2.1.locks.length,.sl 7 0 E.2.1.classes.length,.sl 8 0 E.2.2.length],.box [.dat (.int .i64 E.1)],
 .row (some 3) (E.2.1.pools.map aK),.row none (bb E.2.1.locks),.tab 4 (bL (fun _=>.nils) 0 E.2.1.classes),.row (some 7) (E.2.2.map usD)]
theorem vP(o:Nat)(h:8<o)(E:Nat×PSys×List US):(kr E).map (Obj.killAll [o])=kr E:=by
 have h5:¬5=o:=by omega
 have h6:¬6=o:=by omega
 have h7:¬7=o:=by omega
 have h8:¬8=o:=by omega
 simp[kr,Obj.killAll,killAll,AV.kills,AV.kill,cH,h5,h6,h7,h8]
theorem wl(o:Nat)(h:8<o)(E:Nat×PSys×List US)(e:Int):(ml E e).map (Obj.killAll [o])=ml E e:=by
 have h5:¬5=o:=by omega
 have h6:¬6=o:=by omega
 have h7:¬7=o:=by omega
 have h8:¬8=o:=by omega
 simp[ml,Obj.killAll,killAll,AV.kills,AV.kill,cH,h5,h6,h7,h8]
def xY(x:Str)(E:Nat×PSys×List US):(Nat×PSys×List US) ⊕ (List Obj×Code) :=
 if d6 (aU x) then .inl (E.1+1,E.2) else if (jP (aU x) E.1 E.2).1=0 then .inl (E.1+1,(jP (aU x) E.1 E.2).2) else .inr (ml (E.1+1,(jP (aU x) E.1 E.2).2) (jP (aU x) E.1 E.2).1,.ret)
def NU(l:Str):PL:=eP (aU l)
structure PJ41 (R:(Int×Int) ⊕ (PSys×List US)) (ps:List Str) (E:Nat×PSys×List US):Prop where
 run:fB (ps.map NU) E.1 E.2.1 E.2.2=R
 len:∀x∈ps,x.length<=4000
 num:E.1+ps.length<=4001
 rd:RdOk E.1 E.2
theorem PJ41.next{R:(Int×Int) ⊕ (PSys×List US)}:∀E x ps E',PJ41 R (x :: ps) E->xY x E=.inl E'->PJ41 R ps E':=by
 rintro ⟨i,s,us⟩ x ps E' ⟨j1,j2,j3,j4⟩ hf
 simp only at j1 j2 j3 j4
 simp only[List.map_cons]at j1
 simp only[List.length_cons]at j3
 unfold xY at hf
 cases hsk:d6 (aU x) with
 | true =>
  rw[hsk,if_pos rfl]at hf
  cases hf
  unfold NU at j1
  rw[yS hsk]at j1
  exact⟨j1,fun y hy=>j2 y (by simp[hy]),by simp only;omega,j4.more⟩
 | false =>
  rw[hsk,if_neg (by decide)]at hf
  unfold NU at j1
  rw[te hsk]at j1
  by_cases h0:(jP (aU x) i (s,us)).1=0
  ·simp only[if_pos h0]at hf j1
   cases hf
   exact⟨j1,fun y hy=>j2 y (by simp[hy]),by simp only;omega,j4.step h0⟩
  ·simp only[if_neg h0]at hf
   cases hf
theorem tN{x:Str}{E:Nat×PSys×List US}(h:d6 (aU x)=true):xY x E=.inl (E.1+1,E.2):=by unfold xY;rw[h,if_pos rfl]
theorem Ar{x:Str}{E:Nat×PSys×List US}(h:d6 (aU x)=false)(h0:(jP (aU x) E.1 E.2).1=0):xY x E=.inl (E.1+1,(jP (aU x) E.1 E.2).2):=by unfold xY;rw[h,if_neg (by decide),if_pos h0]
theorem xN{x:Str}{E:Nat×PSys×List US}(h:d6 (aU x)=false)(h0:¬(jP (aU x) E.1 E.2).1=0):xY x E=.inr (ml (E.1+1,(jP (aU x) E.1 E.2).2) (jP (aU x) E.1 E.2).1,.ret):=by unfold xY;rw[h,if_neg (by decide),if_neg h0]
def Ca(ds:List D)(v:AV):Prop:=∃s:PSys,ds=[aY s]/\v=.dat (.int .i64 (aT s))
def Wd(ds:List D)(v:AV):Prop:=∃s:PSys,ds=[aY s]/\¬s.small/\v=.dat (.int .i64 (aT s))
theorem DW:OkF Tryz.prog 11 (au Wd):=by
 refine az Tryz.func11 rfl (by decide) ?_
 rintro ds v ⟨s,rfl,hf,rfl⟩
 generalize hv:aT s=V
 refine a6 (Γ:=tbl []) ae _ _ _ ?_
 have fin:∀s own (b c:Int),b=c->s.getD 2 .top=.dat (.int .i64 b)->post Tryz.prog Tryz.f11 (.dat (.int .i64 c)) [] [] .ret ⟨s,own,0,[]⟩:=fun s own b c e h=>by
  subst e
  exact am (.inl rfl) [2] rfl trivial (by simp only[cM,h];rfl)
 unfold aT at hv
 simp only[go_sem,Tryz.ntmps11,aY]
 by_cases h1:6<(s.pools.length:Int)
 ·simp only[go_sem,h1]
  rw[if_pos (.inl h1)]at hv
  exact fin _ _ _ _ hv (by rfl)
 by_cases h2:4<(s.locks.length:Int)
 ·simp only[go_sem,h1,h2]
  rw[if_pos (.inr (.inl h2))]at hv
  exact fin _ _ _ _ hv (by rfl)
 by_cases h3:6<(s.classes.length:Int)
 ·simp only[go_sem,h1,h2,h3]
  rw[if_pos (.inr (.inr h3))]at hv
  exact fin _ _ _ _ hv (by rfl)
 exact absurd ⟨by omega,by omega,by omega⟩ hf
theorem t6:OkF Tryz.prog 11 (au Ca):=by
 rintro args own v own' mv ⟨ds,h1,⟨s,rfl,rfl⟩,h2⟩
 by_cases hs:s.small
 ·exact iX args own _ own' mv ⟨_,h1,⟨s,rfl,⟨hs⟩,rfl⟩,h2⟩
 ·exact DW args own _ own' mv ⟨_,h1,⟨s,rfl,hs,rfl⟩,h2⟩
abbrev fz:List (Nat×a8):=[(16,fk sqR),(66,Fi),(17,fk (pb none Wz)),(18,cr zn),(19,cr wE),(20,z8 (cr WW)),(11,au Ca)]
theorem bc:OkG Tryz.prog (tbl fz):=ai wn (ai K4 (ai BA (ai wv (ai zW (ai (sF At) (ai t6 ae))))))
theorem Kp{w:Str}:(w=[112,111,111,108]/\bm w=1)∨(w=[109,117,116,101,120]/\bm w=2)∨(w=[99,108,97,115,115]/\bm w=3)∨(w=[115,101,114,118,101,114]/\bm w=4)∨(w=[116,97,107,101]/\bm w=11)∨(w=[103,105,118,101]/\bm w=12)∨(w=[108,111,99,107]/\bm w=13)∨(w=[117,110,108,111,99,107]/\bm w=14)∨(w=[99,97,108,108]/\bm w=15)∨(bm w=0/\¬w=[112,111,111,108]/\¬w=[109,117,116,101,120]/\¬w=[99,108,97,115,115]/\¬w=[115,101,114,118,101,114]/\¬w=[116,97,107,101]/\¬w=[103,105,118,101]/\¬w=[108,111,99,107]/\¬w=[117,110,108,111,99,107]/\¬w=[99,97,108,108]):=by
 by_cases h0:w=[112,111,111,108]
 ·exact .inl ⟨h0,by rw[h0];rfl⟩
 by_cases h1:w=[109,117,116,101,120]
 ·exact .inr (.inl ⟨h1,by rw[h1];rfl⟩)
 by_cases h2:w=[99,108,97,115,115]
 ·exact .inr (.inr (.inl ⟨h2,by rw[h2];rfl⟩))
 by_cases h3:w=[115,101,114,118,101,114]
 ·exact .inr (.inr (.inr (.inl ⟨h3,by rw[h3];rfl⟩)))
 by_cases h4:w=[116,97,107,101]
 ·exact .inr (.inr (.inr (.inr (.inl ⟨h4,by rw[h4];rfl⟩))))
 by_cases h5:w=[103,105,118,101]
 ·exact .inr (.inr (.inr (.inr (.inr (.inl ⟨h5,by rw[h5];rfl⟩)))))
 by_cases h6:w=[108,111,99,107]
 ·exact .inr (.inr (.inr (.inr (.inr (.inr (.inl ⟨h6,by rw[h6];rfl⟩))))))
 by_cases h7:w=[117,110,108,111,99,107]
 ·exact .inr (.inr (.inr (.inr (.inr (.inr (.inr (.inl ⟨h7,by rw[h7];rfl⟩)))))))
 by_cases h8:w=[99,97,108,108]
 ·exact .inr (.inr (.inr (.inr (.inr (.inr (.inr (.inr (.inl ⟨h8,by rw[h8];rfl⟩))))))))
 exact .inr (.inr (.inr (.inr (.inr (.inr (.inr (.inr (.inr (⟨by unfold bm;simp only[h0,h1,h2,h3,h4,h5,h6,h7,h8,if_false],h0,h1,h2,h3,h4,h5,h6,h7,h8⟩)))))))))
end Go.AM
namespace Go.AM
open Go Go.Proofs
theorem qW{x:Str}:∀(l:List Str) (a b:Nat),dF x a l=-1∨∃i:Nat,i<l.length/\dF x a l=((a+i:Nat):Int)/\dF x b l=((b+i:Nat):Int)
 | [],a,b=>.inl rfl
 | y :: r,a,b=>by
  rw[dF,dF]
  by_cases h:x=y
  ·rw[if_pos h,if_pos h];exact .inr ⟨0,by simp,by simp,by simp⟩
  ·rw[if_neg h,if_neg h]
   rcases qW r (a+1) (b+1) with h1|⟨i,h1,h2,h3⟩
   ·exact .inl h1
   ·exact .inr ⟨i+1,by simpa using h1,by rw[h2];congr 1;omega,by rw[h3];congr 1;omega⟩
theorem Cn{s:List AV}{own:List Obj}{n0:Nat}{mv:List Nat}(ag:Option Nat)(h0:n0<=own.length):Le ⟨s,own,n0,mv⟩ ⟨s,own++[.row ag []],n0,mv⟩:=by
 rintro c a w ⟨hd,hn,F,φ,h2,h3,h4⟩
 let L:Loc:=⟨true,0,0,0,es ag⟩
 have gM:=dO h3 L
 have h4':=AV.Rs_mono (fun _ h=>h) (Same.refl F w) gM _ _ h4
 have h5:=h3.new (L:=L) (obj:=Obj.row ag []) (Nat.le_refl _) (fun _ _=>rfl) (fun hn'=>by cases hn') (by simp only[ObjR];exact⟨rfl,.inl ⟨rfl,trivial⟩⟩)
 refine⟨hd,hn,F,ext φ own.length L,⟨h2.sub,h2.ext,fun o L' hlt hm h=>gM o L' (h2.keep o L' hlt hm h),h2.rest,fun o L' ho' hn'=>?_,h2.frsh⟩,h5,h4'⟩
 unfold ext at ho'
 split at ho'
 ·cases ho';cases hn'
 ·exact h2.orig o L' ho' hn'
def stp(s:PSys)(i:Nat):List PStep:=(s.classes.getD i default).steps
def e7(o:Nat)(s:PSys)(cur i:Nat):AV:=if i=cur then .sl o 0 (stp s cur).length else if stp s i=[] then .nils else .dat (bD (stp s i))
def uP(s:PSys)(i:Nat):AV:=if stp s i=[] then .nils else .dat (bD (stp s i))
theorem Fq(s:PSys)(cur i:Nat):CellOk (e7 1 s cur i):=by
 unfold e7
 split
 ·exact .inr (.inr ⟨_,rfl⟩)
 split
 ·exact .inl rfl
 ·exact .inr (.inl ⟨_,rfl⟩)
theorem ku(g:Nat->Nat)(o:Nat)(s:PSys)(cur i:Nat):AV.ren g (e7 o s cur i)=e7 (g o) s cur i:=by
 unfold e7
 split
 ·rfl
 split <;> rfl
theorem jz{o n:Nat}(h:o<n)(s:PSys)(cur i:Nat):(e7 o s cur i).under n:=by
 unfold e7
 split
 ·exact h
 split <;> trivial
theorem d8{f g:Nat->AV}:∀(l:List PCls) (i:Nat),(∀j,j<l.length->f (i+j)=g (i+j))->bL f i l=bL g i l
 | [],_,_=>rfl
 | c :: r,i,h=>by
  have h0:=h 0 (by simp)
  simp only[Nat.add_zero]at h0
  simp only[bL,h0]
  have ih:bL f (i+1) r=bL g (i+1) r:=by
   refine d8 r (i+1) fun j hj=>?_
   have h1:=h (j+1) (Nat.succ_lt_succ hj)
   rwa [show i+(j+1)=i+1+j by omega]at h1
  rw[ih]
theorem ue{f:Nat->AV}:∀(l l':List PCls) (i:Nat),l.map jC=l'.map jC->bL f i l=bL f i l'
 | [],[],_,_=>rfl
 | [],_ :: _,_,h=>by simp at h
 | _ :: _,[],_,h=>by simp at h
 | c :: r,d :: q,i,h=>by
  simp only[List.map_cons,List.cons.injEq,jC,PCls.mk.injEq]at h
  simp only[bL,h.1.1,h.1.2.1,h.1.2.2.1]
  rw[ue r q (i+1) h.2]
theorem nZ(o:Nat)(f:Nat->AV):∀(l:List PCls) (i:Nat),AV.kills o (bL f i l)=bL (fun i=>AV.kill o (f i)) i l
 | [],_=>rfl
 | c :: r,i=>by simp only[bL,AV.kills,AV.kill];rw[nZ o f r (i+1)]
theorem qS(o:Nat)(ag:Option Nat)(xs:List D)(f:Nat->AV):∀(l:List PCls) (i:Nat),AV.frzs o ag xs (bL f i l)=bL (fun i=>AV.frz o ag xs (f i)) i l
 | [],_=>rfl
 | c :: r,i=>by simp only[bL,AV.frzs,AV.frz];rw[qS o ag xs f r (i+1)]
theorem rU(f:Nat->AV)(x:AV):∀(l:List PCls) (i c:Nat),c<l.length->(bL f i l).set (c*4+3) x=bL (fun j=>if j=i+c then x else f j) i l
 | [],_,c,h=>by simp at h
 | a :: r,i,0,h=>by
  simp only[bL,Nat.zero_mul,Nat.zero_add,List.set_cons_succ,List.set_cons_zero,Nat.add_zero,if_true]
  congr 4
  exact d8 r (i+1) fun j hj=>by rw[if_neg (by omega)]
 | a :: r,i,c+1,h=>by
  simp only[List.length_cons]at h
  have e:(c+1)*4+3=(c*4+3)+1+1+1+1:=by omega
  simp only[bL,e,List.set_cons_succ]
  rw[rU f x r (i+1) c (by omega),if_neg (by omega)]
  congr 4
  exact d8 r (i+1) fun j hj=>by simp only[show (i+1+j=i+1+c)=(i+1+j=i+(c+1)) from by rw[show i+1+c=i+(c+1) by omega]]
theorem gR{f:Nat->AV}{n:Nat}(h:∀i,(f i).under n):∀(l:List PCls) (i:Nat),AV.unders n (bL f i l)
 | [],_=>by simp only[bL,AV.unders]
 | c :: r,i=>by simp only[bL,AV.unders,AV.under,true_and];exact⟨h i,gR h r (i+1)⟩
theorem uD(f:Nat->AV)(c:Nat)(l:List PCls)(h:c<l.length):(bL f 0 l).getD (c*4+3) .top=f c:=by
 obtain⟨x,q,hq⟩:∃x q,l.drop c=x :: q:=by
  cases hd:l.drop c with
  | nil=>have:=List.drop_eq_nil_iff.1 hd;omega
  | cons x q=>exact⟨x,q,rfl⟩
 have:=vX f l 0 c x q hq
 have h3:=congrArg (fun l=>l.getD 3 .top) this
 simp only[List.getD_cons_succ,List.getD_cons_zero,Nat.zero_add]at h3
 rw[← h3]
 simp only[List.getD_eq_getElem?_getD]
 rw[List.getElem?_take,if_pos (by decide),List.getElem?_drop]
theorem Lh{s:PSys}{i:Nat}(h:s.classes.length<=i):stp s i=[]:=by
 unfold stp
 rw[List.getD_eq_getElem?_getD,List.getElem?_eq_none h];rfl
theorem Dz(s:PSys)(c:Nat)(x:PStep):(vh s c x).classes.map jC=s.classes.map jC:=by
 unfold vh
 apply List.ext_getElem?
 intro i
 simp only[List.getElem?_map,List.getElem?_set]
 by_cases h:c=i
 ·subst h
  by_cases hl:c<s.classes.length
  ·simp only[hl,if_true,Option.map_some]
   rw[List.getElem?_eq_getElem hl,List.getD_eq_getElem?_getD,List.getElem?_eq_getElem hl]
   rfl
  ·rw[List.getElem?_eq_none (by omega)];simp[hl]
 ·simp only[h,if_false]
theorem fj(s:PSys)(c:Nat)(x:PStep)(h:c<s.classes.length)(i:Nat):stp (vh s c x) i=if i=c then stp s c++[x] else stp s i:=by
 unfold stp vh
 simp only
 rw[List.getD_eq_getElem?_getD,List.getElem?_set]
 by_cases e:c=i
 ·subst e
  simp only[if_true,h,Option.getD_some,Xt]
 ·rw[if_neg e,if_neg (fun h=>e (Eq.symm h)),List.getD_eq_getElem?_getD]
theorem yx(s:PSys)(c:Nat)(x:PStep):(vh s c x).classes.length=s.classes.length:=by simp[vh]
theorem m7(o:Nat)(s:PSys)(cur:Nat)(h:cur<s.classes.length->stp s cur≠[]) :
  AV.frzs o (some 4) ((stp s cur).map ar) (bL (e7 o s cur) 0 s.classes)=bL (uP s) 0 s.classes:=by
 rw[qS]
 refine d8 _ _ fun j hj=>?_
 rw[Nat.zero_add]
 unfold e7 uP
 by_cases e:j=cur
 ·subst e
  rw[if_pos rfl,if_neg (h hj)]
  simp only[AV.frz,if_true,List.drop_zero]
  rw[List.take_of_length_le (by simp),if_pos (by simp)]
  rfl
 ·rw[if_neg e]
  split <;> rfl
theorem DQ(o:Nat)(s:PSys)(c:Nat)(hc:c<s.classes.length)(h0:stp s c=[]):(bL (uP s) 0 s.classes).set (c*4+3) (.sl o 0 0)=bL (e7 o s c) 0 s.classes:=by
 rw[rU _ _ _ _ _ hc]
 refine d8 _ _ fun j hj=>?_
 rw[Nat.zero_add,Nat.zero_add]
 unfold e7 uP
 split
 ·rw[h0];rfl
 ·rfl
theorem CI(o:Nat)(s:PSys)(c:Nat)(x:PStep)(hc:c<s.classes.length) :
  (AV.kills o (bL (e7 o s c) 0 s.classes)).set (c*4+3) (.sl o 0 ((stp s c).length+1))=bL (e7 o (vh s c x) c) 0 (vh s c x).classes:=by
 rw[nZ,rU _ _ _ _ _ hc,ue (vh s c x).classes s.classes 0 (Dz s c x)]
 refine d8 _ _ fun j hj=>?_
 rw[Nat.zero_add,Nat.zero_add]
 unfold e7
 rw[fj s c x hc,fj s c x hc,if_pos rfl]
 by_cases e:j=c
 ·rw[if_pos e,if_pos e];simp
 ·rw[if_neg e,if_neg e,if_neg e,if_neg e]
  split <;> rfl
theorem vg(s:PSys):∀(l:List PCls) (i:Nat),(∀j,j<l.length->stp s (i+j)=(l.getD j default).steps)->nds (bL (uP s) i l) ((l.map HE).flatten.map .dat)
 | [],_,_=>trivial
 | c :: r,i,h=>by
  have h0:=h 0 (by simp)
  simp only[Nat.add_zero,List.getD_cons_zero]at h0
  simp only[bL,List.map_cons,List.flatten_cons,HE,List.cons_append,List.nil_append,nds]
  refine⟨.inl rfl,.inl rfl,.inl rfl,?_,vg s r (i+1) fun j hj=>by
   have h1:=h (j+1) (Nat.succ_lt_succ hj)
   rwa [show i+(j+1)=i+1+j by omega,List.getD_cons_succ]at h1⟩
  unfold uP
  rw[h0]
  split
  ·rename_i he
   exact .inr ⟨rfl,some 4,by rw[he];rfl⟩
  ·exact .inl rfl
theorem zG(s:PSys):nds (bL (uP s) 0 s.classes) ((s.classes.map HE).flatten.map .dat):=vg s s.classes 0 fun j hj=>by rw[Nat.zero_add];rfl
theorem HI(l:List PCls):(l.map HE).map D.agg=l.map bf:=by rw[List.map_map];rfl
structure P2J (S:PSys) (us:List US) (R:(Int×Int) ⊕ PSys) (k:Nat) (s:PSys) (cur:Nat):Prop where
 run:rr (us.drop k) s=R
 num:k<=us.length
 hp:s.pools=S.pools
 hl:s.locks=S.locks
 hc:s.classes.length=S.classes.length
 cls:∀u∈us.drop k,1<=u.kind/\u.kind<=5/\u.cls<S.classes.length/\(u.cls=cur∨stp s u.cls=[])/\(cur=S.classes.length∨cur<=u.cls)
 srt:(us.drop k).Pairwise fun a b=>a.cls<=b.cls
 ne:cur<S.classes.length->stp s cur≠[]
 len:(stp s cur).length<=k
theorem P2J.next{S:PSys}{us:List US}{R:(Int×Int) ⊕ PSys}{k:Nat}{s:PSys}{cur:Nat}{u:US}{q:List US}(h:P2J S us R k s cur)(hd:us.drop k=u :: q)(hf:¬eM s u.kind u.name<0)(hlen:(stp s u.cls).length<=k) :
  P2J S us R (k+1) (vh s u.cls (u.step (eM s u.kind u.name))) u.cls:=by
 have hd1:=aE hd
 have hlt:=ao hd
 obtain⟨h1,h2,h3,h4,h5,h6,h7,h8,h9⟩:=h
 rw[hd]at h1 h6 h7
 rw[rr,if_neg hf]at h1
 have hu:=h6 u (by simp)
 have hcl:u.cls<s.classes.length:=by rw[h5];exact hu.2.2.1
 obtain⟨hs1,hs2⟩:=List.pairwise_cons.1 h7
 refine⟨by rw[hd1];exact h1,by omega,h3,h4,(yx _ _ _).trans h5,?_,by rw[hd1];exact hs2,?_,?_⟩
 ·rw[hd1]
  intro v hv
  have h10:=h6 v (by simp[hv])
  have h11:=hs1 v hv
  refine⟨h10.1,h10.2.1,h10.2.2.1,?_,.inr h11⟩
  by_cases e:v.cls=u.cls
  ·exact .inl e
  ·refine .inr ?_
   rw[fj _ _ _ hcl,if_neg e]
   rcases h10.2.2.2.1 with e2|e2
   ·have:=hu.2.2.2.2;have:=h10.2.2.1;omega
   ·exact e2
 ·intro _
  rw[fj _ _ _ hcl,if_pos rfl]
  simp
 ·rw[fj _ _ _ hcl,if_pos rfl,List.length_append,List.length_cons,List.length_nil]
  omega
def Hv:List PL->Nat
 | []=>0
 | .decl k _ _ _ :: r=>(if 3<=k then 1 else 0)+Hv r
 | .skip :: r=>Hv r
 | .bad :: r=>Hv r
 | .use _ _ _ _ :: r=>Hv r
structure P3J (S:PSys) (L:List PL) (R:(Int×Int) ⊕ PSys) (i c:Nat) (s:PSys) (cur:Nat):Prop where
 run:df (L.drop i) i c s=R
 scn:∃dn,(dq (L.drop i) i dn c).2=0
 num:c+Hv (L.drop i)=S.classes.length
 hp:s.pools=S.pools
 hl:s.locks=S.locks
 hc:s.classes.length=S.classes.length
 out:∀j,j≠cur->c<=j+1->stp s j=[]
 ne:cur<S.classes.length->stp s cur≠[]
 cl:cur=S.classes.length∨cur+1<=c
 len:(stp s cur).length<=i
theorem P3J.skip{S:PSys}{L:List PL}{R:(Int×Int) ⊕ PSys}{i c:Nat}{s:PSys}{cur:Nat}{r:List PL}(h:P3J S L R i c s cur)(hd:L.drop i=.skip :: r):P3J S L R (i+1) c s cur:=by
 obtain⟨h1,⟨dn,h2⟩,h3,h4,h5,h6,h7,h8,h9,h10⟩:=h
 have hd1:=aE hd
 rw[hd]at h1 h2 h3
 simp only[df,dq,Hv]at h1 h2 h3
 exact⟨by rw[hd1];exact h1,⟨dn,by rw[hd1];exact h2⟩,by rw[hd1];exact h3,h4,h5,h6,h7,h8,h9,Nat.le_succ_of_le h10⟩
theorem P3J.decl{S:PSys}{L:List PL}{R:(Int×Int) ⊕ PSys}{i c:Nat}{s:PSys}{cur:Nat}{r:List PL}{k:Nat}{x:Str}{a b:Int}(h:P3J S L R i c s cur)(hd:L.drop i=.decl k x a b :: r):P3J S L R (i+1) (if 3<=k then c+1 else c) s cur:=by
 obtain⟨h1,⟨dn,h2⟩,h3,h4,h5,h6,h7,h8,h9,h10⟩:=h
 have hd1:=aE hd
 rw[hd]at h1 h2 h3
 simp only[df,dq,Hv]at h1 h2 h3
 split at h2
 ·simp at h2
 refine⟨by rw[hd1];exact h1,⟨_,by rw[hd1];exact h2⟩,?_,h4,h5,h6,?_,h8,?_,Nat.le_succ_of_le h10⟩
 ·rw[hd1,← h3];split <;> omega
 ·intro j hj hc
  refine h7 j hj ?_
  split at hc <;> omega
 ·rcases h9 with h9|h9
  ·exact .inl h9
  ·refine .inr ?_
   split <;> omega
theorem P3J.use0{S:PSys}{L:List PL}{R:(Int×Int) ⊕ PSys}{i c:Nat}{s:PSys}{cur:Nat}{r:List PL}{k:Nat}{n:Int}{d:Bool}{x:Str}(h:P3J S L R i c s cur)(hd:L.drop i=.use k n d x :: r) :
  1<=c/\c - 1<s.classes.length/\(c - 1=cur∨stp s (c - 1)=[])/\(stp s (c - 1)).length<=i:=by
 obtain⟨h1,⟨dn,h2⟩,h3,h4,h5,h6,h7,h8,h9,h10⟩:=h
 rw[hd]at h2 h3
 simp only[dq,Hv]at h2 h3
 split at h2
 ·simp at h2
 rename_i hc0
 have hc1:1<=c:=by omega
 have key:c - 1=cur∨stp s (c - 1)=[]:=by
  by_cases e:c - 1=cur
  ·exact .inl e
  ·exact .inr (h7 (c - 1) e (by omega))
 refine⟨hc1,by rw[h6];omega,key,?_⟩
 rcases key with e|e
 ·rw[e];exact h10
 ·rw[e];exact Nat.zero_le _
theorem P3J.use{S:PSys}{L:List PL}{R:(Int×Int) ⊕ PSys}{i c:Nat}{s:PSys}{cur:Nat}{r:List PL}{k:Nat}{n:Int}{d:Bool}{x:Str}(h:P3J S L R i c s cur)(hd:L.drop i=.use k n d x :: r)(hf:¬eM s k x<0) :
  P3J S L R (i+1) c (vh s (c - 1) ⟨k,eM s k x,n,d⟩) (c - 1):=by
 obtain⟨hc1,hlt,YB,hlen⟩:=h.use0 hd
 obtain⟨h1,⟨dn,h2⟩,h3,h4,h5,h6,h7,h8,h9,h10⟩:=h
 have hd1:=aE hd
 rw[hd]at h1 h2 h3
 simp only[df,dq,Hv]at h1 h2 h3
 rw[if_neg hf]at h1
 rw[if_neg (by omega)]at h2
 refine⟨by rw[hd1];exact h1,⟨_,by rw[hd1];exact h2⟩,by rw[hd1];exact h3,h4,h5,(yx _ _ _).trans h6,?_,?_,.inr (by omega),?_⟩
 ·intro j hj hc
  rw[fj _ _ _ hlt,if_neg hj]
  by_cases e:j=cur
  ·subst e
   rcases h9 with h9|h9
   ·exact Lh (by omega)
   ·omega
  ·exact h7 j e hc
 ·intro _
  rw[fj _ _ _ hlt,if_pos rfl];simp
 ·rw[fj _ _ _ hlt,if_pos rfl,List.length_append,List.length_cons,List.length_nil];omega
theorem P3J.bad{S:PSys}{L:List PL}{R:(Int×Int) ⊕ PSys}{i c:Nat}{s:PSys}{cur:Nat}{r:List PL}{k:Nat}{n:Int}{d:Bool}{x:Str}(h:P3J S L R i c s cur)(hd:L.drop i=.use k n d x :: r)(hf:eM s k x<0):R=.inl (((i+1:Nat):Int),5):=by
 have h1:=h.run
 rw[hd]at h1
 simp only[df]at h1
 rw[if_pos hf]at h1
 exact h1.symm
end Go.AM

