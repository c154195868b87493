/- Own work over the model of the kit. -/
import Derived.Test.YtmmbjdgmhdjbjaaGreatDoorD15
import Derived.Test.YtmmbjdgmhdjbjaaGreatDoorD10
import Derived.Test.YtmmbjdgmhdjbjaaGreatDoorD14
import Derived.Test.YtmmbjdgmhdjbjaaGreatDoorD13
set_option linter.unnecessarySimpa false
set_option linter.unusedSimpArgs false
set_option linter.unusedVariables false
set_option maxHeartbeats 4000000
set_option maxRecDepth 8000
namespace Go.AM
open Go Go.Proofs
structure Hold where
 units:List Int
 locks:List Bool
def uY(s:PSys):List PStep->Hold->Int×Hold
 | [],h=>(0,h)
 | x :: l,h=>if fe s h.units h.locks x≠0 then (fe s h.units h.locks x,⟨eL s h.units x,fq s h.locks x⟩) else uY s l ⟨eL s h.units x,fq s h.locks x⟩
def fZ(s:PSys):Hold:=⟨fO s.pools.length,ie s.locks.length⟩
def OP(h:Hold):Int:=if true∈h.locks∨∃n∈h.units,0<n then 11 else 0
def xi(r:Int×Hold):Int:=if r.1≠0 then r.1 else OP r.2
theorem yn(s:PSys)(h:Hold):xi (uY s [] h)=OP h:=by simp[xi,uY]
theorem jW{s:PSys}{h:Hold}{x:PStep}{l:List PStep}(he:¬fe s h.units h.locks x=0):xi (uY s (x :: l) h)=fe s h.units h.locks x:=by simp[xi,uY,he]
theorem rM{s:PSys}{h:Hold}{x:PStep}{l:List PStep}(he:fe s h.units h.locks x=0):xi (uY s (x :: l) h)=xi (uY s l ⟨eL s h.units x,fq s h.locks x⟩):=by simp[xi,uY,he]
def iq(s:PSys)(c:PCls):Int :=
 if c.workers<0∨4<c.workers then 2 else if (c.steps.length:Int)<1∨12<(c.steps.length:Int) then 9 else
 xi (uY s c.steps (fZ s))
theorem kp(s:PSys)(u:List Int)(x:PStep):(eL s u x).length=u.length:=by unfold eL;(repeat' split) <;> simp
theorem kJ(s:PSys)(u:List Bool)(x:PStep):(fq s u x).length=u.length:=by unfold fq;(repeat' split) <;> simp
def PSys.tame(s:PSys):Prop:=∀p∈s.pools,p.size<=1000
theorem tK{s:PSys}(h:s.tame)(i:Nat):(s.pools.getD i default).size<=1000:=by
 rw[List.getD_eq_getElem?_getD]
 cases e:s.pools[i]? with
 | none=>simp[instInhabitedPPool,default];decide
 | some p=>exact h _ (List.mem_of_getElem? e)
theorem og{s:PSys}{u:List Int}{x:PStep}{b:Int}(h:s.tame)(hb:∀n∈u,-b<=n/\n<=b)(hb0:0<=b):∀n∈eL s u x,-(b+1000)<=n/\n<=b+1000:=by
 have hg:∀i,-b<=u.getD i 0/\u.getD i 0<=b:=fun i=>by
  rw[List.getD_eq_getElem?_getD]
  cases e:u[i]? with
  | none=>simp;omega
  | some n=>exact hb _ (List.mem_of_getElem? e)
 have hg:=hg x.on.toNat
 have hs:=tK h x.on.toNat
 intro n hn
 unfold eL at hn
 have old:n∈u->-(b+1000)<=n/\n<=b+1000:=fun h=>by have:=hb _ h;omega
 split at hn
 ·exact old hn
 ·rename_i hp
  have hc:x.kind=1∨x.kind=2->1<=x.cnt/\x.cnt<=1000:=fun hk=>by
   unfold dd at hp
   by_cases h1:bj x=true
   ·rw[if_pos h1]at hp;simp at hp
   rw[if_neg h1]at hp
   split at hp
   ·simp at hp
   ·split at hp
    ·simp at hp
    ·rename_i h3;simp only[hk,true_and]at h3;omega
  split at hn
  ·rename_i hk
   rcases List.mem_or_eq_of_mem_set hn with h|h
   ·exact old h
   ·have:=hc (.inl hk);omega
  ·split at hn
   ·rename_i hk
    rcases List.mem_or_eq_of_mem_set hn with h|h
    ·exact old h
    ·have:=hc (.inr hk);omega
   ·exact old hn
def Dl(ds:List D)(v:AV):Prop:=∃(s:PSys) (c:PCls),ds=[aY s,bf c]/\s.small/\s.tame/\v=.dat (.int .i64 (iq s c))
abbrev LV:List (Nat×a8):=[(59,fk uG),(60,z8 (cr vd)),(61,au KT),(62,cr LH)]
theorem xP:OkG Tryz.prog (tbl LV):=ai xz (ai (sF y0) (ai Ma (ai JC ae)))
theorem rN:OkF Tryz.prog 33 (au Dl):=by
 refine az Tryz.func33 rfl (by decide) ?_
 rintro ds v ⟨s,c,rfl,hsm,htm,rfl⟩
 generalize hv:iq s c=V
 refine a6 (Γ:=tbl LV) xP _ _ _ ?_
 have fin:∀s own (b c:Int),b=c->s.getD 4 .top=.dat (.int .i64 b)->post Tryz.prog Tryz.f33 (.dat (.int .i64 c)) [] [] .ret ⟨s,own,0,[]⟩:=fun s own b c e h=>by
  subst e
  exact am (.inl rfl) [4] rfl trivial (by simp only[cM,h];rfl)
 obtain⟨name,workers,server,steps⟩:=c
 unfold iq at hv
 simp only at hv
 simp only[go_sem,Tryz.ntmps33,bf]
 by_cases h1:workers<0
 ·simp only[go_sem,h1]
  rw[if_pos (.inl h1)]at hv
  exact fin _ _ _ _ hv (by rfl)
 by_cases h2:4<workers
 ·simp only[go_sem,h1,h2]
  rw[if_pos (.inr h2)]at hv
  exact fin _ _ _ _ hv (by rfl)
 rw[if_neg (by omega)]at hv
 simp only[go_sem,h1,h2,bD]
 by_cases h3:(steps.length:Int)<1
 ·simp only[go_sem,h3]
  rw[if_pos (.inl h3)]at hv
  exact fin _ _ _ _ hv (by rfl)
 by_cases h4:12<(steps.length:Int)
 ·simp only[go_sem,h3,h4]
  rw[if_pos (.inr h4)]at hv
  exact fin _ _ _ _ hv (by rfl)
 rw[if_neg (by omega)]at hv
 simp only[go_sem,h3,h4,aY]
 refine co uG (by simp) _ _ _ rfl rfl ⟨s,rfl,hsm,rfl,rfl⟩ ?_
 simp only[go_sem,AV.shift,Obj.shift,AV.shifts]
 have hnp:(fZ s).units.length=s.pools.length:=by simp[fZ,fO]
 have hnl:(fZ s).locks.length=s.locks.length:=by simp[fZ,ie]
 refine ap (fun p:Nat×Hold=>⟨an 51 [(2,.ptr 0 0 0),(3,.ptr 1 0 0),(4,.dat (.int .i64 0)),(5,.ptr 4 0 0),(30,.dat (.sl (some 4) (steps.map ar))),(31,.dat (.int .i64 steps.length)),(32,.dat (.int .i64 p.1))],
   [.box [.dat (.sl (some 3) (s.pools.map aK)),.dat (.sl none (s.locks.map .str)),.dat (.sl (some 4) (s.classes.map bf))],.box [.dat (.str name),.dat (.int .i64 workers),.dat (.bool server),.dat (.sl (some 4) (steps.map ar))],
    .row none (aA p.2.units),.row none (b6 p.2.locks),.box [.sl 2 0 p.2.units.length,.sl 3 0 p.2.locks.length]],0,[]⟩)
  (fun p=>p.1<=steps.length/\p.2.units.length=s.pools.length/\p.2.locks.length=s.locks.length/\(∀n∈p.2.units,-(1000*(p.1:Int))<=n/\n<=1000*(p.1:Int)) /\
   xi (uY s (steps.drop p.1) p.2)=V) (fun p=>steps.length - p.1) (0,fZ s) ⟨Nat.zero_le _,hnp,hnl,by simp[fZ,fO],hv⟩ ?_ ?_
 ·simp only[hnp,hnl]
  exact a7 (by simp only[go_sem,Int.natCast_zero])
 ·rintro ⟨k,u,b⟩ ⟨hk,hu,hb,hbd,hI⟩
  simp only at hk hu hb hbd hI
  refine a6 (Γ:=tbl LV) xP _ _ _ ?_
  cases hd:steps.drop k with
  | nil =>
   have:=aj hd hk
   have hk2:¬(k:Int)<steps.length:=by omega
   simp only[go_sem,hk2]
   have hbn:b.length<4611686018427387904:=by have:=hsm.nl;omega
   have htk:List.take b.length (b6 b)=b6 b:=List.take_of_length_le (by simp)
   refine ah KT (by simp) [.sl none (b.map .bool),.bool true] _ (by simp[qX,AV.asD,htk]) ⟨b,true,rfl,hbn,rfl⟩ (.inr rfl) ?_
   simp only[go_sem]
   rw[hd,yn]at hI
   unfold OP at hI
   by_cases ht:true∈b
   ·have ht':decide (true∈b)=true:=decide_eq_true ht
    simp only[go_sem,ht']
    rw[if_pos (.inl ht)]at hI
    exact fin _ _ _ _ hI (by rfl)
   have ht':decide (true∈b)=false:=decide_eq_false ht
   simp only[go_sem,ht']
   have hun:u.length<=1000000:=by have:=hsm.np;omega
   refine bC LH (by simp) [2] ⟨u,hun,rfl,rfl,rfl,rfl,rfl,rfl⟩ (by decide) (by simp) rfl rfl rfl (by simp only[go_sem,AV.unders,AV.under]) (by simp only[List.mem_singleton,forall_eq];trivial) (fun j hj=>by
    obtain rfl:j=0:=by simp at hj;exact hj
    rfl) ?_
   simp only[go_sem]
   by_cases hp:∃n∈u,0<n
   ·simp only[go_sem,hp]
    rw[if_pos (.inr hp)]at hI
    exact fin _ _ _ _ hI (by rfl)
   ·simp only[go_sem,hp]
    rw[if_neg (by simp only[ht,hp,or_self,not_false_eq_true])]at hI
    exact fin _ _ _ _ hI (by rfl)
  | cons x q =>
   have hlt:=ao hd
   have hk2:(k:Int)<steps.length:=by omega
   have hk0:(0:Int)<=k:=Int.natCast_nonneg k
   have hn:=ak (f:=ar) hd
   rw[hd]at hI
   simp only[go_sem,hk2,hk0,hn,hlt,ar]
   refine l4 vd (by simp) [4,2,3] ⟨s,x,u,b,hu,hb,htm,fun n hn=>by have:=hbd n hn;omega,rfl,rfl,rfl,rfl,rfl,rfl⟩ (by decide) (by simp) rfl rfl rfl (by simp only[go_sem,AV.unders,AV.under]) ?_ ?_ ?_
   ·simp only[ii,List.mem_cons,List.mem_nil_iff,or_false,forall_eq_or_imp,forall_eq];exact⟨by simp only[Obj.under,AV.unders,AV.under];decide,trivial,trivial⟩
   ·intro j hj
    rcases j with _|_|_|j
    ·rfl
    ·rfl
    ·rfl
    ·simp at hj;omega
   simp only[go_sem]
   by_cases he:fe s u b x=0
   ·rw[rM he]at hI
    simp only[go_sem,he]
    refine⟨ac.2 (by omega),(k+1,⟨eL s u x,fq s b x⟩),⟨by omega,by simp only[kp,hu],by simp only[kJ,hb],fun n hn=>?_,by rw[aE hd];exact hI⟩,by omega,?_⟩
    ·have:=og htm (b:=1000*(k:Int)) hbd (by omega) n hn
     simp only
     omega
    ·simp only[ii,dv,emb,AV.ren,AV.rens,Obj.ren]
     refine aP (own:=[_,_,_,_,_]) (ex:=[_]) (Nat.zero_le _) ?_ ?_ ?_
     ·simp only[go_sem,Int.natCast_add,Int.cast_ofNat_Int]
     ·simp only[go_sem,kp,kJ]
     ·simp only[go_sem,Obj.under,AV.unders,AV.under]
      decide
   ·rw[jW he]at hI
    simp only[go_sem,he]
    exact fin _ _ _ _ hI (by rfl)
theorem dy{s:PSys}{x:PStep}(h:dd s x=0):(1<=x.kind/\x.kind<=5)/\(0<=x.on/\x.on<cD s x.kind)/\((x.kind=1∨x.kind=2)->1<=x.cnt/\x.cnt<=(s.pools.getD x.on.toNat default).size)/\(¬(x.kind=1∨x.kind=2)->x.cnt=0):=by
 unfold dd at h
 split at h
 ·simp at h
 rename_i hb
 split at h
 ·simp at h
 rename_i hm
 split at h
 ·simp at h
 rename_i hc
 simp only[bj,Bool.or_eq_true,Bool.and_eq_true,Bool.not_eq_true',decide_eq_true_eq,decide_eq_false_iff_not,not_or,not_and,Bool.not_eq_true]at hb
 refine⟨by omega,by omega,fun hk=>?_,fun hk=>?_⟩
 ·have:=fun h=>hc ⟨hk,h⟩
  constructor <;> (apply Classical.byContradiction;intro h;apply this;omega)
 ·have:=hb.1.2 ⟨fun h=>hk (.inl h),fun h=>hk (.inr h)⟩
  omega
def jp(s:PSys)(l:List PStep)(x:PStep):Bool :=
 if x.kind=1 then decide ((s.pools.getD x.on.toNat default).size<bal l x.on 0+x.cnt) else if x.kind=2 then decide (bal l x.on 0<x.cnt) else
 if x.kind=3 then decide (0<bal l x.on 1) else if x.kind=4 then decide (bal l x.on 1=0) else !(s.classes.getD x.on.toNat default).server
def Ye(s:PSys)(l:List PStep)(x:PStep):Int:=if dd s x≠0 then dd s x else if jp s l x=true then 11 else 0
structure Tr (s:PSys) (l:List PStep) (h:Hold):Prop where
 ul:h.units.length=s.pools.length
 ll:h.locks.length=s.locks.length
 un:∀i:Nat,i<s.pools.length->h.units.getD i 0=bal l i 0
 lo:∀i:Nat,i<s.locks.length->(h.locks.getD i false=true↔bal l i 1=1)/\(bal l i 1=0∨bal l i 1=1)
theorem J1(s:PSys):Tr s [] (fZ s):=by
 refine⟨by simp[fZ,fO],by simp[fZ,ie],fun i h=>?_,fun i h=>?_⟩
 ·simp[fZ,fO,bal,List.getElem?_replicate,h]
 ·simp[fZ,ie,bal,List.getElem?_replicate,h]
theorem j7{α:Type}{l:List α}{i j:Nat}{a d:α}:(l.set i a).getD j d=if i=j/\i<l.length then a else l.getD j d:=by
 rw[List.getD_eq_getElem?_getD,List.getElem?_set,List.getD_eq_getElem?_getD]
 by_cases h:i=j
 ·subst h
  by_cases h2:i<l.length
  ·simp[h2]
  ·simp[h2]
 ·simp[h]
theorem CP{s:PSys}{l:List PStep}{h:Hold}{x:PStep}(t:Tr s l h)(he:fe s h.units h.locks x=0):Tr s (l++[x]) ⟨eL s h.units x,fq s h.locks x⟩:=by
 obtain⟨ul,ll,un,lo⟩:=t
 have hp:dd s x=0:=by
  apply Classical.byContradiction;intro hn
  unfold fe at he;rw[if_pos hn]at he;exact hn he
 have hf:bq s h.units h.locks x=true:=by
  unfold fe at he;rw[if_neg (by rw[hp];decide)]at he
  apply Classical.byContradiction;intro hn;rw[if_neg hn]at he;simp at he
 obtain⟨⟨k1,k2⟩,⟨o1,o2⟩,hc,hc0⟩:=dy hp
 obtain⟨kind,on,cnt,deep⟩:=x
 simp only at *
 obtain⟨j,rfl⟩:∃j:Nat,on=j:=⟨on.toNat,by omega⟩
 have hpn:¬dd s ⟨kind,j,cnt,deep⟩≠0:=by rw[hp];decide
 refine⟨by rw[kp];exact ul,by rw[kJ];exact ll,fun i hi=>?_,fun i hi=>?_⟩
 ·have hu:=un i hi
  simp only[eL,if_neg hpn,Int.toNat_natCast]
  rw[i7]
  by_cases hij:(j:Int)=i
  ·obtain rfl:j=i:=by omega
   rw[← hu]
   have hk:kind=1∨kind=2∨kind=3∨kind=4∨kind=5:=by omega
   rcases hk with rfl|rfl|rfl|rfl|rfl <;> simp[eQ,j7,ul,hi]
  ·have Yx:¬j=i:=by omega
   have:eQ (i:Int) 0 (bal l i 0) ⟨kind,j,cnt,deep⟩=bal l i 0:=by simp[eQ,hij]
   rw[this,← hu]
   (repeat' split) <;> simp[j7,Yx]
 ·have hu:=lo i hi
  simp only[fq,if_neg hpn,Int.toNat_natCast]
  rw[i7]
  by_cases hij:(j:Int)=i
  ·obtain rfl:j=i:=by omega
   have hk:kind=1∨kind=2∨kind=3∨kind=4∨kind=5:=by omega
   rcases hk with rfl|rfl|rfl|rfl|rfl
   ·simpa [eQ] using hu
   ·simpa [eQ] using hu
   ·have hb:h.locks.getD j false=false:=by simpa [bq] using hf
    have h0:bal l j 1=0:=by
     rcases hu.2 with h|h
     ·exact h
     ·rw[hu.1.2 h]at hb;simp at hb
    simp[eQ,j7,ll,hi,h0]
   ·have hb:h.locks.getD j false=true:=by simpa [bq] using hf
    have h0:bal l j 1=1:=hu.1.1 hb
    simp[eQ,j7,ll,hi,h0]
   ·simpa [eQ] using hu
  ·have Yx:¬j=i:=by omega
   have:eQ (i:Int) 1 (bal l i 1) ⟨kind,j,cnt,deep⟩=bal l i 1:=by simp[eQ,hij]
   rw[this]
   (repeat' split) <;> simpa [j7,Yx] using hu
theorem aaI{s:PSys}{l:List PStep}{h:Hold}{x:PStep}(t:Tr s l h):Ye s l x=fe s h.units h.locks x:=by
 obtain⟨ul,ll,un,lo⟩:=t
 unfold Ye fe
 by_cases hp:dd s x=0
 ·have hpn:¬dd s x≠0:=by rw[hp];decide
  rw[if_neg hpn,if_neg hpn]
  obtain⟨⟨k1,k2⟩,⟨o1,o2⟩,hc,hc0⟩:=dy hp
  obtain⟨kind,on,cnt,deep⟩:=x
  simp only at *
  obtain⟨j,rfl⟩:∃j:Nat,on=j:=⟨on.toNat,by omega⟩
  have hk:kind=1∨kind=2∨kind=3∨kind=4∨kind=5:=by omega
  have aa1:∀p q:Bool,p=!q->(if p=true then (11:Int) else 0)=if q=true then 0 else 11:=by intro p q h;subst h;cases q <;> rfl
  apply aa1
  rcases hk with rfl|rfl|rfl|rfl|rfl
  ·simp only[cD]at o2;have hu:=un j (by simp at o2;omega)
   simp only[jp,bq,Int.toNat_natCast,hu,if_true]
   by_cases hh:(s.pools.getD j default).size<bal l j 0+cnt
   ·rw[decide_eq_true hh,decide_eq_false (by omega)];rfl
   ·rw[decide_eq_false hh,decide_eq_true (by omega)];rfl
  ·simp only[cD]at o2;have hu:=un j (by simp at o2;omega)
   simp only[jp,bq,Int.toNat_natCast,hu,if_true,Int.reduceEq,if_false]
   by_cases hh:bal l j 0<cnt
   ·rw[decide_eq_true hh,decide_eq_false (by omega)];rfl
   ·rw[decide_eq_false hh,decide_eq_true (by omega)];rfl
  ·simp only[cD]at o2;have hu:=lo j (by simp at o2;omega)
   simp only[jp,bq,Int.toNat_natCast,if_true,Int.reduceEq,if_false,Bool.not_not]
   cases hb:h.locks.getD j false with
   | true=>have:=hu.1.1 hb;rw[this];rfl
   | false =>
    rcases hu.2 with h0|h0
    ·rw[h0];rfl
    ·rw[hu.1.2 h0]at hb;simp at hb
  ·simp only[cD]at o2;have hu:=lo j (by simp at o2;omega)
   simp only[jp,bq,Int.toNat_natCast,if_true,Int.reduceEq,if_false,Bool.not_not]
   cases hb:h.locks.getD j false with
   | true=>have:=hu.1.1 hb;rw[this];rfl
   | false =>
    rcases hu.2 with h0|h0
    ·rw[h0];rfl
    ·rw[hu.1.2 h0]at hb;simp at hb
  ·simp[jp,bq]
 ·rw[if_pos hp,if_pos hp]
theorem Ap{s:PSys}{u:List Int}{b:List Bool}{x:PStep}(he:fe s u b x=0):dd s x=0:=by
 apply Classical.byContradiction;intro hn
 unfold fe at he;rw[if_pos hn]at he;exact hn he
theorem ye{s:PSys}{x:PStep}(ht:s.tame)(h:dd s x=0):-1000<=x.cnt/\x.cnt<=1000:=by
 obtain⟨_,_,hc,hc0⟩:=dy h
 by_cases hk:x.kind=1∨x.kind=2
 ·have:=tK ht x.on.toNat;have:=hc hk;omega
 ·have:=hc0 hk;omega
theorem Pr{s:PSys}{l:List PStep}{h:Hold}(t:Tr s l h):OP h=if (∃i:Nat,i<s.pools.length/\0<bal l i 0)∨(∃i:Nat,i<s.locks.length/\0<bal l i 1) then 11 else 0:=by
 obtain⟨ul,ll,un,lo⟩:=t
 unfold OP
 have e1:(∃n∈h.units,0<n)↔∃i:Nat,i<s.pools.length/\0<bal l i 0:=by
  constructor
  ·rintro ⟨n,hn,h0⟩
   obtain⟨i,hi,rfl⟩:=List.getElem_of_mem hn
   refine⟨i,by omega,?_⟩
   rw[← un i (by omega),List.getD_eq_getElem?_getD,List.getElem?_eq_getElem hi];exact h0
  ·rintro ⟨i,hi,h0⟩
   rw[← un i hi,List.getD_eq_getElem?_getD,List.getElem?_eq_getElem (by omega)]at h0
   exact⟨_,List.getElem_mem _,h0⟩
 have e2:true∈h.locks↔∃i:Nat,i<s.locks.length/\0<bal l i 1:=by
  constructor
  ·intro hm
   obtain⟨i,hi,h0⟩:=List.getElem_of_mem hm
   refine⟨i,by omega,?_⟩
   have:=(lo i (by omega)).1.1 (by rw[List.getD_eq_getElem?_getD,List.getElem?_eq_getElem hi];exact h0)
   omega
  ·rintro ⟨i,hi,h0⟩
   have h2:=lo i hi
   have:=h2.1.2 (by omega)
   rw[List.getD_eq_getElem?_getD,List.getElem?_eq_getElem (by omega)]at this
   simp only[Option.getD_some]at this
   exact this ▸ List.getElem_mem _
 have e3:(true∈h.locks∨∃n∈h.units,0<n)↔((∃i:Nat,i<s.pools.length/\0<bal l i 0)∨∃i:Nat,i<s.locks.length/\0<bal l i 1):=by rw[e1,e2,or_comm]
 by_cases hA:true∈h.locks∨∃n∈h.units,0<n
 ·rw[if_pos hA,if_pos (e3.1 hA)]
 ·rw[if_neg hA,if_neg (fun h=>hA (e3.2 h))]
def nz:List Str->List Str->Int
 | _,[]=>0
 | pre,x :: r=>if gg x=false then 3 else if x∈pre then 5 else nz (pre++[x]) r
def PPool.bad(p:PPool):Prop:=p.size<1∨8<p.size∨p.res<0∨p.size<p.res
instance (p:PPool):Decidable p.bad:=by unfold PPool.bad;exact inferInstance
def ma:List PPool->Int
 | []=>0
 | p :: r=>if p.bad then 2 else ma r
def oX(s:PSys):List PCls->Int
 | []=>0
 | c :: r=>if iq s c≠0 then iq s c else oX s r
def oC(a b:Int):Int:=if a≠0 then a else b
def aT(s:PSys):Int :=
 if 6<(s.pools.length:Int)∨4<(s.locks.length:Int)∨6<(s.classes.length:Int) then 9 else oC (nz [] (aB s)) (oC (ma s.pools) (oX s s.classes))
theorem DM{b:Int}:oC 0 b=b:=by simp[oC]
theorem CB{a b:Int}(h:a≠0):oC a b=a:=by simp[oC,h]
theorem sj:∀{l:List PPool},ma l=0->∀p∈l,¬p.bad
 | [],_,p,hp=>by simp at hp
 | q :: r,h,p,hp=>by
  simp only[ma]at h
  split at h
  ·simp at h
  ·rename_i hb
   rcases List.mem_cons.1 hp with rfl|hp
   ·exact hb
   ·exact sj h p hp
theorem kN{a b:Int}(h:oC a b=0):a=0/\b=0:=by
 unfold oC at h;split at h
 ·contradiction
 ·rename_i h2;exact⟨Classical.byContradiction h2,h⟩
structure PSys.fit (s:PSys):Prop where
 small:s.small
def iH(ds:List D)(v:AV):Prop:=∃s:PSys,ds=[aY s]/\s.fit/\v=.dat (.int .i64 (aT s))
abbrev Bo:List (Nat×a8):=[(30,au AW),(31,au jx),(32,au uU),(33,au Dl)]
theorem nf:OkG Tryz.prog (tbl Bo):=ai Gz (ai p8 (ai D8 (ai rN ae)))
theorem iX:OkF Tryz.prog 11 (au iH):=by
 refine az Tryz.func11 rfl (by decide) ?_
 rintro ds v ⟨s,rfl,hf,rfl⟩
 generalize hv:aT s=V
 refine a6 (Γ:=tbl Bo) nf _ _ _ ?_
 have fin:∀s own (b c:Int),b=c->s.getD 2 .top=.dat (.int .i64 b)->post Tryz.prog Tryz.f11 (.dat (.int .i64 c)) [] [] .ret ⟨s,own,0,[]⟩:=fun s own b c e h=>by
  subst e
  exact am (.inl rfl) [2] rfl trivial (by simp only[cM,h];rfl)
 have hsm:=hf.small
 unfold aT at hv
 simp only[go_sem,Tryz.ntmps11,aY]
 by_cases h1:6<(s.pools.length:Int)
 ·simp only[go_sem,h1]
  rw[if_pos (.inl h1)]at hv
  exact fin _ _ _ _ hv (by rfl)
 by_cases h2:4<(s.locks.length:Int)
 ·simp only[go_sem,h1,h2]
  rw[if_pos (.inr (.inl h2))]at hv
  exact fin _ _ _ _ hv (by rfl)
 by_cases h3:6<(s.classes.length:Int)
 ·simp only[go_sem,h1,h2,h3]
  rw[if_pos (.inr (.inr h3))]at hv
  exact fin _ _ _ _ hv (by rfl)
 rw[if_neg (by omega)]at hv
 simp only[go_sem,h1,h2,h3]
 refine ah AW (by simp) [aY s] _ rfl ⟨s,rfl,hsm,rfl⟩ (.inl rfl) ?_
 have hln:(aB s).length<=30:=by
  have:=hsm.np;have:=hsm.nl;have:=hsm.nc
  simp only[aB,List.length_append,List.length_map];omega
 generalize hN:aB s=N at *
 simp only[go_sem]
 refine ap (fun k:Nat=>⟨an 87 [(1,.ptr 0 0 0),(2,.dat (.int .i64 0)),(3,.dat (.sl none (N.map .str))),(29,.dat (.sl none (N.map .str))),(30,.dat (.int .i64 N.length)),(31,.dat (.int .i64 k))],
   [.box [.dat (.sl (some 3) (s.pools.map aK)),.dat (.sl none (s.locks.map .str)),.dat (.sl (some 4) (s.classes.map bf))]],0,[]⟩)
  (fun k=>k<=N.length/\oC (nz (N.take k) (N.drop k)) (oC (ma s.pools) (oX s s.classes))=V) (fun k=>N.length - k) 0 ⟨Nat.zero_le _,hv⟩ ?_ ?_
 ·exact a7 (by simp only[go_sem,Int.natCast_zero])
 ·rintro k ⟨hk,hI⟩
  refine a6 (Γ:=tbl Bo) nf _ _ _ ?_
  cases hd:N.drop k with
  | nil =>
   have:=aj hd hk
   have hk2:¬(k:Int)<N.length:=by omega
   rw[hd,nz,DM]at hI
   simp only[go_sem,hk2]
   refine ap (fun k:Nat=>⟨an 87 [(1,.ptr 0 0 0),(2,.dat (.int .i64 0)),(46,.dat (.sl (some 3) (s.pools.map aK))),(47,.dat (.int .i64 s.pools.length)),(48,.dat (.int .i64 k))],
     [.box [.dat (.sl (some 3) (s.pools.map aK)),.dat (.sl none (s.locks.map .str)),.dat (.sl (some 4) (s.classes.map bf))]],0,[]⟩)
    (fun k=>k<=s.pools.length/\(∀p∈s.pools.take k,¬p.bad)/\oC (ma (s.pools.drop k)) (oX s s.classes)=V) (fun k=>s.pools.length - k) 0 ⟨Nat.zero_le _,fun p hp=>by simp at hp,hI⟩ ?_ ?_
   ·exact a7 (by simp only[go_sem,Int.natCast_zero])
   ·rintro k ⟨hk,hG,hI⟩
    refine a6 (Γ:=tbl Bo) nf _ _ _ ?_
    cases hd:s.pools.drop k with
    | nil =>
     have:=aj hd hk
     have hk2:¬(k:Int)<s.pools.length:=by omega
     rw[hd,ma,DM]at hI
     rw[List.take_of_length_le (by omega)]at hG
     have htm:s.tame:=fun p hp=>by have:=hG p hp;unfold PPool.bad at this;omega
     simp only[go_sem,hk2]
     refine ap (fun k:Nat=>⟨an 87 [(1,.ptr 0 0 0),(2,.dat (.int .i64 0)),(74,.dat (.sl (some 4) (s.classes.map bf))),(75,.dat (.int .i64 s.classes.length)),(76,.dat (.int .i64 k))],
       [.box [.dat (.sl (some 3) (s.pools.map aK)),.dat (.sl none (s.locks.map .str)),.dat (.sl (some 4) (s.classes.map bf))]],0,[]⟩)
      (fun k=>k<=s.classes.length/\oX s (s.classes.drop k)=V) (fun k=>s.classes.length - k) 0 ⟨Nat.zero_le _,hI⟩ ?_ ?_
     ·exact a7 (by simp only[go_sem,Int.natCast_zero])
     ·rintro k ⟨hk,hI⟩
      refine a6 (Γ:=tbl Bo) nf _ _ _ ?_
      cases hd:s.classes.drop k with
      | nil =>
       have:=aj hd hk
       have hk2:¬(k:Int)<s.classes.length:=by omega
       rw[hd,oX]at hI
       simp only[go_sem,hk2]
       exact fin _ _ _ _ hI (by rfl)
      | cons c q =>
       have hlt:=ao hd
       have hk2:(k:Int)<s.classes.length:=by omega
       have hk0:(0:Int)<=k:=Int.natCast_nonneg k
       have hn:=ak (f:=bf) hd
       rw[hd,oX]at hI
       simp only[go_sem,hk2,hk0,hn,hlt,bf]
       refine ah Dl (by simp) [aY s,bf c] _ rfl ⟨s,c,rfl,hsm,htm,rfl⟩ (.inl rfl) ?_
       simp only[go_sem]
       by_cases he:iq s c=0
       ·rw[if_neg (by rw[he];decide)]at hI
        simp only[go_sem,he]
        refine⟨ac.2 (by omega),k+1,⟨by omega,by rw[aE hd];exact hI⟩,by omega,?_⟩
        refine aP (own:=[_]) (ex:=[_]) (Nat.zero_le _) ?_ ?_ ?_
        ·simp only[go_sem,Int.natCast_add,Int.cast_ofNat_Int]
        ·simp only[go_sem]
        ·simp only[go_sem,Obj.under,AV.unders,AV.under]
       ·rw[if_pos he]at hI
        simp only[go_sem,he]
        exact fin _ _ _ _ hI (by rfl)
    | cons p q =>
     have hlt:=ao hd
     have hk2:(k:Int)<s.pools.length:=by omega
     have hk0:(0:Int)<=k:=Int.natCast_nonneg k
     have hn:=ak (f:=aK) hd
     rw[hd,ma]at hI
     simp only[go_sem,hk2,hk0,hn,hlt,aK]
     by_cases b1:p.size<1
     ·simp only[go_sem,b1]
      rw[if_pos (.inl b1)]at hI
      exact fin _ _ _ _ hI (by rfl)
     by_cases b2:8<p.size
     ·simp only[go_sem,b1,b2]
      rw[if_pos (.inr (.inl b2))]at hI
      exact fin _ _ _ _ hI (by rfl)
     by_cases b3:p.res<0
     ·simp only[go_sem,b1,b2,b3]
      rw[if_pos (.inr (.inr (.inl b3)))]at hI
      exact fin _ _ _ _ hI (by rfl)
     by_cases b4:p.size<p.res
     ·simp only[go_sem,b1,b2,b3,b4]
      rw[if_pos (.inr (.inr (.inr b4)))]at hI
      exact fin _ _ _ _ hI (by rfl)
     have hb:¬p.bad:=by unfold PPool.bad;omega
     rw[if_neg hb]at hI
     simp only[go_sem,b1,b2,b3,b4]
     refine⟨ac.2 (by omega),k+1,⟨by omega,?_,by rw[aE hd];exact hI⟩,by omega,?_⟩
     ·rw[aC hd]
      intro y hy
      rcases List.mem_append.1 hy with h|h
      ·exact hG y h
      ·simp at h;subst h;exact hb
     ·refine aP (own:=[_]) (ex:=[_]) (Nat.zero_le _) ?_ ?_ ?_
      ·simp only[go_sem,Int.natCast_add,Int.cast_ofNat_Int]
      ·simp only[go_sem]
      ·simp only[go_sem,Obj.under,AV.unders,AV.under]
  | cons x q =>
   have hlt:=ao hd
   have hk2:(k:Int)<N.length:=by omega
   have hk0:(0:Int)<=k:=Int.natCast_nonneg k
   have hk3:(k:Int)<=N.length:=by omega
   have hn:=ak (f:=D.str) hd
   have dG:(N.take k).length<4611686018427387904:=by simp;omega
   have hmt:(N.map D.str).take k=(N.take k).map D.str:=by simp[List.map_take]
   rw[hd,nz]at hI
   simp only[go_sem,hk2,hk0,hn,hlt]
   refine ah jx (by simp) [.str x] _ rfl ⟨x,rfl,rfl⟩ (.inl rfl) ?_
   cases hb:gg x with
   | false =>
    simp only[go_sem,hb]
    rw[if_pos hb,CB (by decide)]at hI
    exact fin _ _ _ _ hI (by rfl)
   | true =>
    rw[if_neg (by rw[hb];decide)]at hI
    simp only[go_sem,hb,hk0,hk3,Int.toNat_natCast]
    refine ah uU (by simp) [.sl none ((N.take k).map .str),.str x] _ (by rw[← hmt];rfl) ⟨N.take k,x,rfl,dG,rfl⟩ (.inl rfl) ?_
    by_cases hm:x∈N.take k
    ·have hm':decide (x∈N.take k)=true:=decide_eq_true hm
     simp only[go_sem,hm']
     rw[if_pos hm,CB (by decide)]at hI
     exact fin _ _ _ _ hI (by rfl)
    ·have hm':decide (x∈N.take k)=false:=decide_eq_false hm
     simp only[go_sem,hm']
     rw[if_neg hm,← aC hd,← aE hd]at hI
     refine⟨ac.2 (by omega),k+1,⟨by omega,hI⟩,by omega,?_⟩
     exact a7 (by simp only[go_sem,Int.natCast_add,Int.cast_ofNat_Int])
abbrev jO(s:PSys):Obj:=.box [.dat (.sl (some 3) (s.pools.map aK)),.dat (.sl none (s.locks.map .str)),.dat (.sl (some 4) (s.classes.map bf))]
def ND(s:PSys):Bool:=!decide (10<(s.pools.length:Int)) && !decide (10<(s.locks.length:Int)) && !decide (10<(s.classes.length:Int)) && s.classes.all fun c=>!decide (20<(c.steps.length:Int))
def W7(ds:List D)(v:AV):Prop:=∃s:PSys,ds=[aY s]/\v=.dat (.bool (ND s))
theorem P7:OkF Tryz.prog 6 (au W7):=by
 refine az Tryz.func6 rfl (by decide) ?_
 rintro ds v ⟨s,rfl,rfl⟩
 generalize hv:ND s=V
 refine a6 (Γ:=tbl []) ae _ _ _ ?_
 have fin:∀s own (b c:Bool),b=c->s.getD 2 .top=.dat (.bool b)->post Tryz.prog Tryz.f6 (.dat (.bool c)) [] [] .ret ⟨s,own,0,[]⟩:=fun s own b c e h=>by
  subst e
  exact am (.inl rfl) [2] rfl trivial (by simp only[cM,h];rfl)
 unfold ND at hv
 simp only[go_sem,Tryz.ntmps6,aY]
 by_cases h1:10<(s.pools.length:Int)
 ·simp only[go_sem,h1]
  refine fin _ _ _ _ ?_ (by rfl)
  rw[← hv,decide_eq_true h1];rfl
 by_cases h2:10<(s.locks.length:Int)
 ·simp only[go_sem,h1,h2]
  refine fin _ _ _ _ ?_ (by rfl)
  rw[← hv,decide_eq_false h1,decide_eq_true h2];rfl
 by_cases h3:10<(s.classes.length:Int)
 ·simp only[go_sem,h1,h2,h3]
  refine fin _ _ _ _ ?_ (by rfl)
  rw[← hv,decide_eq_false h1,decide_eq_false h2,decide_eq_true h3];rfl
 rw[decide_eq_false h1,decide_eq_false h2,decide_eq_false h3]at hv
 simp only[Bool.not_false,Bool.true_and]at hv
 simp only[go_sem,h1,h2,h3]
 refine ap (fun k:Nat=>⟨an 35 [(1,.ptr 0 0 0),(2,.dat (.bool false)),(3,.dat (.int .i64 k))],[jO s],0,[]⟩)
  (fun k=>k<=s.classes.length/\((s.classes.drop k).all fun c=>!decide (20<(c.steps.length:Int)))=V) (fun k=>s.classes.length - k) 0 ⟨Nat.zero_le _,hv⟩ ?_ ?_
 ·exact a7 (by simp only[go_sem,Int.natCast_zero])
 ·rintro k ⟨hk,hI⟩
  refine a6 (Γ:=tbl []) ae _ _ _ ?_
  cases hd:s.classes.drop k with
  | nil =>
   have:=aj hd hk
   have hk2:¬(k:Int)<s.classes.length:=by omega
   rw[hd]at hI
   simp only[go_sem,hk2]
   exact fin _ _ _ _ hI (by rfl)
  | cons c q =>
   have hlt:=ao hd
   have hk2:(k:Int)<s.classes.length:=by omega
   have hk0:(0:Int)<=k:=Int.natCast_nonneg k
   have hn:=ak (f:=bf) hd
   rw[hd,List.all_cons]at hI
   simp only[go_sem,hk2,hk0,hn,hlt,bf,bD]
   by_cases he:20<(c.steps.length:Int)
   ·rw[decide_eq_true he]at hI
    simp only[go_sem,he]
    exact fin _ _ _ _ hI (by rfl)
   ·rw[decide_eq_false he,Bool.not_false,Bool.true_and]at hI
    simp only[go_sem,he]
    refine⟨ac.2 (by omega),k+1,⟨by omega,by rw[aE hd];exact hI⟩,by omega,?_⟩
    exact a7 (by simp only[go_sem,Int.natCast_add,Int.cast_ofNat_Int])
def gJ(pool:Int)(p:Int×Int)(x:PStep):Int×Int :=
 if x.on=pool then (if x.kind=1 then (p.1+x.cnt,if x.deep=true then p.2+x.cnt else p.2) else if x.kind=2 then (p.1 - x.cnt,p.2 - min p.2 x.cnt) else p) else p
def qb(pool:Int)(l:List PStep):Int×Int:=l.foldl (gJ pool) (0,0)
def IF(d:Bool)(p:Int×Int):Int:=if d=true then p.2 else p.1
def mxN(pool:Int)(d:Bool)(l:List PStep):Nat->Int
 | 0=>0
 | k+1=>max (mxN pool d l k) (IF d (qb pool (l.take (k+1))))
theorem uA(pool:Int)(l:List PStep)(x:PStep):qb pool (l++[x])=gJ pool (qb pool l) x:=by simp[qb]
theorem oP(pool:Int)(d:Bool)(l:List PStep):∀k,IF d (qb pool (l.take k))<=mxN pool d l k
 | 0=>by cases d <;> simp[IF,qb,mxN]
 | k+1=>by simp only[mxN];exact Int.le_max_right _ _
theorem EI{pool:Int}{p:Int×Int}{x:PStep}{b:Int}(hx:-1000<=x.cnt/\x.cnt<=1000)(h1:-b<=p.1/\p.1<=b)(h2:-b<=p.2/\p.2<=b)(hb:0<=b) :
  (-(b+1000)<=(gJ pool p x).1/\(gJ pool p x).1<=b+1000)/\(-(b+1000)<=(gJ pool p x).2/\(gJ pool p x).2<=b+1000):=by
 unfold gJ
 (repeat' split) <;> first|omega|(simp only;omega)
theorem vY(pool:Int){l:List PStep}(h:KG l):∀k:Nat,k<=l.length->(-(1000*(k:Int))<=(qb pool (l.take k)).1/\(qb pool (l.take k)).1<=1000*k)/\(-(1000*(k:Int))<=(qb pool (l.take k)).2/\(qb pool (l.take k)).2<=1000*k)
 | 0,_=>by simp[qb]
 | k+1,hk=>by
  obtain⟨h1,h2⟩:=vY pool h k (by omega)
  have hx:=h l[k] (List.getElem_mem _)
  rw[List.take_succ_eq_append_getElem (by omega),uA]
  have:=EI (pool:=pool) hx h1 h2 (by omega)
  omega
theorem xF(pool:Int)(d:Bool){l:List PStep}(h:KG l):∀k:Nat,k<=l.length->0<=mxN pool d l k/\mxN pool d l k<=1000*k
 | 0,_=>by simp[mxN]
 | k+1,hk=>by
  have h0:=xF pool d h k (by omega)
  have h1:=vY pool h (k+1) hk
  simp only[mxN]
  have h2:IF d (qb pool (l.take (k+1)))<=1000*((k+1:Nat):Int):=by
   unfold IF;split
   ·exact h1.2.2
   ·exact h1.1.2
  omega
abbrev UC(c:PCls):Obj:=.box [.dat (.str c.name),.dat (.int .i64 c.workers),.dat (.bool c.server),.dat (.sl (some 4) (c.steps.map ar))]
def AY(ds:List D)(v:AV):Prop:=∃(c:PCls) (pool:Int),ds=[bf c,.int .i64 pool]/\KG c.steps/\c.steps.length<=1000 /\
 v=.tup [.dat (.int .i64 (mxN pool false c.steps c.steps.length)),.dat (.int .i64 (mxN pool true c.steps c.steps.length))]
theorem Ke:OkF Tryz.prog 88 (au AY):=by
 refine az Tryz.func88 rfl (by decide) ?_
 rintro ds v ⟨c,pool,rfl,hT,hlen,rfl⟩
 refine a6 (Γ:=tbl []) ae _ _ _ ?_
 obtain⟨name,workers,server,l⟩:=c
 simp only at hT hlen
 simp only[go_sem,Tryz.ntmps88,bf,bD]
 refine ap (fun k:Nat=>⟨an 58 [(1,.dat (.int .i64 pool)),(2,.ptr 0 0 0),(4,.dat (.int .i64 0)),(5,.dat (.int .i64 0)),(6,.dat (.int .i64 (qb pool (l.take k)).1)),(7,.dat (.int .i64 (qb pool (l.take k)).2)),(8,.dat (.int .i64 (mxN pool false l k))),(9,.dat (.int .i64 (mxN pool true l k))),
   (13,.dat (.sl (some 4) (l.map ar))),(14,.dat (.int .i64 l.length)),(15,.dat (.int .i64 k))],[UC ⟨name,workers,server,l⟩],0,[]⟩)
  (fun k=>k<=l.length) (fun k=>l.length - k) 0 (Nat.zero_le _) ?_ ?_
 ·exact a7 (by simp only[go_sem,Int.natCast_zero,qb,List.foldl_nil,mxN])
 ·rintro k hk
  refine a6 (Γ:=tbl []) ae _ _ _ ?_
  cases hd:l.drop k with
  | nil =>
   have:=aj hd hk
   obtain rfl:k=l.length:=by omega
   have hk2:¬(l.length:Int)<l.length:=by omega
   simp only[go_sem,hk2]
   exact am (.inl rfl) [4,5] rfl (by simp[AV.under,AV.unders]) (by rfl)
  | cons x q =>
   have hlt:=ao hd
   have hk2:(k:Int)<l.length:=by omega
   have hk0:(0:Int)<=k:=Int.natCast_nonneg k
   have hn:=ak (f:=ar) hd
   have hx:=hT x (aN hd)
   have hgo:inR .i64 ((k:Int)+1):=ac.2 (by omega)
   have ho:=vY pool hT k hk
   have hm1:=xF pool false hT k hk
   have hm2:=xF pool true hT k hk
   have hl1:=oP pool false l k
   have hl2:=oP pool true l k
   have hs:qb pool (l.take (k+1))=gJ pool (qb pool (l.take k)) x:=by rw[aC hd,uA]
   have e1:mxN pool false l (k+1)=max (mxN pool false l k) (gJ pool (qb pool (l.take k)) x).1:=by simp only[mxN,hs,IF];rfl
   have e2:mxN pool true l (k+1)=max (mxN pool true l k) (gJ pool (qb pool (l.take k)) x).2:=by simp only[mxN,hs,IF];rfl
   simp only[IF,Bool.false_eq_true,if_false,if_true]at hl1 hl2
   generalize qb pool (l.take k)=p at *
   obtain⟨a,b⟩:=p
   generalize mxN pool false l k=M at *
   generalize mxN pool true l k=N at *
   simp only at ho hl1 hl2
   by_cases c0:x.on=pool
   ·have c0':decide (x.on=pool)=true:=decide_eq_true c0
    have c1:decide (x.on≠pool)=false:=decide_eq_false (fun h=>h c0)
    by_cases k1:x.kind=1
    ·cases hdp:x.deep with
     | true =>
      have hu:gJ pool (a,b) x=(a+x.cnt,b+x.cnt):=by simp[gJ,c0,k1,hdp]
      simp only[hu]at e1 e2 hs
      simp only[go_sem,Int.reduceEq,eq_self,hk2,hk0,hn,hlt,ar,c0,c0',k1,hdp]
      refine⟨ac.2 (by omega),ac.2 (by omega),hgo,k+1,by omega,by omega,?_⟩
      refine aP (own:=[_]) (ex:=[_]) (Nat.zero_le _) ?_ ?_ ?_
      ·simp only[go_sem,Int.natCast_add,Int.cast_ofNat_Int,hs,e1,e2]
      ·simp only[go_sem]
      ·simp only[go_sem,Obj.under,AV.unders,AV.under]
     | false =>
      have hu:gJ pool (a,b) x=(a+x.cnt,b):=by simp[gJ,c0,k1,hdp]
      simp only[hu]at e1 e2 hs
      simp only[go_sem,Int.reduceEq,eq_self,hk2,hk0,hn,hlt,ar,c0,c0',k1,hdp]
      refine⟨ac.2 (by omega),hgo,k+1,by omega,by omega,?_⟩
      refine aP (own:=[_]) (ex:=[_]) (Nat.zero_le _) ?_ ?_ ?_
      ·simp only[go_sem,Int.natCast_add,Int.cast_ofNat_Int,hs,e1,e2]
      ·simp only[go_sem]
      ·simp only[go_sem,Obj.under,AV.unders,AV.under]
    by_cases k2:x.kind=2
    ·have hu:gJ pool (a,b) x=(a - x.cnt,b - min b x.cnt):=by simp[gJ,c0,k2]
     simp only[hu]at e1 e2 hs
     simp only[go_sem,Int.reduceEq,eq_self,hk2,hk0,hn,hlt,ar,c0,c0',k1,k2]
     refine⟨ac.2 (by omega),ac.2 (by omega),hgo,k+1,by omega,by omega,?_⟩
     refine aP (own:=[_]) (ex:=[_]) (Nat.zero_le _) ?_ ?_ ?_
     ·simp only[go_sem,Int.natCast_add,Int.cast_ofNat_Int,hs,e1,e2]
     ·simp only[go_sem]
     ·simp only[go_sem,Obj.under,AV.unders,AV.under]
    ·have hu:gJ pool (a,b) x=(a,b):=by simp[gJ,c0,k1,k2]
     simp only[hu]at e1 e2 hs
     simp only[go_sem,Int.reduceEq,eq_self,hk2,hk0,hn,hlt,ar,c0,c0',k1,k2]
     refine⟨hgo,k+1,by omega,by omega,?_⟩
     refine aP (own:=[_]) (ex:=[_]) (Nat.zero_le _) ?_ ?_ ?_
     ·simp only[go_sem,Int.natCast_add,Int.cast_ofNat_Int,hs,e1,e2]
     ·simp only[go_sem]
     ·simp only[go_sem,Obj.under,AV.unders,AV.under]
   ·have c0':decide (x.on=pool)=false:=decide_eq_false c0
    have hu:gJ pool (a,b) x=(a,b):=by simp[gJ,c0]
    simp only[hu]at e1 e2 hs
    rw[Int.max_eq_left hl1]at e1
    rw[Int.max_eq_left hl2]at e2
    simp only[go_sem,Int.reduceEq,eq_self,hk2,hk0,hn,hlt,ar,c0,c0']
    refine⟨hgo,k+1,by omega,by omega,?_⟩
    refine aP (own:=[_]) (ex:=[_]) (Nat.zero_le _) ?_ ?_ ?_
    ·simp only[go_sem,Int.natCast_add,Int.cast_ofNat_Int,hs,e1,e2]
    ·simp only[go_sem]
    ·simp only[go_sem,Obj.under,AV.unders,AV.under]
structure PCls.good (s:PSys) (c:PCls):Prop where
 w0:0<=c.workers
 w4:c.workers<=4
 l1:1<=c.steps.length
 l12:c.steps.length<=12
 run:xi (uY s c.steps (fZ s))=0
 pre:∀x∈c.steps,dd s x=0
structure PSys.good (s:PSys):Prop where
 np:s.pools.length<=6
 nl:s.locks.length<=4
 nc:s.classes.length<=6
 pool:∀p∈s.pools,¬p.bad
 cls:∀c∈s.classes,c.good s
theorem xC{s:PSys}:∀{l:List PStep} {h:Hold},xi (uY s l h)=0->∀x∈l,dd s x=0
 | [],_,_,x,hx=>by simp at hx
 | y :: l,h,hv,x,hx=>by
  by_cases he:fe s h.units h.locks y=0
  ·rw[rM he]at hv
   rcases List.mem_cons.1 hx with rfl|hx
   ·exact Ap he
   ·exact xC hv x hx
  ·rw[jW he]at hv;exact absurd hv he
theorem vL{s:PSys}{c:PCls}(h:iq s c=0):c.good s:=by
 unfold iq at h
 split at h
 ·simp at h
 ·split at h
  ·simp at h
  ·exact⟨by omega,by omega,by omega,by omega,h,xC h⟩
theorem qe{s:PSys}:∀{l:List PCls},oX s l=0->∀c∈l,c.good s
 | [],_,c,hc=>by simp at hc
 | d :: r,h,c,hc=>by
  simp only[oX]at h
  split at h
  ·rename_i h2;exact absurd h h2
  ·rename_i h2
   have h2:iq s d=0:=Classical.byContradiction h2
   rcases List.mem_cons.1 hc with rfl|hc
   ·exact vL h2
   ·exact qe h c hc
theorem eJ{s:PSys}(h:aT s=0):s.good:=by
 unfold aT at h
 split at h
 ·simp at h
 ·obtain⟨h1,h2⟩:=kN h
  obtain⟨h2,h3⟩:=kN h2
  exact⟨by omega,by omega,by omega,sj h2,qe h3⟩
theorem PSys.good.small{s:PSys}(h:s.good):s.small:=⟨by have:=h.np;omega,by have:=h.nl;omega,by have:=h.nc;omega⟩
theorem PSys.good.tame{s:PSys}(h:s.good):s.tame:=fun p hp=>by have:=h.pool p hp;unfold PPool.bad at this;omega
theorem PCls.good.steps{s:PSys}{c:PCls}(h:c.good s)(hs:s.good):KG c.steps:=fun x hx=>ye hs.tame (h.pre x hx)
def Zo(pool:Int)(d:Bool)(a:Int)(c:PCls):Int:=a+c.workers*mxN pool d c.steps c.steps.length
def yg(pool:Int)(d:Bool)(l:List PCls):Int:=l.foldl (Zo pool d) 0
theorem o8(pool:Int)(d:Bool)(l:List PCls)(c:PCls):yg pool d (l++[c])=yg pool d l+c.workers*mxN pool d c.steps c.steps.length:=by simp[yg,Zo]
theorem WS{w m:Int}(h0:0<=w)(h4:w<=4)(hm:0<=m/\m<=12000):0<=w*m/\w*m<=48000:=by
 obtain rfl|rfl|rfl|rfl|rfl:w=0∨w=1∨w=2∨w=3∨w=4:=by omega
 all_goals omega
theorem Lw{s:PSys}{c:PCls}(hs:s.good)(h:c.good s)(pool:Int)(d:Bool):0<=mxN pool d c.steps c.steps.length/\mxN pool d c.steps c.steps.length<=12000:=by
 have:=xF pool d (h.steps hs) c.steps.length (Nat.le_refl _)
 have:=h.l12
 omega
theorem wF{s:PSys}(hs:s.good)(pool:Int)(d:Bool):∀k:Nat,k<=s.classes.length->0<=yg pool d (s.classes.take k)/\yg pool d (s.classes.take k)<=48000*k
 | 0,_=>by simp[yg]
 | k+1,hk=>by
  have h0:=wF hs pool d k (by omega)
  have hc:=hs.cls s.classes[k] (List.getElem_mem _)
  rw[List.take_succ_eq_append_getElem (by omega),o8]
  have:=WS hc.w0 hc.w4 (Lw hs hc pool d)
  omega
def sq(ds:List D)(v:AV):Prop:=∃(s:PSys) (pool:Int),ds=[aY s,.int .i64 pool]/\s.good/\v=.tup [.dat (.int .i64 (yg pool false s.classes)),.dat (.int .i64 (yg pool true s.classes))]
theorem BI:OkF Tryz.prog 71 (au sq):=by
 refine az Tryz.func71 rfl (by decide) ?_
 rintro ds v ⟨s,pool,rfl,hg,rfl⟩
 have hok:OkG Tryz.prog (tbl [(88,au AY)]):=ai Ke ae
 refine a6 (Γ:=tbl [(88,au AY)]) hok _ _ _ ?_
 have hnc:=hg.nc
 simp only[go_sem,Tryz.ntmps71,aY]
 refine ap (fun k:Nat=>⟨an 40 [(1,.dat (.int .i64 pool)),(2,.ptr 0 0 0),(4,.dat (.int .i64 0)),(5,.dat (.int .i64 0)),(6,.dat (.int .i64 (yg pool false (s.classes.take k)))),(7,.dat (.int .i64 (yg pool true (s.classes.take k)))),
   (13,.dat (.sl (some 4) (s.classes.map bf))),(14,.dat (.int .i64 s.classes.length)),(15,.dat (.int .i64 k))],[jO s],0,[]⟩)
  (fun k=>k<=s.classes.length) (fun k=>s.classes.length - k) 0 (Nat.zero_le _) ?_ ?_
 ·exact a7 (by simp only[go_sem,Int.natCast_zero,yg,List.foldl_nil])
 ·rintro k hk
  refine a6 (Γ:=tbl [(88,au AY)]) hok _ _ _ ?_
  cases hd:s.classes.drop k with
  | nil =>
   have:=aj hd hk
   obtain rfl:k=s.classes.length:=by omega
   have hk2:¬(s.classes.length:Int)<s.classes.length:=by omega
   simp only[go_sem,hk2,List.take_length]
   exact am (.inl rfl) [4,5] rfl (by simp[AV.under,AV.unders]) (by rfl)
  | cons c q =>
   have hlt:=ao hd
   have hk2:(k:Int)<s.classes.length:=by omega
   have hk0:(0:Int)<=k:=Int.natCast_nonneg k
   have hn:=ak (f:=bf) hd
   have hc:=hg.cls c (aN hd)
   have hgo:inR .i64 ((k:Int)+1):=ac.2 (by omega)
   have h1:=wF hg pool false k hk
   have h2:=wF hg pool true k hk
   have e1:=o8 pool false (s.classes.take k) c
   have e2:=o8 pool true (s.classes.take k) c
   rw[← aC hd]at e1 e2
   have w1:=WS hc.w0 hc.w4 (Lw hg hc pool false)
   have w2:=WS hc.w0 hc.w4 (Lw hg hc pool true)
   simp only[go_sem,hk2,hk0,hn,hlt,bf,bD]
   refine ah AY (by simp) [bf c,.int .i64 pool] _ rfl ⟨c,pool,rfl,hc.steps hg,by have:=hc.l12;omega,rfl⟩ (.inl rfl) ?_
   simp only[go_sem]
   refine⟨ac.2 (by omega),ac.2 (by omega),ac.2 (by omega),ac.2 (by omega),hgo,k+1,by omega,by omega,?_⟩
   refine aP (own:=[_]) (ex:=[_]) (Nat.zero_le _) ?_ ?_ ?_
   ·simp only[go_sem,Int.natCast_add,Int.cast_ofNat_Int,e1,e2]
   ·simp only[go_sem]
   ·simp only[go_sem,Obj.under,AV.unders,AV.under]
def Mm(s:PSys):Int:=if aT s≠0 then 0 else (s.pools.length:Int)+s.locks.length+s.classes.length
def VI(ds:List D)(v:AV):Prop:=∃s:PSys,ds=[aY s]/\s.fit/\v=.dat (.int .i64 (Mm s))
theorem uy:OkF Tryz.prog 24 (au VI):=by
 refine az Tryz.func24 rfl (by decide) ?_
 rintro ds v ⟨s,rfl,hf,rfl⟩
 refine a6 (Γ:=tbl [(11,au iH)]) (ai iX ae) _ _ _ ?_
 simp only[go_sem,Tryz.ntmps24,aY]
 refine ah iH (by simp) [aY s] _ rfl ⟨s,rfl,hf,rfl⟩ (.inl rfl) ?_
 have:=hf.small.np;have:=hf.small.nl;have:=hf.small.nc
 by_cases h:aT s=0
 ·have e:Mm s=(s.pools.length:Int)+s.locks.length+s.classes.length:=by unfold Mm;rw[if_neg (by rw[h];decide)]
  rw[e]
  simp only[go_sem,h]
  refine⟨ac.2 (by omega),ac.2 (by omega),?_⟩
  exact am (.inl rfl) [2] rfl trivial (by rfl)
 ·have e:Mm s=0:=by unfold Mm;rw[if_pos h]
  rw[e]
  simp only[go_sem,h]
  exact am (.inl rfl) [2] rfl trivial (by rfl)
theorem dS{l:List Int}:List.take l.length (aA l)=aA l:=List.take_of_length_le (by simp)
theorem bV{l:List Int}:(aA l).length=l.length:=by simp
theorem od{l:List Int}{n:Int}:aA l++[.int .i64 n]=aA (l++[n]):=by simp
structure PEdge where
 src:Int
 dst:Int
 cls:Int
 step:Int
deriving Inhabited,DecidableEq
def pN(e:PEdge):D:=.agg [.int .i64 e.src,.int .i64 e.dst,.int .i64 e.cls,.int .i64 e.step]
abbrev dW(l:List PEdge):List D:=l.map pN
theorem qK{l:List PEdge}:List.take l.length (dW l)=dW l:=List.take_of_length_le (by simp)
theorem cZ{l:List PEdge}:(dW l).length=l.length:=by simp
theorem yQ{l:List PEdge}{n:PEdge}:dW l++[pN n]=dW (l++[n]):=by simp
def PEdge.s(e:PEdge):Nat:=e.src.toNat
def PEdge.t(e:PEdge):Nat:=e.dst.toNat
abbrev Na(n:Nat):D:=.int .i64 (n:Int)
abbrev aF(l:List Nat):List D:=l.map Na
theorem ba{l:List Nat}:(aF l).length=l.length:=by simp
theorem cF{l:List Nat}:List.take l.length (aF l)=aF l:=List.take_of_length_le (by simp)
theorem jY{l:List Nat}{n:Nat}:aF l++[.int .i64 (n:Int)]=aF (l++[n]):=by simp
structure GOk (n:Nat) (l:List PEdge):Prop where
 n4:n<=4096
 len:l.length<=10000
 src:∀e∈l,e.src=(e.s:Int)/\e.s<n
 dst:∀e∈l,e.dst=(e.t:Int)/\e.t<n
abbrev eF(l:List PEdge):List (Nat×Nat):=l.map fun e=>(e.s,e.t)
def gE(n:Int)(l:List PEdge):Int :=
 if n<0∨4096<n then 2 else if (l.any fun e=>decide (e.src<0) || decide (n<=e.src) || decide (e.dst<0) || decide (n<=e.dst))=true then 1 else 0
theorem OM{n:Int}{l:List PEdge}(h:gE n l=0)(hl:l.length<=10000):∃k:Nat,n=k/\GOk k l:=by
 unfold gE at h
 split at h
 ·omega
 ·split at h
  ·omega
  ·rename_i h1 h2
   refine⟨n.toNat,by omega,by omega,hl,fun e he=>?_,fun e he=>?_⟩ <;>
   ·have:¬((decide (e.src<0) || decide (n<=e.src) || decide (e.dst<0) || decide (n<=e.dst))=true):=fun hh=>h2 (List.any_eq_true.2 ⟨e,he,hh⟩)
    simp only[Bool.or_eq_true,decide_eq_true_eq]at this
    simp only[PEdge.s,PEdge.t]
    omega
theorem X7{n:Nat}{l:List PEdge}(h:GOk n l):gE n l=0:=by
 unfold gE
 have:=h.n4
 rw[if_neg (by omega),if_neg]
 intro hh
 obtain⟨e,he,hh⟩:=List.any_eq_true.1 hh
 have h1:=h.src e he
 have h2:=h.dst e he
 simp only[Bool.or_eq_true,decide_eq_true_eq]at hh
 omega
structure PFr where
 c:Int
 a:Int
deriving Inhabited,DecidableEq
abbrev PSt:=List (List PFr)
def frD(f:PFr):D:=.agg [.int .i64 f.c,.int .i64 f.a]
abbrev ed(l:List PFr):List D:=l.map frD
def eY(l:List PFr):D:=.sl (some 2) (ed l)
abbrev aG(x:PSt):List D:=x.map eY
def stD(x:PSt):D:=.agg [.sl none (aG x)]
abbrev stO(x:PSt):Obj:=.box [.dat (.sl none (aG x))]
structure PStFit (x:PSt):Prop where
 len:x.length<=1000
 stk:∀l∈x,l.length<=1000
def wkC:Nat->List PCls->List Nat
 | _,[]=>[]
 | i,c :: r=>(if c.server=true then [] else List.replicate c.workers.toNat i)++wkC (i+1) r
def wkL(s:PSys):List Nat:=wkC 0 s.classes
abbrev aW(s:PSys)(f:PFr):PCls:=s.classes.getD f.c.toNat default
abbrev b8(s:PSys)(f:PFr):PStep:=(aW s f).steps.getD f.a.toNat default
def gn(s:PSys)(f:PFr):Bool:=decide (0<=f.c) && decide (f.c<s.classes.length) && decide (0<=f.a) && decide (f.a<(aW s f).steps.length)
def k6(s:PSys)(q f:PFr):Bool:=decide ((b8 s q).kind=5) && decide ((b8 s q).on=f.c)
def fmd(s:PSys):Option PFr->List PFr->Bool
 | _,[]=>true
 | p,f :: r=>gn s f && (match p with|none=>true|some q=>k6 s q f) && fmd s (some f) r
def dr(s:PSys)(l:List PFr)(c:Nat):Bool:=match l with
 | []=>false
 | f :: _=>decide (f.c=c) && fmd s none l
def f7(s:PSys):List (List PFr)->List Nat->Bool
 | _,[]=>true
 | l :: x,c :: w=>dr s l c && f7 s x w
 | [],_ :: _=>false
def frU(s:PSys)(i:Nat)(f:PFr):Int:=bal ((aW s f).steps.take f.a.toNat) i 0
def frL(s:PSys)(i:Nat)(f:PFr):Int:=bal ((aW s f).steps.take f.a.toNat) i 1
def frE(s:PSys)(i:Nat)(f:PFr):Int:=if f.c=i/\(aW s f).server=true then 1 else 0
def bP(g:PFr->Int)(L:List PFr):Int:=L.foldl (fun a f=>a+g f) 0
abbrev frames(x:PSt):List PFr:=x.flatten
def I6(s:PSys)(L:List PFr):List Int:=(List.range s.pools.length).map fun i=>bP (frU s i) L
def I3(s:PSys)(L:List PFr):List Int:=(List.range s.locks.length).map fun i=>bP (frL s i) L
def IX(s:PSys)(L:List PFr):List Int:=(List.range s.classes.length).map fun i=>bP (frE s i) L
theorem eu(g:PFr->Int)(L:List PFr)(f:PFr):bP g (L++[f])=bP g L+g f:=by simp[bP]
theorem k7(g:PFr->Int)(L M:List PFr):bP g (L++M)=bP g L+bP g M:=by
 have key:∀(M:List PFr) (a:Int),M.foldl (fun a f=>a+g f) a=a+M.foldl (fun a f=>a+g f) 0:=by
  intro M
  induction M with
  | nil=>intro a;simp
  | cons f M ih=>intro a;rw[List.foldl_cons,List.foldl_cons,ih,ih (0+g f)];omega
 unfold bP
 rw[List.foldl_append,key]
theorem bJ(g:PFr->Int)(f:PFr)(L:List PFr):bP g (f :: L)=g f+bP g L:=by
 have:=k7 g [f] L
 simpa [bP] using this
def FD(s:PSys)(x:PSt):Bool :=
 ((List.range s.pools.length).any fun i=>decide ((s.pools.getD i default).size<bP (frU s i) (frames x))) ||
 ((List.range s.classes.length).any fun i=>(s.classes.getD i default).server && decide ((s.classes.getD i default).workers<bP (frE s i) (frames x))) ||
 ((List.range s.locks.length).any fun i=>decide (1<bP (frL s i) (frames x)))
def OH(s:PSys)(x:PSt):Int :=
 if aT s≠0 then aT s else if (wkL s).length≠x.length then 3 else if f7 s x (wkL s)=false then 3 else if FD s x=true then 11 else 0
def me(l:List PFr):PFr:=l.getD (l.length - 1) default
def sY(s:PSys)(x:PSt)(w:Nat):PStep:=b8 s (me (x.getD w []))
def BB(s:PSys)(L:List PFr)(x:PStep):Bool :=
 if x.kind=1 then
  let left:=(s.pools.getD x.on.toNat default).size - bP (frU s x.on.toNat) L - x.cnt
  (x.deep && decide (0<=left)) || decide ((s.pools.getD x.on.toNat default).res<=left)
 else if x.kind=3 then decide (bP (frL s x.on.toNat) L=0)
 else if x.kind=5 then decide (bP (frE s x.on.toNat) L<(s.classes.getD x.on.toNat default).workers)
 else true
def eR(s:PSys)(x:PSt)(w:Nat):Bool:=BB s (frames x) (sY s x w)
def ik(s:PSys)(x:PSt):List Nat:=(List.range x.length).filter (eR s x)
def upR(s:PSys):List PFr->List PFr
 | []=>[]
 | f :: r=>if f.a+1<(aW s f).steps.length then ⟨f.c,f.a+1⟩ :: r else match r with
  | []=>[⟨f.c,0⟩]
  | g :: r'=>upR s (g :: r')
def pe(s:PSys)(l:List PFr):List PFr :=
 if (b8 s (me l)).kind=5 then l++[⟨(b8 s (me l)).on,0⟩] else (upR s l.reverse).reverse
def cS(s:PSys)(x:PSt)(w:Nat):PSt:=x.set w (pe s (x.getD w []))
def mF(s:PSys):PSt:=(wkL s).map fun c:Nat=>[⟨(c:Int),0⟩]
def Pt(s:PSys)(x:PSt)(w:Int):PSt×Int :=
 if OH s x≠0 then ([],OH s x) else if w<0∨(x.length:Int)<=w then ([],6) else if eR s x w.toNat=false then ([],11) else (cS s x w.toNat,0)
def wkR(ds:List D)(v:AV):Prop:=∃s:PSys,ds=[aY s]/\s.good/\v=.dat (.sl none (aF (wkL s)))
theorem xf{k:Nat}{c:PCls}{r:List PCls}:wkC k (c :: r)=(if c.server=true then [] else List.replicate c.workers.toNat k)++wkC (k+1) r:=rfl
theorem CQ{s:PSys}(hg:s.good):∀{k:Nat} {L:List PCls},(∀c∈L,c.workers<=4)->(wkC k L).length<=4*L.length
 | _,[],_=>by simp[wkC]
 | k,c :: r,h=>by
  have h1:=CQ hg (k:=k+1) (L:=r) (fun c hc=>h c (by simp[hc]))
  have h2:=h c (by simp)
  rw[xf,List.length_append,List.length_cons]
  split
  ·simp;omega
  ·rw[List.length_replicate];omega
theorem wX{s:PSys}(hg:s.good):(wkL s).length<=24:=by
 have:=CQ hg (k:=0) (L:=s.classes) (fun c hc=>(hg.cls c hc).w4)
 have:=hg.nc
 unfold wkL;omega
theorem zA:OkF Tryz.prog 54 (au wkR):=by
 refine az Tryz.func54 rfl (by decide) ?_
 rintro ds v ⟨s,rfl,hg,rfl⟩
 have hlen:=wX hg
 have hnc:=hg.nc
 refine al [2] (Γ:=tbl []) ae _ _ _ ?_
 simp only[go_sem,Tryz.ntmps54,aY]
 refine av (cQ 3 none rfl (Nat.zero_le _)) ?_
 refine a6 (Γ:=tbl []) ae _ _ _ ?_
 simp only[go_sem,List.length_map]
 have h00:wkL s=[]++wkC 0 (s.classes.drop 0):=rfl
 generalize wkL s=W at *
 refine ap (fun p:Nat×List Nat=>⟨an 28 [(1,.ptr 0 0 0),(3,.sl 1 0 p.2.length),(7,.dat (.sl (some 4) (s.classes.map bf))),(8,.dat (.int .i64 s.classes.length)),(9,.dat (.int .i64 p.1))],[jO s,.row none (aF p.2)],0,[]⟩)
  (fun p=>p.1<=s.classes.length/\W=p.2++wkC p.1 (s.classes.drop p.1)) (fun p=>s.classes.length - p.1) (0,[]) ⟨Nat.zero_le _,h00⟩ ?_ ?_
 ·exact a7 (by simp only[go_sem,Int.natCast_zero,List.length_nil])
 rintro ⟨k,A⟩ ⟨hk,hA⟩
 simp only at hk hA
 cases hd:s.classes.drop k with
 | nil =>
  have:=aj hd hk
  have hk2:¬(k:Int)<s.classes.length:=by omega
  rw[hd,wkC,List.append_nil]at hA
  refine av (aq 1 (ag:=none) rfl (Nat.zero_le _)) ?_
  refine a6 (Γ:=tbl []) ae _ _ _ ?_
  simp only[go_sem,hk2,cF,ba,List.drop_zero,Nat.le_refl]
  rw[hA]
  exact am (.inl rfl) [2] rfl trivial rfl
 | cons c r =>
 have hlt:=ao hd
 have hk2:(k:Int)<s.classes.length:=by omega
 have hk0:(0:Int)<=k:=Int.natCast_nonneg k
 have hn:=ak (f:=bf) hd
 have hc:=hg.cls c (aN hd)
 have hw4:=hc.w4
 have hw0:=hc.w0
 have hr:=aE hd
 rw[hd,xf]at hA
 refine a6 (Γ:=tbl []) ae _ _ _ ?_
 simp only[go_sem,hk2,hk0,hlt,hn,bf,bD,List.length_map]
 refine ap (fun j:Nat=>⟨an 28 [(1,.ptr 0 0 0),(3,.sl 1 0 (A++(if c.server=true then [] else List.replicate j k)).length),(4,.dat (.int .i64 k)),(5,.ptr 2 0 0),(7,.dat (.sl (some 4) (s.classes.map bf))),(8,.dat (.int .i64 s.classes.length)),(9,.dat (.int .i64 k)),(15,.dat (.int .i64 c.workers)),(16,.dat (.int .i64 j))],[jO s,.row none (aF (A++(if c.server=true then [] else List.replicate j k))),UC c],0,[]⟩)
  (fun j=>(j:Int)<=c.workers) (fun j=>c.workers.toNat - j) 0 (by simpa using hw0) ?_ ?_
 ·have e:A++(if c.server=true then [] else List.replicate 0 k)=A:=by split <;> simp
  rw[e]
  exact a7 (by simp only[go_sem,Int.natCast_zero])
 rintro j hj
 refine a6 (Γ:=tbl []) ae _ _ _ ?_
 by_cases hje:(j:Int)=c.workers
 ·have hj2:¬(j:Int)<c.workers:=by omega
  have hjt:c.workers.toNat=j:=by omega
  rw[hjt]at hA
  simp only[go_sem,hj2]
  refine⟨ac.2 (by omega),(k+1,A++(if c.server=true then [] else List.replicate j k)),⟨by omega,by simp only;rw[hr,List.append_assoc];exact hA⟩,by simp only;omega,?_⟩
  refine aP (own:=[_,_]) (ex:=[_]) (Nat.zero_le _) ?_ ?_ ?_
  ·simp only[go_sem,Int.natCast_add,Int.cast_ofNat_Int]
  ·simp only[go_sem]
  ·simp only[go_sem,Obj.under,AV.unders,AV.under]
 have hj2:(j:Int)<c.workers:=by omega
 cases hsv:c.server with
 | true =>
  simp only[go_sem,hj2,hsv]
  refine⟨ac.2 (by omega),j+1,by omega,by omega,?_⟩
  exact a7 (by simp only[go_sem,Int.natCast_add,Int.cast_ofNat_Int])
 | false =>
  have hB:(A++List.replicate j k).length<=24:=by
   have:=congrArg List.length hA
   rw[hsv,if_neg (by decide)]at this
   simp only[List.length_append,List.length_replicate]at this ⊢
   omega
  have hsn:aF (A++List.replicate j k)++[.int .i64 (k:Int)]=aF (A++List.replicate (j+1) k):=by rw[jY,List.append_assoc,← List.replicate_succ']
  have hln:A.length+(j+1)=(A++List.replicate j k).length+1:=by simp;omega
  have htk:List.take (A++List.replicate j k).length (aF (A++List.replicate j k))=aF (A++List.replicate j k):=cF
  have hnl:(aF (A++List.replicate j k)).length=(A++List.replicate j k).length:=ba
  simp only[Bool.false_eq_true,if_false]
  generalize hX:A++List.replicate j k=X at *
  simp only[go_sem,hj2,hsv,Bool.not_false,htk,hnl,hsn]
  refine⟨by omega,by omega,ac.2 (by omega),j+1,by omega,by omega,?_⟩
  have hcO:UC c=.box [.dat (.str c.name),.dat (.int .i64 c.workers),.dat (.bool false),.dat (.sl (some 4) (c.steps.map ar))]:=by unfold UC;rw[hsv]
  rw[hln,hcO]
  refine aP (own:=[_,_,_]) (ex:=[_]) (Nat.zero_le _) ?_ ?_ ?_
  ·simp only[go_sem,Int.natCast_add,Int.cast_ofNat_Int,hsv]
  ·simp only[go_sem]
  ·simp only[go_sem,Obj.under,AV.unders,AV.under]
theorem ja{s:PSys}{p:Option PFr}{f:PFr}{r:List PFr}:fmd s p (f :: r)=(gn s f && (match p with|none=>true|some q=>k6 s q f) && fmd s (some f) r):=rfl
theorem bK{s:PSys}{f:PFr}:gn s f=true↔0<=f.c/\f.c<s.classes.length/\0<=f.a/\f.a<(aW s f).steps.length:=by
 simp only[gn,Bool.and_eq_true,decide_eq_true_eq];constructor
 ·rintro ⟨⟨⟨a,b⟩,c⟩,d⟩;exact⟨a,b,c,d⟩
 ·rintro ⟨a,b,c,d⟩;exact⟨⟨⟨a,b⟩,c⟩,d⟩
theorem w7{s:PSys}{f:PFr}(h0:0<=f.c)(h:f.c<s.classes.length):∃i:Nat,f.c=i/\i<s.classes.length/\D.nth (s.classes.map bf) i=bf (aW s f):=by
 refine⟨f.c.toNat,by omega,by omega,?_⟩
 exact D.nth_map (by omega)
theorem FK{s:PSys}{f:PFr}(h0:0<=f.a)(h:f.a<(aW s f).steps.length):∃a:Nat,f.a=a/\a<(aW s f).steps.length/\D.nth ((aW s f).steps.map ar) a=ar (b8 s f):=by
 refine⟨f.a.toNat,by omega,by omega,?_⟩
 exact D.nth_map (by omega)
end Go.AM

