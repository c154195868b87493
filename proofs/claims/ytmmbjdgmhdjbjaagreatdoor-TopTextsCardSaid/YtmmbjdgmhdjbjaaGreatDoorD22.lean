/- Own work over the model of the kit. -/
import Derived.Test.YtmmbjdgmhdjbjaaGreatDoorD16
import Derived.Test.YtmmbjdgmhdjbjaaGreatDoorD12
import Derived.Test.YtmmbjdgmhdjbjaaGreatDoorD21
import Derived.Test.YtmmbjdgmhdjbjaaGreatDoorD19
import Derived.Test.YtmmbjdgmhdjbjaaGreatDoorD18
set_option linter.unnecessarySimpa false
set_option linter.unusedSimpArgs false
set_option linter.unusedVariables false
set_option maxHeartbeats 4000000
set_option maxRecDepth 8000
namespace Go.AM
def Wk(E:List (Nat×Nat)):Nat->Nat->Nat->Prop
 | 0,a,v=>a=v
 | k+1,a,v=>∃u,(u,v)∈E/\Wk E k a u
theorem wA{E:List (Nat×Nat)}{a b:Nat}(h:(a,b)∈E):∀{k v:Nat},Wk E k b v->Wk E (k+1) a v
 | 0,v,hw=>⟨a,by cases hw;exact h,rfl⟩
 | k+1,v,⟨u,hu,hw⟩=>⟨u,hu,wA h hw⟩
theorem rD{E:List (Nat×Nat)}{a:Nat}:∀{k v:Nat},Wk E (k+1) a v->∃b,(a,b)∈E/\Wk E k b v
 | 0,v,⟨u,hu,hw⟩=>by cases hw;exact⟨v,hu,rfl⟩
 | k+1,v,⟨u,hu,hw⟩=>by
  obtain⟨b,hb,hw⟩:=rD hw
  exact⟨b,hb,u,hu,hw⟩
abbrev aa1(E:List (Nat×Nat)):List (Nat×Nat):=E.map fun p=>(p.2,p.1)
def Pc(E:List (Nat×Nat))(a v:Nat)(r:Int):Prop:=(r=-1/\∀k,¬Wk E k a v)∨∃k:Nat,r=k/\Wk E k a v/\∀j,Wk E j a v->k<=j
theorem DX(E:List (Nat×Nat))(a v:Nat):∃r,Pc E a v r:=by
 have key:∀n k,k<=n->Wk E k a v->∃k:Nat,Wk E k a v/\∀j,Wk E j a v->k<=j:=by
  intro n
  induction n with
  | zero=>intro k hk h;exact⟨k,h,fun j _=>by omega⟩
  | succ n ih =>
   intro k hk h
   by_cases hh:∃j,j<k/\Wk E j a v
   ·obtain⟨j,hj,hw⟩:=hh
    exact ih j (by omega) hw
   ·exact⟨k,h,fun j hj=>Nat.le_of_not_lt fun hlt=>hh ⟨j,hlt,hj⟩⟩
 by_cases h:∃k,Wk E k a v
 ·obtain⟨k,hk⟩:=h
  obtain⟨k,h1,h2⟩:=key k k (Nat.le_refl _) hk
  exact⟨k,.inr ⟨k,rfl,h1,h2⟩⟩
 ·exact⟨-1,.inl ⟨rfl,fun k hk=>h ⟨k,hk⟩⟩⟩
noncomputable def sd (E:List (Nat×Nat)) (a v:Nat):Int:=Classical.choose (DX E a v)
theorem WZ(E:List (Nat×Nat))(a v:Nat):Pc E a v (sd E a v):=Classical.choose_spec (DX E a v)
theorem FI{E:List (Nat×Nat)}{a v:Nat}{r r':Int}(h:Pc E a v r)(h':Pc E a v r'):r=r':=by
 rcases h with⟨h1,h2⟩|⟨k,h1,h2,h3⟩ <;> rcases h' with⟨g1,g2⟩|⟨j,g1,g2,g3⟩
 ·rw[h1,g1]
 ·exact absurd g2 (h2 j)
 ·exact absurd h2 (g2 k)
 ·have:=h3 j g2;have:=g3 k h2;omega
theorem VF{E:List (Nat×Nat)}{a v:Nat}{r:Int}(h:Pc E a v r):r=sd E a v:=FI h (WZ E a v)
theorem kO{q:List Nat}{n:Nat}(h:q.Nodup)(hn:∀v∈q,v<n):q.length<=n:=by
 have:=List.Nodup.length_le_of_subset h (l₂:=List.range n) (fun v hv=>List.mem_range.2 (hn v hv))
 simpa using this
theorem cE{α:Type}{l:List α}{i j:Nat}{a d:α}:(l.set i a).getD j d=if i=j/\i<l.length then a else l.getD j d:=by
 simp only[List.getD_eq_getElem?_getD,List.getElem?_set]
 by_cases h:i=j
 ·subst h
  by_cases h2:i<l.length
  ·simp[h2]
  ·simp[h2,List.getElem?_eq_none (Nat.le_of_not_lt h2)]
 ·simp[h]
structure BInv (E:List (Nat×Nat)) (n a:Nat) (d:List Int) (q:List Nat) (at':Nat):Prop where
 ln:d.length=n
 qn:∀v∈q,v<n
 nd:q.Nodup
 le:at'<=q.length
 vis:∀v,v<n->(v∈q↔0<=d.getD v (-1))
 neg:∀v,v<n->-1<=d.getD v (-1)
 one:∀v,v<n->¬v∈q->d.getD v (-1)=-1
 src:a∈q/\d.getD a (-1)=0
 walk:∀v∈q,Wk E (d.getD v (-1)).toNat a v
 ub:∀v∈q,d.getD v (-1)<q.length
 mono:∀(i j u v:Nat),i<=j->q[i]?=some u->q[j]?=some v->d.getD u (-1)<=d.getD v (-1)
 bnd:∀v∈q,∀(x:Nat),q[at']?=some x->d.getD v (-1)<=d.getD x (-1)+1
 don:∀(i u w:Nat),i<at'->q[i]?=some u->(u,w)∈E->w∈q/\d.getD w (-1)<=d.getD u (-1)+1
structure BMid (E:List (Nat×Nat)) (n a:Nat) (d:List Int) (q:List Nat) (at' x:Nat) (T:List Nat):Prop where
 inv:BInv E n a d q at'
 atx:q[at']?=some x
 mid:∀w∈T,w∈q/\d.getD w (-1)<=d.getD x (-1)+1
section
variable {E:List (Nat×Nat)} {n a:Nat} {d:List Int} {q:List Nat} {at' x:Nat} {T:List Nat}
theorem BInv.qle(h:BInv E n a d q at'):q.length<=n:=kO h.nd h.qn
theorem BInv.init(ha:a<n):BInv E n a ((List.replicate n (-1)).set a 0) [a] 0 where
 ln:=by simp
 qn v hv:=by simp at hv;subst hv;exact ha
 nd:=by simp
 le:=Nat.zero_le _
 vis v hv:=by
  rw[cE]
  by_cases h:a=v
  ·subst h;simp[ha]
  ·rw[if_neg (fun hh=>h hh.1)]
   simp[List.getD_eq_getElem?_getD,List.getElem?_replicate,hv,Ne.symm h]
 neg v hv:=by
  rw[cE]
  split
  ·omega
  ·simp[List.getD_eq_getElem?_getD,List.getElem?_replicate,hv]
 one v hv h:=by
  rw[cE,if_neg (by simp at h;omega)]
  simp[List.getD_eq_getElem?_getD,List.getElem?_replicate,hv]
 src:=by rw[cE];simp[ha]
 walk v hv:=by
  simp at hv;subst hv
  rw[cE,if_pos ⟨rfl,by simpa using ha⟩]
  rfl
 ub v hv:=by
  simp at hv;subst hv
  rw[cE,if_pos ⟨rfl,by simpa using ha⟩]
  simp
 mono i j u v hij hu hv:=by
  have h1:i=0:=by
   have:=(List.getElem?_eq_some_iff.1 hu).1
   simpa using this
  have h2:j=0:=by
   have:=(List.getElem?_eq_some_iff.1 hv).1
   simpa using this
  subst h1;subst h2
  rw[hu]at hv;cases hv
  exact Int.le_refl _
 bnd v hv x hx:=by
  simp at hv hx;subst hv;subst hx
  omega
 don i u w hi:=by omega
theorem BInv.start(h:BInv E n a d q at')(hx:q[at']?=some x):BMid E n a d q at' x []:=⟨h,hx,fun w hw=>by cases hw⟩
theorem BMid.skip(h:BMid E n a d q at' x T){w:Nat}(hw:w<n)(hd:0<=d.getD w (-1)):BMid E n a d q at' x (T++[w]):=by
 refine⟨h.inv,h.atx,fun u hu=>?_⟩
 rcases List.mem_append.1 hu with hu|hu
 ·exact h.mid u hu
 ·simp at hu;subst hu
  have hm:=(h.inv.vis u hw).2 hd
  exact⟨hm,h.inv.bnd u hm x h.atx⟩
theorem BMid.add(h:BMid E n a d q at' x T){w:Nat}(hw:w<n)(he:(x,w)∈E)(hd:d.getD w (-1)<0):BMid E n a (d.set w (d.getD x (-1)+1)) (q++[w]) at' x (T++[w]):=by
 have hv:=h.inv
 have hwq:¬w∈q:=fun hm=>by have:=(hv.vis w hw).1 hm;omega
 have hxq:x∈q:=List.mem_of_getElem? h.atx
 have hx0:=(hv.vis x (hv.qn x hxq)).1 hxq
 have hxw:w≠x:=fun e=>hwq (e ▸ hxq)
 have hat:=(List.getElem?_eq_some_iff.1 h.atx).1
 have hnew:(d.set w (d.getD x (-1)+1)).getD w (-1)=d.getD x (-1)+1:=by rw[cE,if_pos ⟨rfl,by rw[hv.ln];exact hw⟩]
 have dX:∀v,v≠w->(d.set w (d.getD x (-1)+1)).getD v (-1)=d.getD v (-1):=fun v hv=>by rw[cE,if_neg (fun hh=>hv hh.1.symm)]
 have lZ:∀v,v∈q->(d.set w (d.getD x (-1)+1)).getD v (-1)=d.getD v (-1):=fun v hv=>dX v (fun e=>hwq (e ▸ hv))
 have get:∀i u,(q++[w])[i]?=some u->(i<q.length/\q[i]?=some u)∨(i=q.length/\u=w):=fun i u hu=>by
  rcases Nat.lt_or_ge i q.length with hi|hi
  ·rw[List.getElem?_append_left hi]at hu;exact .inl ⟨hi,hu⟩
  ·rw[List.getElem?_append_right hi]at hu
   have:i - q.length=0:=by
    have:=(List.getElem?_eq_some_iff.1 hu).1;simpa using this
   rw[this]at hu;simp at hu
   exact .inr ⟨by omega,hu.symm⟩
 refine⟨?_,by rw[List.getElem?_append_left hat];exact h.atx,?_⟩
 ·constructor
  ·simp[hv.ln]
  ·intro v hm
   rcases List.mem_append.1 hm with hm|hm
   ·exact hv.qn v hm
   ·simp at hm;subst hm;exact hw
  ·rw[List.nodup_append]
   exact⟨hv.nd,by simp,fun u hu v hm=>by simp at hm;subst hm;exact fun e=>hwq (e ▸ hu)⟩
  ·simp;have:=hv.le;omega
  ·intro v hvn
   by_cases e:v=w
   ·subst e;rw[hnew];exact⟨fun _=>by omega,fun _=>by simp⟩
   ·rw[dX v e,← hv.vis v hvn];simp[e]
  ·intro v hvn
   by_cases e:v=w
   ·subst e;rw[hnew];omega
   ·rw[dX v e];exact hv.neg v hvn
  ·intro v hvn hm
   simp at hm
   rw[dX v hm.2];exact hv.one v hvn hm.1
  ·exact⟨by simp[hv.src.1],by rw[lZ a hv.src.1];exact hv.src.2⟩
  ·intro v hm
   rcases List.mem_append.1 hm with hm|hm
   ·rw[lZ v hm];exact hv.walk v hm
   ·simp at hm;subst hm
    rw[hnew,show (d.getD x (-1)+1).toNat=(d.getD x (-1)).toNat+1 by omega]
    exact⟨x,he,hv.walk x hxq⟩
  ·intro v hm
   rcases List.mem_append.1 hm with hm|hm
   ·rw[lZ v hm];have:=hv.ub v hm;simp only[List.length_append,List.length_singleton,Int.natCast_add];omega
   ·simp at hm;subst hm
    rw[hnew];have:=hv.ub x hxq;simp only[List.length_append,List.length_singleton,Int.natCast_add];omega
  ·intro i j u v hij hu hv'
   rcases get i u hu with⟨h1,h2⟩|⟨h1,h2⟩ <;> rcases get j v hv' with⟨h3,h4⟩|⟨h3,h4⟩
   ·rw[lZ u (List.mem_of_getElem? h2),lZ v (List.mem_of_getElem? h4)]
    exact hv.mono i j u v hij h2 h4
   ·subst h4
    rw[lZ u (List.mem_of_getElem? h2),hnew]
    exact hv.bnd u (List.mem_of_getElem? h2) x h.atx
   ·omega
   ·subst h2;subst h4;exact Int.le_refl _
  ·intro v hm x' hx'
   rw[List.getElem?_append_left hat,h.atx]at hx'
   cases hx'
   rw[lZ x hxq]
   rcases List.mem_append.1 hm with hm|hm
   ·rw[lZ v hm];exact hv.bnd v hm x h.atx
   ·simp at hm;subst hm
    rw[hnew];exact Int.le_refl _
  ·intro i u w' hi hu he'
   rw[List.getElem?_append_left (by omega)]at hu
   obtain⟨g1,g2⟩:=hv.don i u w' hi hu he'
   rw[lZ u (List.mem_of_getElem? hu),lZ w' g1]
   exact⟨by simp[g1],g2⟩
 ·intro u hu
  rcases List.mem_append.1 hu with hu|hu
  ·obtain⟨g1,g2⟩:=h.mid u hu
   rw[lZ u g1,lZ x hxq]
   exact⟨by simp[g1],g2⟩
  ·simp at hu;subst hu
   rw[hnew,lZ x hxq]
   exact⟨by simp,Int.le_refl _⟩
theorem BMid.next(h:BMid E n a d q at' x T)(hT:∀w,(x,w)∈E->w∈T):BInv E n a d q (at'+1):=by
 have hv:=h.inv
 have hat:=(List.getElem?_eq_some_iff.1 h.atx).1
 refine { hv with le:=hat,bnd:=fun v hm x' hx'=>?_,don:=fun i u w hi hu he=>?_ }
 ·have h1:=hv.bnd v hm x h.atx
  have h2:=hv.mono at' (at'+1) x x' (by omega) h.atx hx'
  omega
 ·by_cases e:i=at'
  ·subst e
   rw[h.atx]at hu;cases hu
   exact h.mid w (hT w he)
  ·exact hv.don i u w (by omega) hu he
theorem BInv.done(h:BInv E n a d q q.length)(hE:∀p∈E,p.2<n):d=(List.range n).map (sd E a):=by
 have hcl:∀u∈q,∀w,(u,w)∈E->w∈q/\d.getD w (-1)<=d.getD u (-1)+1:=fun u hu w he=>by
  obtain⟨i,hi⟩:=List.mem_iff_getElem?.1 hu
  exact h.don i u w (List.getElem?_eq_some_iff.1 hi).1 hi he
 have cO:∀k v,Wk E k a v->v∈q/\d.getD v (-1)<=k:=by
  intro k
  induction k with
  | zero=>intro v hw;cases hw;exact⟨h.src.1,by rw[h.src.2];simp⟩
  | succ k ih =>
   rintro v ⟨u,hu,hw⟩
   obtain⟨g1,g2⟩:=ih u hw
   obtain⟨g3,g4⟩:=hcl u g1 v hu
   exact⟨g3,by omega⟩
 refine List.ext_getElem (by simp[h.ln]) fun v h1 h2=>?_
 have hvn:v<n:=by rw[← h.ln];exact h1
 have hg:d[v]=d.getD v (-1):=by simp[List.getD_eq_getElem?_getD,List.getElem?_eq_getElem h1]
 rw[List.getElem_map,List.getElem_range,hg]
 refine VF ?_
 by_cases hm:v∈q
 ·have h0:=(h.vis v hvn).1 hm
  exact .inr ⟨(d.getD v (-1)).toNat,by omega,h.walk v hm,fun j hj=>by have:=(cO j v hj).2;omega⟩
 ·exact .inl ⟨h.one v hvn hm,fun k hk=>hm (cO k v hk).1⟩
end
end Go.AM
namespace Go.AM
open Go Go.Proofs
def IS(n:Int)(e:PEdge):Bool:=decide (e.src<0) || decide (n<=e.src) || decide (e.dst<0) || decide (n<=e.dst)
theorem OK{n:Int}{l:List PEdge}(h:¬(n<0∨4096<n)):gE n l=if l.any (IS n)=true then 1 else 0:=by
 unfold gE;rw[if_neg h];rfl
def Jx(ds:List D)(v:AV):Prop:=∃(n:Int) (l:List PEdge),ds=[.int .i64 n,.sl (some 4) (dW l)]/\l.length<=10000/\v=.dat (.int .i64 (gE n l))
theorem Bc:OkF Tryz.prog 53 (au Jx):=by
 refine az Tryz.func53 rfl (by decide) ?_
 rintro ds v ⟨n,l,rfl,hl,rfl⟩
 generalize hv:gE n l=V
 refine a6 (Γ:=tbl []) ae _ _ _ ?_
 have fin:∀s own (b c:Int),b=c->s.getD 4 .top=.dat (.int .i64 b)->post Tryz.prog Tryz.f53 (.dat (.int .i64 c)) [] [] .ret ⟨s,own,0,[]⟩:=fun s own b c e h=>by
  subst e
  exact am (.inl rfl) [4] rfl trivial (by simp only[cM,h];rfl)
 by_cases h1:n<0
 ·simp only[go_sem,Tryz.ntmps53,h1]
  refine fin _ _ _ _ ?_ rfl
  rw[← hv];unfold gE;rw[if_pos (.inl h1)]
 by_cases h2:4096<n
 ·simp only[go_sem,Tryz.ntmps53,h1,h2]
  refine fin _ _ _ _ ?_ rfl
  rw[← hv];unfold gE;rw[if_pos (.inr h2)]
 rw[OK (by omega)]at hv
 simp only[go_sem,Tryz.ntmps53,h1,h2,cZ]
 refine ap (fun k:Nat=>⟨an 40 [(0,.dat (.int .i64 n)),(13,.dat (.sl (some 4) (dW l))),(14,.dat (.int .i64 l.length)),(15,.dat (.int .i64 k))],[],0,[]⟩)
  (fun k=>k<=l.length/\(if (l.drop k).any (IS n)=true then 1 else 0)=V) (fun k=>l.length - k) 0 ⟨Nat.zero_le _,hv⟩ ?_ ?_
 ·exact a7 (by simp only[go_sem,Int.natCast_zero])
 rintro k ⟨hk,hI⟩
 refine a6 (Γ:=tbl []) ae _ _ _ ?_
 cases hd:l.drop k with
 | nil =>
  have:=aj hd hk
  have hk2:¬(k:Int)<l.length:=by omega
  simp only[go_sem,hk2]
  refine fin _ _ _ _ ?_ rfl
  rw[← hI,hd];simp
 | cons e q =>
  have hlt:=ao hd
  have hk2:(k:Int)<l.length:=by omega
  have hk0:(0:Int)<=k:=Int.natCast_nonneg k
  have hn:=ak (f:=pN) hd
  rw[hd,List.any_cons]at hI
  obtain⟨src,dst,cls,stp⟩:=e
  by_cases g1:src<0
  ·simp only[go_sem,hk2,hk0,hn,hlt,cZ,pN,g1]
   refine fin _ _ _ _ ?_ rfl
   rw[← hI];simp[IS,g1]
  by_cases g2:n<=src
  ·simp only[go_sem,hk2,hk0,hn,hlt,cZ,pN,g1,g2]
   refine fin _ _ _ _ ?_ rfl
   rw[← hI];simp[IS,g2]
  by_cases g3:dst<0
  ·simp only[go_sem,hk2,hk0,hn,hlt,cZ,pN,g1,g2,g3]
   refine fin _ _ _ _ ?_ rfl
   rw[← hI];simp[IS,g3]
  by_cases g4:n<=dst
  ·simp only[go_sem,hk2,hk0,hn,hlt,cZ,pN,g1,g2,g3,g4]
   refine fin _ _ _ _ ?_ rfl
   rw[← hI];simp[IS,g4]
  have hb:IS n ⟨src,dst,cls,stp⟩=false:=by simp[IS];omega
  rw[hb,Bool.false_or]at hI
  simp only[go_sem,hk2,hk0,hn,hlt,cZ,pN,g1,g2,g3,g4]
  refine⟨ac.2 (by omega),k+1,⟨by omega,by rw[aE hd];exact hI⟩,by omega,?_⟩
  refine aP (own:=[]) (ex:=[_]) (Nat.zero_le _) ?_ ?_ ?_
  ·simp only[go_sem,Int.natCast_add,Int.cast_ofNat_Int]
  ·simp only[go_sem]
  ·simp only[go_sem,Obj.under,AV.unders,AV.under,Obj.allUnder]
theorem yq{l:List Nat}{i x:Nat}(h:l[i]?=some x):D.nth (aF l) i=.int .i64 (x:Int):=by
 simp[D.nth,h]
theorem GOk.eFlt{n:Nat}{l:List PEdge}(h:GOk n l):∀p∈eF l,p.2<n:=by
 intro p hp
 obtain⟨e,he,rfl⟩:=List.mem_map.1 hp
 exact(h.dst e he).2
def Xi(f:PEdge->Nat):Nat->List PEdge->Nat->List Nat
 | _,[],_=>[]
 | k,e :: r,v=>if f e=v then k :: Xi f (k+1) r v else Xi f (k+1) r v
abbrev pw(r:List Nat):D:=.sl none (aF r)
abbrev l9(M:List (List Nat)):List (List D):=M.map aF
theorem G3{M:List (List Nat)}:(l9 M).map (D.sl none)=M.map pw:=by simp[List.map_map,Function.comp_def]
theorem Cq{M:List (List Nat)}:(l9 M).length=M.length:=by simp
theorem zl{M:List (List Nat)}{i:Nat}:(l9 M).getD i []=aF (M.getD i []):=by
 simp only[List.getD_eq_getElem?_getD,List.getElem?_map];cases M[i]? <;> rfl
theorem CZ{M:List (List Nat)}{i:Nat}{r:List Nat}:(l9 M).set i (aF r)=l9 (M.set i r):=by simp[List.map_set]
theorem H1{M:List (List Nat)}{v:Nat}{r:List Nat}(h:M[v]?=some r):D.nth (M.map pw) v=.sl none (aF r):=by
 simp[D.nth,h]
def sOf(l:List PEdge)(i:Nat):Nat:=(l.getD i default).s
def tOf(l:List PEdge)(i:Nat):Nat:=(l.getD i default).t
noncomputable def ab7 (l:List PEdge) (to v:Nat) (i:Nat):Bool:=decide (sd (eF l) (tOf l i) to=sd (eF l) v to - 1)
noncomputable def nxt (l:List PEdge) (to v:Nat):Option Nat:=(Xi PEdge.s 0 l v).find? (ab7 l to v)
noncomputable def ac6 (l:List PEdge) (i:Nat):Int:=sd (eF l) (tOf l i) (sOf l i)
structure IsLev (n:Nat) (l:List PEdge) (f:Nat->Nat):Prop where
 down:∀e∈l,f e.t<f e.s
 next:∀v,v<n->f v=0∨∃e∈l,e.s=v/\f v=f e.t+1
theorem IsLev.le{n:Nat}{l:List PEdge}{f g:Nat->Nat}(hE:∀e∈l,e.t<n)(hf:IsLev n l f)(hg:∀e∈l,g e.t<g e.s):∀(k v:Nat),v<n->f v=k->f v<=g v:=by
 intro k
 induction k with
 | zero=>intro v _ h;omega
 | succ k ih =>
  intro v hv h
  rcases hf.next v hv with h0|⟨e,he,h1,h2⟩
  ·omega
  ·have:=ih e.t (hE e he) (by omega)
   have:=hg e he
   rw[h1]at this
   omega
theorem IsLev.one{n:Nat}{l:List PEdge}{f g:Nat->Nat}(hE:∀e∈l,e.t<n)(hf:IsLev n l f)(hg:IsLev n l g){v:Nat}(hv:v<n):f v=g v :=
 Nat.le_antisymm (hf.le hE hg.down _ v hv rfl) (hg.le hE hf.down _ v hv rfl)
open Classical in
noncomputable def vW (n:Nat) (l:List PEdge):Option (List Nat):=if h:∃f,IsLev n l f then some ((List.range n).map (Classical.choose h)) else none
theorem nt{n:Nat}{l:List PEdge}{f:Nat->Nat}(hE:∀e∈l,e.t<n)(hf:IsLev n l f):vW n l=some ((List.range n).map f):=by
 have h:∃f,IsLev n l f:=⟨f,hf⟩
 unfold vW
 rw[dif_pos h]
 congr 1
 exact List.map_congr_left fun v hv=>(Classical.choose_spec h).one hE hf (List.mem_range.1 hv)
theorem u7{n:Nat}{l:List PEdge}(h:¬∃f:Nat->Nat,∀e∈l,f e.t<f e.s):vW n l=none:=by
 unfold vW
 rw[dif_neg]
 rintro ⟨f,hf⟩
 exact h ⟨f,hf.down⟩
theorem LQ{n:Nat}{l:List PEdge}{L:List Nat}(h:vW n l=some L):∃f,IsLev n l f/\L=(List.range n).map f:=by
 unfold vW at h
 split at h
 ·rename_i hf
  cases h
  exact⟨_,Classical.choose_spec hf,rfl⟩
 ·cases h
def ins(l:List PEdge)(w:Nat):List Nat:=l.filterMap fun e=>if e.t=w then some e.s else none
theorem GW{l:List PEdge}{e:PEdge}{x:Nat}:ins (l++[e]) x=if e.t=x then ins l x++[e.s] else ins l x:=by
 unfold ins;rw[List.filterMap_append];by_cases h:e.t=x <;> simp[h]
theorem AF{l:List PEdge}{v w:Nat}:v∈ins l w↔∃e∈l,e.s=v/\e.t=w:=by
 simp only[ins,List.mem_filterMap]
 constructor
 ·rintro ⟨e,he,h⟩
  split at h
  ·rename_i hx;cases h;exact⟨e,he,rfl,hx⟩
  ·cases h
 ·rintro ⟨e,he,rfl,rfl⟩;exact⟨e,he,by simp⟩
def rest(l:List PEdge)(P:List Nat)(v:Nat):Nat:=l.countP fun e=>decide (e.s=v) && !P.contains e.t
theorem yD{P:List Nat}{w:Nat}(hw:¬w∈P)(v:Nat):∀(l:List PEdge),rest l P v=rest l (P++[w]) v+(ins l w).count v
 | []=>rfl
 | e :: r=>by
  have ih:=yD hw v r
  unfold rest ins at ih ⊢
  simp only[List.countP_cons,List.filterMap_cons]
  by_cases h1:e.s=v <;> by_cases h2:e.t=w
  ·have h3:¬e.t∈P:=by rw[h2];exact hw
   have h4:e.t∈P++[w]:=by simp[h2]
   simp only[h1,h2,decide_true,Bool.true_and,List.contains_eq_mem]at ih ⊢
   simp only[h2]at h3 h4
   simp[h3,h4,List.count_cons]at ih ⊢
   omega
  ·have h4:(P++[w]).contains e.t=P.contains e.t:=by simp[h2]
   simp only[h1,decide_true,Bool.true_and,h4,if_neg h2]at ih ⊢
   omega
  ·simp only[h1,decide_false,Bool.false_and,h2,if_true,Bool.false_eq_true,if_false,List.count_cons]at ih ⊢
   simp[h1]at ih ⊢
   omega
  ·have h4:(P++[w]).contains e.t=P.contains e.t:=by simp[h2]
   simp only[h1,decide_false,Bool.false_and,if_neg h2,Bool.false_eq_true,if_false]at ih ⊢
   omega
theorem He{l:List PEdge}{P:List Nat}{v:Nat}(h:0<rest l P v):∃e∈l,e.s=v/\¬e.t∈P:=by
 obtain⟨e,he,h2⟩:=List.countP_pos_iff.1 h
 simp only[Bool.and_eq_true,decide_eq_true_eq,Bool.not_eq_true',List.contains_eq_mem,decide_eq_false_iff_not]at h2
 exact⟨e,he,h2.1,h2.2⟩
structure KI (n:Nat) (l:List PEdge) (left lev q:List Nat) (P:List Nat) (w:Option Nat) (T:List Nat):Prop where
 ll:left.length=n
 lv:lev.length=n
 qn:∀v∈q,v<n
 nd:q.Nodup
 sub:∀v∈P,v∈q
 cnt:∀v,v<n->left.getD v 0=rest l P v+T.count v
 free:∀v,v<n->(v∈q↔left.getD v 0=0)
 down:∀e∈l,e.t∈P->(w=some e.t->e.s∈T∨lev.getD e.t 0<lev.getD e.s 0)/\(w≠some e.t->lev.getD e.t 0<lev.getD e.s 0)
 next:∀v,v<n->lev.getD v 0=0∨∃e∈l,e.s=v/\e.t∈P/\lev.getD v 0=lev.getD e.t 0+1
 ub:∀v,v<n->lev.getD v 0<=P.length
 uw:∀x,w=some x->lev.getD x 0<P.length
section
variable {n:Nat} {l:List PEdge} {left lev q P T:List Nat} {w:Nat}
theorem KI.qle(h:KI n l left lev q P none []):q.length<=n:=kO h.nd h.qn
theorem KI.start(h:KI n l left lev q P none [])(hw:w∈q)(hwP:¬w∈P):KI n l left lev q (P++[w]) (some w) (ins l w):=by
 refine { h with sub:=fun v hv=>?_,cnt:=fun v hv=>?_,down:=fun e he ht=>?_,next:=fun v hv=>?_,ub:=fun v hv=>?_,uw:=fun x hx=>?_ }
 ·rcases List.mem_append.1 hv with hv|hv
  ·exact h.sub v hv
  ·simp at hv;rw[hv];exact hw
 ·rw[h.cnt v hv,yD hwP v l];simp
 ·by_cases e1:e.t=w
  ·exact⟨fun _=>.inl (AF.2 ⟨e,he,rfl,e1⟩),fun hn=>absurd (by rw[e1]) hn⟩
  ·have hp:e.t∈P:=by simpa [e1] using ht
   exact⟨fun hn=>absurd (Option.some.inj hn).symm e1,fun _=>((h.down e he hp).2 (by simp))⟩
 ·rcases h.next v hv with h0|⟨e,he,h1,h2,h3⟩
  ·exact .inl h0
  ·exact .inr ⟨e,he,h1,by simp[h2],h3⟩
 ·have:=h.ub v hv;rw[List.length_append];omega
 ·cases hx;have:=h.ub w (h.qn w hw);rw[List.length_append,List.length_singleton];omega
theorem KI.stop(h:KI n l left lev q P (some w) []):KI n l left lev q P none []:=by
 refine { h with down:=fun e he ht=>⟨fun hn=>(by cases hn),fun _=>?_⟩,uw:=fun x hx=>by cases hx }
 obtain⟨h1,h2⟩:=h.down e he ht
 by_cases e1:w=e.t
 ·rcases h1 (by rw[e1]) with h|h
  ·cases h
  ·exact h
 ·exact h2 (by simpa using e1)
theorem KI.step{v:Nat}(h:KI n l left lev q P (some w) (v :: T))(hv:v<n)(hw:w∈P)(hE:∃e∈l,e.s=v/\e.t=w) :
  KI n l (left.set v (left.getD v 0 - 1)) (lev.set v (max (lev.getD v 0) (lev.getD w 0+1))) (if left.getD v 0 - 1=0 then q++[v] else q) P (some w) T:=by
 have Ao:=h.cnt v hv
 rw[List.count_cons_self]at Ao
 have hvq:¬v∈q:=fun hm=>by have:=(h.free v hv).1 hm;omega
 have hwq:w∈q:=h.sub w hw
 have hwv:w≠v:=fun e=>hvq (e ▸ hwq)
 have gl:∀u,(left.set v (left.getD v 0 - 1)).getD u 0=if v=u then left.getD v 0 - 1 else left.getD u 0:=fun u=>by
  rw[cE]
  by_cases e:v=u
  ·rw[if_pos ⟨e,by rw[h.ll];exact hv⟩,if_pos e]
  ·rw[if_neg (fun hh=>e hh.1),if_neg e]
 have gv:∀u,(lev.set v (max (lev.getD v 0) (lev.getD w 0+1))).getD u 0=if v=u then max (lev.getD v 0) (lev.getD w 0+1) else lev.getD u 0:=fun u=>by
  rw[cE]
  by_cases e:v=u
  ·rw[if_pos ⟨e,by rw[h.lv];exact hv⟩,if_pos e]
  ·rw[if_neg (fun hh=>e hh.1),if_neg e]
 have hP:∀u∈P,v≠u:=fun u hu e=>hvq (e ▸ h.sub u hu)
 have memq:∀u,u∈(if left.getD v 0 - 1=0 then q++[v] else q)↔u∈q∨(u=v/\left.getD v 0 - 1=0):=fun u=>by
  split
  ·rename_i h0;simp only[List.mem_append,List.mem_singleton,h0,and_true]
  ·rename_i h0
   constructor
   ·exact fun hm=>.inl hm
   ·rintro (hm|⟨_,hm⟩)
    ·exact hm
    ·exact absurd hm h0
 constructor
 ·simp[h.ll]
 ·simp[h.lv]
 ·intro u hu
  rcases(memq u).1 hu with hu|⟨rfl,_⟩
  ·exact h.qn u hu
  ·exact hv
 ·split
  ·rw[List.nodup_append]
   exact⟨h.nd,by simp,fun u hu x hx=>by simp at hx;subst hx;exact fun e=>hvq (e ▸ hu)⟩
  ·exact h.nd
 ·intro u hu
  exact(memq u).2 (.inl (h.sub u hu))
 ·intro u hu
  rw[gl]
  by_cases e:v=u
  ·subst e;rw[if_pos rfl];omega
  ·rw[if_neg e,h.cnt u hu,List.count_cons_of_ne e]
 ·intro u hu
  rw[memq,gl]
  by_cases e:v=u
  ·subst e;rw[if_pos rfl];simp[hvq]
  ·rw[if_neg e,← h.free u hu]
   constructor
   ·rintro (hm|⟨hm,_⟩)
    ·exact hm
    ·exact absurd hm.symm e
   ·exact fun hm=>.inl hm
 ·intro e he ht
  rw[gv,gv,if_neg (hP _ ht)]
  obtain⟨h1,h2⟩:=h.down e he ht
  refine⟨fun hw'=>?_,fun hw'=>?_⟩
  ·have hw2:w=e.t:=Option.some.inj hw'
   by_cases e1:v=e.s
   ·rw[if_pos e1,← hw2];exact .inr (by omega)
   ·rw[if_neg e1]
    rcases h1 hw' with hm|hm
    ·rcases List.mem_cons.1 hm with hm|hm
     ·exact absurd hm.symm e1
     ·exact .inl hm
    ·exact .inr hm
  ·have h3:=h2 hw'
   by_cases e1:v=e.s
   ·rw[if_pos e1];rw[← e1]at h3;omega
   ·rw[if_neg e1];exact h3
 ·intro u hu
  rw[gv]
  by_cases e:v=u
  ·subst e
   rw[if_pos rfl]
   by_cases hmx:lev.getD v 0<=lev.getD w 0+1
   ·obtain⟨e,he,h1,h2⟩:=hE
    refine .inr ⟨e,he,h1,by rw[h2];exact hw,?_⟩
    rw[gv,h2,if_neg (fun hh=>hwv hh.symm)];omega
   ·rcases h.next v hv with h0|⟨e,he,h1,h2,h3⟩
    ·omega
    ·refine .inr ⟨e,he,h1,h2,?_⟩
     rw[gv,if_neg (hP _ h2)];omega
  ·rw[if_neg e]
   rcases h.next u hu with h0|⟨e',he,h1,h2,h3⟩
   ·exact .inl h0
   ·refine .inr ⟨e',he,h1,h2,?_⟩
    rw[gv,if_neg (hP _ h2)];exact h3
 ·intro u hu
  rw[gv]
  have h1:=h.uw w rfl
  by_cases e:v=u
  ·rw[if_pos e];have:=h.ub v hv;omega
  ·rw[if_neg e];exact h.ub u hu
 ·intro x hx
  cases hx
  rw[gv,if_neg (fun hh=>hwv hh.symm)];exact h.uw w rfl
theorem KI.all(h:KI n l left lev q q none [])(hq:n<=q.length)(hE:∀e∈l,e.t<n):vW n l=some lev:=by
 have cO:∀v,v<n->v∈q:=fun v hv=>by
  by_cases hm:v∈q
  ·exact hm
  ·have:=kO (q:=v :: q) (n:=n) (List.nodup_cons.2 ⟨hm,h.nd⟩) (fun u hu=>by rcases List.mem_cons.1 hu with rfl|hu;exact hv;exact h.qn u hu)
   simp at this;omega
 have hl:IsLev n l fun v=>lev.getD v 0:=⟨fun e he=>(h.down e he (cO _ (hE e he))).2 (by simp),fun v hv=>by
  rcases h.next v hv with h0|⟨e,he,h1,_,h3⟩
  ·exact .inl h0
  ·exact .inr ⟨e,he,h1,h3⟩⟩
 rw[nt hE hl]
 congr 1
 refine List.ext_getElem (by simp[h.lv]) fun i h1 h2=>?_
 simp[List.getD_eq_getElem?_getD,List.getElem?_eq_getElem h2]
theorem KI.stuck(h:KI n l left lev q q none [])(hq:q.length<n)(hE:∀e∈l,e.t<n):vW n l=none:=by
 refine u7 ?_
 rintro ⟨f,hf⟩
 have hex:∃v,v<n/\¬v∈q:=by
  refine Classical.byContradiction fun hne=>?_
  have EE:List.range n ⊆ q:=fun v hv=>Classical.byContradiction fun hm=>hne ⟨v,List.mem_range.1 hv,hm⟩
  have:=List.Nodup.length_le_of_subset List.nodup_range EE
  simp at this;omega
 have key:∀k v,f v=k->v<n->v∈q:=by
  intro k
  induction k using Nat.strongRecOn with
  | _ k ih =>
   intro v hk hv
   refine Classical.byContradiction fun hm=>?_
   have jS:0<rest l q v:=by
    have h1:=h.cnt v hv
    simp only[List.count_nil,Nat.add_zero]at h1
    have h2:¬left.getD v 0=0:=fun hh=>hm ((h.free v hv).2 hh)
    omega
   obtain⟨e,he,h1,h2⟩:=He jS
   have:=hf e he
   rw[h1]at this
   exact h2 (ih (f e.t) (by omega) e.t rfl (hE e he))
 obtain⟨v,hv,hm⟩:=hex
 exact hm (key _ v rfl hv)
end
end Go.AM
namespace Go.AM
open Go Go.Proofs
noncomputable def k8 (n:Int) (l:List PEdge):AV:=if gE n l≠0 then .tup [.dat (.sl none []),.dat (.int .i64 (gE n l))] else match vW n.toNat l with
 | some L=>.tup [.dat (.sl none (aF L)),.dat (.int .i64 0)]
 | none=>.tup [.dat (.sl none []),.dat (.int .i64 10)]
def wr(ds:List D)(v:AV):Prop:=∃(n:Int) (l:List PEdge),ds=[.int .i64 n,.sl (some 4) (dW l)]/\l.length<=10000/\v=k8 n l
def kj(n:Nat)(l:List PEdge):List (List Nat):=(List.range n).map (ins l)
theorem sf{n:Nat}{l:List PEdge}:(kj n l).length=n:=by simp[kj]
theorem Hm{n:Nat}:kj n []=List.replicate n []:=List.ext_getElem (by simp[kj]) fun i h1 h2=>by simp[kj,ins]
theorem Di{n:Nat}{l:List PEdge}{v:Nat}(h:v<n):(kj n l).getD v []=ins l v:=by simp[kj,List.getD_eq_getElem?_getD,h]
theorem EP{n:Nat}{l:List PEdge}{v:Nat}(h:v<n):(kj n l)[v]?=some (ins l v):=by simp[kj,h]
theorem AA{n:Nat}{l:List PEdge}{e:PEdge}:kj n (l++[e])=(kj n l).set e.t (ins l e.t++[e.s]):=by
 refine List.ext_getElem (by simp[kj]) fun i h1 h2=>?_
 rw[List.getElem_set]
 simp only[kj,List.getElem_map,List.getElem_range,GW]
 by_cases h:e.t=i
 ·subst h;simp
 ·simp[h]
theorem BZ(l:List PEdge)(v:Nat):(ins l v).length<=l.length:=List.length_filterMap_le _ _
def kU(n:Nat)(l:List PEdge):List Nat:=(List.range n).map (rest l [])
theorem rV{n:Nat}{l:List PEdge}:(kU n l).length=n:=by simp[kU]
theorem Dt{l:List PEdge}{e:PEdge}{v:Nat}:rest (l++[e]) [] v=if e.s=v then rest l [] v+1 else rest l [] v:=by
 unfold rest;rw[List.countP_append];by_cases h:e.s=v <;> simp[h]
theorem AE(l:List PEdge)(v:Nat):rest l [] v<=l.length:=List.countP_le_length
theorem FG{n:Nat}:kU n []=List.replicate n 0:=List.ext_getElem (by simp[kU]) fun i h1 h2=>by simp[kU,rest]
theorem tV{n:Nat}{l:List PEdge}{v:Nat}(h:v<n):(kU n l).getD v 0=rest l [] v:=by simp[kU,List.getD_eq_getElem?_getD,h]
theorem DE{n:Nat}{l:List PEdge}{e:PEdge}:kU n (l++[e])=(kU n l).set e.s (rest l [] e.s+1):=by
 refine List.ext_getElem (by simp[kU]) fun i h1 h2=>?_
 rw[List.getElem_set]
 simp only[kU,List.getElem_map,List.getElem_range,Dt]
 by_cases h:e.s=i
 ·subst h;simp
 ·simp[h]
theorem l8{l:List Nat}{i:Nat}(z:Nat)(h:i<l.length):D.nth (aF l) i=.int .i64 (l.getD i z:Nat):=by
 rw[D.nth_map h];simp[List.getD_eq_getElem?_getD,List.getElem?_eq_getElem h]
theorem yr{l:List Nat}{i n:Nat}:(aF l).set i (.int .i64 (n:Int))=aF (l.set i n):=by simp[List.map_set]
theorem xU{n z:Nat}:aF (List.replicate n z)=List.replicate n (.int .i64 (z:Int)):=by simp
def lP(left:List Nat)(k:Nat):List Nat:=(List.range k).filter fun v=>left.getD v 0 == 0
theorem zc{left:List Nat}{k:Nat}:lP left (k+1)=if left.getD k 0=0 then lP left k++[k] else lP left k:=by
 unfold lP
 rw[List.range_succ,List.filter_append]
 by_cases h:left.getD k 0=0
 ·rw[if_pos h];simp only[List.filter_cons,h,beq_self_eq_true,if_true,List.filter_nil]
 ·have:(left.getD k 0 == 0)=false:=by simpa using h
  rw[if_neg h];simp only[List.filter_cons,this,Bool.false_eq_true,if_false,List.filter_nil,List.append_nil]
theorem Dy{left:List Nat}{k:Nat}:(lP left k).length<=k:=by
 have:=List.length_filter_le (fun v=>left.getD v 0 == 0) (List.range k);simpa [lP] using this
theorem LE{n:Nat}{l:List PEdge}:KI n l (kU n l) (List.replicate n 0) (lP (kU n l) n) [] none [] where
 ll:=rV
 lv:=by simp
 qn v hv:=by simp[lP]at hv;exact hv.1
 nd:=List.Nodup.sublist List.filter_sublist List.nodup_range
 sub v hv:=by cases hv
 cnt v hv:=by rw[tV hv];simp
 free v hv:=by simp[lP,hv]
 down e he ht:=by cases ht
 next v hv:=.inl (by simp[List.getD_eq_getElem?_getD,List.getElem?_replicate,hv])
 ub v hv:=by simp[List.getD_eq_getElem?_getD,List.getElem?_replicate,hv]
 uw x hx:=by cases hx
abbrev rJ:List (Nat×a8):=[(53,au Jx)]
theorem dH:OkG Tryz.prog (tbl rJ):=ai Bc ae
theorem Bt:OkF Tryz.prog 23 (au wr):=by
 refine az Tryz.func23 rfl (by decide) ?_
 rintro ds v ⟨n,l,rfl,hll,rfl⟩
 refine al [5] (Γ:=tbl rJ) dH _ _ _ ?_
 simp only[go_sem,Tryz.ntmps23]
 refine ah Jx (by simp) [.int .i64 n,.sl (some 4) (dW l)] _ rfl ⟨n,l,rfl,hll,rfl⟩ (.inl rfl) ?_
 by_cases h:gE n l=0
 case neg =>
  unfold k8
  rw[if_pos h]
  simp only[go_sem,h]
  refine aZ (.inl rfl) [.tmp 4,.tmp 5] rfl ?_
  simp only[go_sem]
  exact bp (by simp only[go_sem]) (by simp only[go_sem])
 unfold k8
 rw[if_neg (by rw[h];decide)]
 obtain⟨n,rfl,hg⟩:=OM h hll
 have hn4:=hg.n4
 have hEt:∀e∈l,e.t<n:=fun e he=>(hg.dst e he).2
 rw[Int.toNat_natCast]
 simp only[go_sem,h]
 refine E8 (ob:=0) (ko:=0) (pf:=[]) (mf:=[]) (ms:=[]) (ks:=[]) mixed dH (fun g _ _ _ _ _ h=>by cases h) fQ
  (.one 0 (.one 2 (.alt 1 (.one 4 (.one 3 (.one 5 .fin))) (.alt 3 (.one 1 (.one 4 (.one 5 .fin))) .stop)))) (by kernel_rfl) ?_
 simp only[go_sem,and_true]
 apply M8
 ·intro hQ
  exact⟨Int.le_refl _,by omega,Int.le_refl _,by omega,hQ⟩
 ·intro hQ
  refine⟨Int.le_refl _,by omega,Int.le_refl _,by omega,?_⟩
  refine av (ol (own':=[.row none (List.replicate n (.int .i64 0)),.vec (List.replicate n .nils)]) 0 1 (by decide:(0:Nat)<2) (by decide:(1:Nat)<2) rfl ?_) hQ
  show _=[Obj.ren (swp 0 1) (.row none (List.replicate n (.int .i64 0))),Obj.ren (swp 0 1) (.vec (List.replicate n .nils))]
  simp only[Obj.ren,ur]
 refine av (yM 1 none n rfl (Nat.zero_le _)) ?_
 have dG:∀x M,(List.set [x,Obj.vec (List.replicate n AV.nils)] 1 (Obj.vec M))++dT none (List.replicate n [])=x :: .vec M :: dT none (List.replicate n []):=fun x M=>rfl
 rw[dG]
 refine a6 (Γ:=tbl rJ) dH _ _ _ ?_
 simp only[go_sem,cZ]
 refine ap (fun k:Nat=>⟨an 125 [(0,.dat (.int .i64 n)),(7,.sl 0 0 n),(8,.sl 1 0 n),(28,.dat (.sl (some 4) (dW l))),(29,.dat (.int .i64 l.length)),(30,.dat (.int .i64 k))],
   .row none (aF (kU n (l.take k))) :: .vec (fv 2 (l9 (kj n (l.take k)))) :: dT none (l9 (kj n (l.take k))),0,[]⟩)
  (fun k=>k<=l.length) (fun k=>l.length - k) 0 (Nat.zero_le _) ?_ ?_
 ·rw[List.take_zero,Hm,FG,xU]
  simp only[l9,List.map_replicate,aF,List.map_nil,List.length_cons,List.length_nil]
  exact a7 (by simp only[go_sem,Int.natCast_zero])
 rintro k hk
 cases hd:l.drop k with
 | cons e r =>
  have hlt:=ao hd
  have hk2:(k:Int)<l.length:=by omega
  have hk0:(0:Int)<=k:=Int.natCast_nonneg k
  have hn:=ak (f:=pN) hd
  have hem:=aN hd
  obtain⟨hs1,hs2⟩:=hg.src e hem
  obtain⟨ht1,ht2⟩:=hg.dst e hem
  have hsn:(e.s:Int)<n:=by omega
  have htn:(e.t:Int)<n:=by omega
  have S4:=AA (n:=n) (l:=l.take k) (e:=e)
  have aau:=DE (n:=n) (l:=l.take k) (e:=e)
  rw[← aC hd]at S4 aau
  have dj:=zl (M:=kj n (l.take k)) (i:=e.t)
  rw[Di ht2]at dj
  have hlen:=BZ (l.take k) e.t
  have hrl:=AE (l.take k) e.s
  rw[List.length_take]at hlen hrl
  have hol:=rV (n:=n) (l:=l.take k)
  have abH:e.s<(kU n (l.take k)).length:=by omega
  have hog:=l8 0 abH
  rw[tV hs2]at hog
  have MD:((rest (l.take k) [] e.s:Nat):Int)+1=((rest (l.take k) [] e.s+1:Nat):Int):=by omega
  have hM:(l9 (kj n (l.take k))).length=n:=by rw[Cq,sf]
  have hMl:e.t<(l9 (kj n (l.take k))).length:=by rw[hM];exact ht2
  have hR:=Bq (b:=2) hMl
  rw[dj]at hR
  have hO:=uF (ag:=none) hMl
  rw[dj]at hO
  have hK:=r9 (b:=2) hMl
  have hS:=fun l'=>uV (ag:=none) (l:=l') hMl
  have hFl:=cC 2 (l9 (kj n (l.take k)))
  rw[hM]at hFl
  refine a6 (Γ:=tbl rJ) dH _ _ _ ?_
  have hne:¬(dT none (l9 (kj n (l.take k)))).length=e.t:=by rw[ou,hM];omega
  have YI:¬0=e.t+2:=by omega
  have YJ:¬1=e.t+2:=by omega
  simp only[go_sem,hk2,hk0,hn,hlt,cZ,pN,hs1,ht1,Fx,Kw,hsn,hs2,ba,hol,hog,MD,yr]
  refine⟨ac.2 (by omega),?_⟩
  refine CD (ko:=e.t+2) (pf:=[]) (mf:=[]) (ms:=[0,1,2,12,11]) mixed dH (fun g _ _ _ _ _ h=>by cases h) fQ [0,1,2,12,3,4,5,6,7,8,9,10,11,13] (by kernel_rfl) ?_
  simp only[go_sem,hR,hFl,hO,hK,hS,hne,YI,YJ,Fx,PW,Kw,JM,htn,ht2,tu hMl,up hMl,dj,km,lJ,List.append_assoc,List.cons_append,List.nil_append,List.set_set,cF,ba,jY,if_false]
  refine⟨by omega,by omega,ac.2 (by omega),k+1,by omega,by omega,?_⟩
  rw[uC (l:=aF (ins (l.take k) e.t++[e.s])) (by simp),CZ,← S4,← aau]
  refine wT (pre:=[_,_]) (Nat.zero_le _) ?_ ?_ ?_
  ·simp only[go_sem,Int.natCast_add,Int.cast_ofNat_Int]
  ·simp only[go_sem]
  ·exact⟨trivial,j5 _ _ _ (Nat.le_refl _),trivial⟩
 | nil =>
 have:=aj hd hk
 have hk2:¬(k:Int)<l.length:=by omega
 subst this
 rw[List.take_length]
 have hrl:((kj n l).map pw).length=n:=by simp[sf]
 have hrt:List.take n ((kj n l).map pw)=(kj n l).map pw:=List.take_of_length_le (by rw[hrl];exact Nat.le_refl _)
 refine av (uT (pre:=[.row none (aF (kU n l)),.vec (fv 2 (l9 (kj n l)))]) (s':=an 125 [(0,.dat (.int .i64 n)),(7,.sl 0 0 n),(8,.dat (.sl none ((kj n l).map pw))),(29,.dat (.int .i64 l.length)),(30,.dat (.int .i64 l.length))]) (pre':=[.row none (aF (kU n l)),.dead]) 1 rfl (Nat.zero_le _) ?_ ?_ ?_ ?_) ?_
 ·simp only[List.map_cons,List.map_nil,gD,i6,n5,AV.frzs,AV.frz,Obj.frz];rfl
 ·rw[G3]
  simp only[go_sem,i6,n5,x9,t8,E4,Gs,AV.frzs,AV.frz,Nat.lt_irrefl,Nat.reduceLT,Nat.zero_lt_one,true_or,List.drop_zero,hrl,hrt,Nat.zero_add,Nat.le_refl,if_true,Nat.reduceEqDiff,↓reduceIte,Nat.zero_ne_one]
 ·simp only[go_sem]
 ·simp only[go_sem,Obj.under,AV.unders,AV.under]
 refine a6 (Γ:=tbl rJ) dH _ _ _ ?_
 simp only[go_sem,hk2,cZ]
 refine⟨Int.le_refl _,by omega,?_⟩
 refine av (cQ 12 none rfl (Nat.zero_le _)) ?_
 simp only[go_sem]
 have hol:=rV (n:=n) (l:=l)
 have e0:List.replicate n (D.int .i64 0)=aF (List.replicate n 0):=by rw[xU];rfl
 rw[e0]
 refine ap (fun k:Nat=>⟨an 125 [(0,.dat (.int .i64 n)),(7,.sl 0 0 n),(8,.dat (.sl none ((kj n l).map pw))),(11,.sl 2 0 n),(12,.sl 3 0 (lP (kU n l) k).length),(57,.sl 0 0 n),(58,.dat (.int .i64 n)),(59,.dat (.int .i64 k))],
   [.row none (aF (kU n l)),.dead,.row none (aF (List.replicate n 0)),.row none (aF (lP (kU n l) k))],0,[]⟩)
  (fun k=>k<=n) (fun k=>n - k) 0 (Nat.zero_le _) ?_ ?_
 ·exact a7 (by simp only[go_sem,Int.natCast_zero,lP,List.range_zero,List.filter_nil])
 rintro k hk
 by_cases hkn:k=n
 case neg =>
  have Ve:(k:Int)<n:=by omega
  have hk3:k<n:=by omega
  have hk4:k<(kU n l).length:=by omega
  have hog:=l8 0 hk4
  have hfs:=zc (left:=kU n l) (k:=k)
  have hfl:=Dy (left:=kU n l) (k:=k)
  refine a6 (Γ:=tbl rJ) dH _ _ _ ?_
  by_cases hz:(kU n l).getD k 0=0
  ·rw[if_pos hz]at hfs
   have hz2:(((kU n l).getD k 0:Nat):Int)=0:=by omega
   simp only[go_sem,Ve,hk3,ba,hol,hog,hz2,cF,jY]
   refine⟨by omega,by omega,ac.2 (by omega),k+1,by omega,by omega,?_⟩
   rw[hfs]
   refine aP (own:=[_,_,_,_]) (ex:=[_]) (Nat.zero_le _) ?_ ?_ ?_
   ·simp only[go_sem,Int.natCast_add,Int.cast_ofNat_Int,List.length_append,List.length_cons,List.length_nil,Nat.zero_add]
   ·simp only[go_sem]
   ·simp only[go_sem,Obj.under,AV.unders,AV.under]
  ·rw[if_neg hz]at hfs
   have hz2:¬(((kU n l).getD k 0:Nat):Int)=0:=by omega
   simp only[go_sem,Ve,hk3,ba,hol,hog,hz2]
   refine⟨ac.2 (by omega),k+1,by omega,by omega,?_⟩
   rw[hfs]
   exact a7 (by simp only[go_sem,Int.natCast_add,Int.cast_ofNat_Int])
 subst hkn
 have Ve:¬(k:Int)<k:=by omega
 refine a6 (Γ:=tbl rJ) dH _ _ _ ?_
 simp only[go_sem,Ve]
 refine ap (fun p:List Nat×List Nat×List Nat×Nat=>⟨an 125 [(0,.dat (.int .i64 k)),(7,.sl 0 0 k),(8,.dat (.sl none ((kj k l).map pw))),(11,.sl 2 0 k),(12,.sl 3 0 p.2.2.1.length),(15,.dat (.int .i64 p.2.2.2))],
   [.row none (aF p.1),.dead,.row none (aF p.2.1),.row none (aF p.2.2.1)],0,[]⟩)
  (fun p=>p.2.2.2<=p.2.2.1.length/\KI k l p.1 p.2.1 p.2.2.1 (p.2.2.1.take p.2.2.2) none []) (fun p=>k - p.2.2.2) (kU k l,List.replicate k 0,lP (kU k l) k,0) ⟨Nat.zero_le _,by simpa using LE⟩ ?_ ?_
 ·exact a7 (by simp only[go_sem,Int.natCast_zero])
 rintro ⟨left,lev,q,d⟩ ⟨hdq,hI⟩
 simp only at hdq hI
 have hql:=hI.qle
 refine a6 (Γ:=tbl rJ) dH _ _ _ ?_
 by_cases hde:d=q.length
 case pos =>
  subst hde
  rw[List.take_length]at hI
  have hd2:¬(q.length:Int)<q.length:=by omega
  have hlv:=hI.lv
  by_cases hqn:q.length<k
  ·have YL:(q.length:Int)<k:=by omega
   rw[hI.stuck hqn hEt]
   simp only[go_sem,hd2,YL]
   refine aZ (.inl rfl) [.tmp 4,.tmp 5] rfl ?_
   simp only[go_sem]
   exact bp (by simp only[go_sem]) (by simp only[go_sem])
  ·have YL:¬(q.length:Int)<k:=by omega
   rw[hI.all (by omega) hEt]
   simp only[go_sem,hd2,YL]
   refine aZ (.inl rfl) [.tmp 4,.tmp 5] rfl ?_
   simp only[go_sem]
   refine Le.trans (aq 2 (ag:=none) rfl (Nat.zero_le _)) ?_
   have e1:List.take k (aF lev)=aF lev:=List.take_of_length_le (by simp[hlv])
   simp only[go_sem,e1,ba,hlv,Nat.le_refl]
   exact bp (by simp only[go_sem]) (by simp only[go_sem])
 have hdl:d<q.length:=by omega
 obtain⟨w,hw⟩:∃w,q[d]?=some w:=⟨_,List.getElem?_eq_getElem hdl⟩
 have hwq:=List.mem_of_getElem? hw
 have hwn:=hI.qn w hwq
 have aav:(w:Int)<k:=by omega
 have hd2:(d:Int)<q.length:=by omega
 have hd0:(0:Int)<=d:=Int.natCast_nonneg d
 have hnw:=yq hw
 have abI:=H1 (EP (l:=l) hwn)
 have hML:((kj k l).map pw).length=k:=by simp[sf]
 have htk:q.take (d+1)=q.take d++[w]:=by rw[List.take_add_one,hw];rfl
 have hwT:¬w∈q.take d:=fun hm=>by
  have hnd:=hI.nd
  rw[← List.take_append_drop (d+1) q,htk,List.append_assoc,List.nodup_append]at hnd
  exact hnd.2.2 w hm w (by simp) rfl
 have hS:=hI.start hwq hwT
 rw[← htk]at hS
 simp only[go_sem,hd2,hd0,hdl,ba,hnw,hwn,aav,hML,abI]
 refine ap (fun p:List Nat×List Nat×List Nat×Nat=>⟨an 125 [(0,.dat (.int .i64 k)),(7,.sl 0 0 k),(8,.dat (.sl none ((kj k l).map pw))),(11,.sl 2 0 k),(12,.sl 3 0 p.2.2.1.length),(15,.dat (.int .i64 d)),
   (83,.dat (.sl none (aF (ins l w)))),(84,.dat (.int .i64 (ins l w).length)),(85,.dat (.int .i64 p.2.2.2))],
   [.row none (aF p.1),.dead,.row none (aF p.2.1),.row none (aF p.2.2.1)],0,[]⟩)
  (fun p=>p.2.2.2<=(ins l w).length/\d<p.2.2.1.length/\p.2.2.1[d]?=some w/\p.2.2.1.length<=k/\KI k l p.1 p.2.1 p.2.2.1 (p.2.2.1.take (d+1)) (some w) ((ins l w).drop p.2.2.2)) (fun p=>(ins l w).length - p.2.2.2) (left,lev,q,0) ⟨Nat.zero_le _,hdl,hw,hql,hS⟩ ?_ ?_
 ·exact a7 (by simp only[go_sem,Int.natCast_zero])
 clear hS hwT htk hnw hd2 hw hwq hdl hde hql hI hdq left lev q
 rintro ⟨left,lev,q,j⟩ ⟨hj,hdl,hw,hql,hI⟩
 simp only at hj hdl hw hql hI
 refine a6 (Γ:=tbl rJ) dH _ _ _ ?_
 cases hd3:(ins l w).drop j with
 | nil =>
  have:=aj hd3 hj
  have hj2:¬(j:Int)<(ins l w).length:=by omega
  rw[hd3]at hI
  simp only[go_sem,hj2]
  refine⟨ac.2 (by omega),(left,lev,q,d+1),⟨by simp only;omega,hI.stop⟩,by simp only;omega,?_⟩
  exact a7 (by simp only[go_sem,Int.natCast_add,Int.cast_ofNat_Int])
 | cons v r =>
  have hlt:=ao hd3
  have hil:=BZ l w
  have hj2:(j:Int)<(ins l w).length:=by omega
  have hj0:(0:Int)<=j:=Int.natCast_nonneg j
  have hn:=ak (f:=Na) hd3
  have hvm:=aN hd3
  obtain⟨e,he,hes,het⟩:=AF.1 hvm
  have hvn:v<k:=by rw[← hes];exact(hg.src e he).2
  have abJ:(v:Int)<k:=by omega
  rw[hd3]at hI
  have Ao:=hI.cnt v hvn
  rw[List.count_cons_self]at Ao
  have hnew:=hI.step hvn (by rw[List.take_add_one,hw];simp) ⟨e,he,hes,het⟩
  have abK:=hI.ll
  have abL:=hI.lv
  have gl:=l8 (l:=left) 0 (show v<left.length by omega)
  have gv:=l8 (l:=lev) 0 (show v<lev.length by omega)
  have gw:=l8 (l:=lev) 0 (show w<lev.length by omega)
  have hnw:=yq hw
  have hd2:(d:Int)<q.length:=by omega
  have hmx:max ((lev.getD v 0:Nat):Int) (((lev.getD w 0:Nat):Int)+1)=((max (lev.getD v 0) (lev.getD w 0+1):Nat):Int):=by omega
  have hsb:((left.getD v 0:Nat):Int) - 1=((left.getD v 0 - 1:Nat):Int):=by omega
  have gl2:=l8 (l:=left.set v (left.getD v 0 - 1)) 0 (i:=v) (by rw[List.length_set];omega)
  rw[cE,if_pos ⟨rfl,by omega⟩]at gl2
  simp only[go_sem,hj2,hj0,hn,hlt,ba]
  refine iK (ob:=2) (pf:=[]) (mf:=[]) (ms:=[]) mixed dH (fun g _ _ _ _ _ h=>by cases h) fQ [0,1,2,3,4,5,6,7,8,9,10,11,12,13,14,15,16] (by kernel_rfl) ?_
  simp only[go_sem,bh,opm,hvn,abJ,hwn,aav,ba,abL,abK,gv,gw,gl,hnw,hd2,hdl,hmx,hsb,yr,List.length_set,gl2]
  have huw:=hI.uw w rfl
  rw[List.length_take]at huw
  have hrl:=AE l v
  have hlb:left.getD v 0<=30000:=by
   have h1:rest l (q.take (d+1)) v<=l.length:=List.countP_le_length
   have h2:r.length<=(ins l w).length:=by have:=congrArg List.length hd3;simp at this;omega
   have h3:=List.count_le_length (a:=v) (l:=r)
   omega
  refine⟨ac.2 (by omega),ac.2 (by omega),?_⟩
  have hdr:=aE hd3
  by_cases hz:left.getD v 0 - 1=0
  ·have hz2:((left.getD v 0 - 1:Nat):Int)=0:=by omega
   rw[if_pos hz]at hnew
   have abM:(q++[v]).length<=k:=kO hnew.nd hnew.qn
   rw[List.length_append,List.length_singleton]at abM
   simp only[go_sem,hz2,cF,ba,jY]
   refine⟨by omega,by omega,ac.2 (by omega),(left.set v (left.getD v 0 - 1),lev.set v (max (lev.getD v 0) (lev.getD w 0+1)),q++[v],j+1),⟨by simp only;omega,by simp;omega,by simp only;rw[List.getElem?_append_left hdl];exact hw,by simp;omega,?_⟩,by simp only;omega,?_⟩
   ·simp only[hdr]
    rw[List.take_append_of_le_length (by omega)]
    exact hnew
   ·refine aP (own:=[_,_,_,_]) (ex:=[_]) (Nat.zero_le _) ?_ ?_ ?_
    ·simp only[go_sem,Int.natCast_add,Int.cast_ofNat_Int,List.length_append,List.length_cons,List.length_nil,Nat.zero_add]
    ·simp only[go_sem]
    ·simp only[go_sem,Obj.under,AV.unders,AV.under]
  ·have hz2:¬((left.getD v 0 - 1:Nat):Int)=0:=by omega
   rw[if_neg hz]at hnew
   simp only[go_sem,hz2]
   refine⟨ac.2 (by omega),(left.set v (left.getD v 0 - 1),lev.set v (max (lev.getD v 0) (lev.getD w 0+1)),q,j+1),⟨by simp only;omega,hdl,hw,hql,by simp only[hdr];exact hnew⟩,by simp only;omega,?_⟩
   exact a7 (by simp only[go_sem,Int.natCast_add,Int.cast_ofNat_Int])
def Xv(E:List (Nat×Nat)):Prop:=∀k v,¬Wk E (k+1) v v
theorem FJ{E:List (Nat×Nat)}{n:Nat}(hE:∀p∈E,p.2<n)(hA:Xv E):∀{k a v:Nat},a<n->Wk E k a v->k<n:=by
 have key:∀(k a v:Nat),a<n->Wk E k a v->∃L:List Nat,L.length=k+1/\L.Nodup/\v<n/\∀x∈L,x<n/\∃m,Wk E m x v:=by
  intro k
  induction k with
  | zero=>intro a v ha h;cases h;exact⟨[a],rfl,by simp,ha,fun x hx=>by simp at hx;subst hx;exact⟨ha,0,rfl⟩⟩
  | succ k ih =>
   rintro a v ha ⟨u,hu,hw⟩
   obtain⟨L,h1,h2,h3,h4⟩:=ih a u ha hw
   refine⟨v :: L,by simp[h1],List.nodup_cons.2 ⟨fun hm=>?_,h2⟩,hE _ hu,fun x hx=>?_⟩
   ·obtain⟨_,m,hm⟩:=h4 v hm
    exact hA m v ⟨u,hu,hm⟩
   ·rcases List.mem_cons.1 hx with rfl|hx
    ·exact⟨hE _ hu,0,rfl⟩
    ·obtain⟨g1,m,g2⟩:=h4 x hx
     exact⟨g1,m+1,u,hu,g2⟩
 intro k a v ha h
 obtain⟨L,h1,h2,_,h4⟩:=key k a v ha h
 have:=kO h2 (fun x hx=>(h4 x hx).1)
 omega
theorem qz7{l:List PEdge}{f:Nat->Nat}(hf:∀e∈l,f e.t<f e.s):Xv (eF l):=by
 have key:∀k a v,Wk (eF l) k a v->f v+k<=f a:=by
  intro k
  induction k with
  | zero=>intro a v h;cases h;omega
  | succ k ih =>
   rintro a v ⟨u,hu,hw⟩
   obtain⟨e,he,h2⟩:=List.mem_map.1 hu
   cases h2
   have:=ih a e.s hw
   have:=hf e he
   omega
 intro k v h
 have:=key _ _ _ h
 omega
structure LR (n:Nat) (l:List PEdge) (out:List Nat) (r:Nat) (P:List PEdge) (more:Bool):Prop where
 len:out.length=n
 walk:∀v,v<n->∃u,Wk (eF l) (out.getD v 0) v u
 comp:∀v j u,v<n->j<=r->Wk (eF l) j v u->j<=out.getD v 0
 done:∀e∈P,∀j u,j<=r->Wk (eF l) j e.t u->j+1<=out.getD e.s 0
 flat:more=false->∀e∈P,out.getD e.t 0<out.getD e.s 0
 cyc:more=true->n<=r->¬Xv (eF l)
 ub:∀v,v<n->out.getD v 0<=r*l.length+P.length
theorem LR.init{n:Nat}{l:List PEdge}:LR n l (List.replicate n 0) 0 [] false where
 len:=by simp
 walk v hv:=⟨v,by simp[List.getD_eq_getElem?_getD,List.getElem?_replicate,hv];rfl⟩
 comp v j u hv hj h:=by omega
 done e he:=by cases he
 flat _ e he:=by cases he
 cyc h:=by cases h
 ub v hv:=by simp[List.getD_eq_getElem?_getD,List.getElem?_replicate,hv]
section
variable {n r:Nat} {l P:List PEdge} {out:List Nat} {more:Bool} {e:PEdge}
theorem LR.keep(h:LR n l out r P more)(hg:GOk n l)(he:e∈l)(hlt:¬out.getD e.s 0<out.getD e.t 0+1):LR n l out r (P++[e]) more:=by
 refine { h with done:=fun x hx j u hj hw=>?_,flat:=fun hm x hx=>?_,ub:=fun v hv=>?_ }
 ·rcases List.mem_append.1 hx with hx|hx
  ·exact h.done x hx j u hj hw
  ·simp at hx;subst hx
   have:=h.comp x.t j u (hg.dst x he).2 hj hw
   omega
 ·rcases List.mem_append.1 hx with hx|hx
  ·exact h.flat hm x hx
  ·simp at hx;subst hx;omega
 ·have:=h.ub v hv;rw[List.length_append];omega
theorem LR.lift(h:LR n l out r P more)(hg:GOk n l)(he:e∈l)(hlt:out.getD e.s 0<out.getD e.t 0+1):LR n l (out.set e.s (out.getD e.t 0+1)) r (P++[e]) true:=by
 have hs:=(hg.src e he).2
 have ht:=(hg.dst e he).2
 have hgv:∀v,(out.set e.s (out.getD e.t 0+1)).getD v 0=if e.s=v then out.getD e.t 0+1 else out.getD v 0:=fun v=>by
  rw[cE]
  by_cases h2:e.s=v
  ·rw[if_pos ⟨h2,by rw[h.len];exact hs⟩,if_pos h2]
  ·rw[if_neg (fun hh=>h2 hh.1),if_neg h2]
 have hup:∀v,out.getD v 0<=(out.set e.s (out.getD e.t 0+1)).getD v 0:=fun v=>by
  rw[hgv];split
  ·rename_i h2;subst h2;omega
  ·omega
 have jk:(e.s,e.t)∈eF l:=List.mem_map.2 ⟨e,he,rfl⟩
 refine⟨by simp[h.len],fun v hv=>?_,fun v j u hv hj hw=>Nat.le_trans (h.comp v j u hv hj hw) (hup v),fun x hx j u hj hw=>?_,fun hm=>(by cases hm),fun _ hr hA=>?_,fun v hv=>?_⟩
 ·rw[hgv]
  split
  ·rename_i h2;subst h2
   obtain⟨u,hu⟩:=h.walk e.t ht
   exact⟨u,wA jk hu⟩
  ·exact h.walk v hv
 ·rcases List.mem_append.1 hx with hx|hx
  ·exact Nat.le_trans (h.done x hx j u hj hw) (hup x.s)
  ·simp at hx;subst hx
   rw[hgv,if_pos rfl]
   have:=h.comp x.t j u ht hj hw
   omega
 ·obtain⟨u,hu⟩:=h.walk e.t ht
  have hw:=wA jk hu
  have h1:=FJ hg.eFlt hA hs hw
  have:=h.comp e.s _ u hs (by omega) hw
  omega
 ·rw[hgv]
  have h1:=h.ub e.t ht
  have h2:=h.ub v hv
  rw[List.length_append,List.length_singleton]
  split <;> omega
theorem LR.next(h:LR n l out r l more)(hE:∀e∈l,e.s<n):LR n l out (r+1) [] false where
 len:=h.len
 walk:=h.walk
 comp v j u hv hj hw:=by
  cases j with
  | zero=>omega
  | succ j =>
   obtain⟨b,hb,hw⟩:=rD hw
   obtain⟨e,he,h2⟩:=List.mem_map.1 hb
   cases h2
   exact h.done e he j u (by omega) hw
 done e he:=by cases he
 flat _ e he:=by cases he
 cyc h:=by cases h
 ub v hv:=by have:=h.ub v hv;rw[Nat.succ_mul,List.length_nil];omega
theorem LR.stop(h:LR n l out r l false)(hg:GOk n l):vW n l=some out:=by
 have hd:=h.flat rfl
 have hA:=qz7 (f:=fun v=>out.getD v 0) hd
 have pot:∀k a v,Wk (eF l) k a v->k<=out.getD a 0:=by
  have key:∀k a v,Wk (eF l) k a v->out.getD v 0+k<=out.getD a 0:=by
   intro k
   induction k with
   | zero=>intro a v h;cases h;omega
   | succ k ih =>
    rintro a v ⟨u,hu,hw⟩
    obtain⟨e,he,h2⟩:=List.mem_map.1 hu
    cases h2
    have:=ih a e.s hw
    have:=hd e he
    omega
  intro k a v hw
  have:=key k a v hw
  omega
 have hl:IsLev n l fun v=>out.getD v 0:=⟨hd,fun v hv=>by
  by_cases h0:out.getD v 0=0
  ·exact .inl h0
  ·obtain⟨u,hu⟩:=h.walk v hv
   obtain⟨m,hm⟩:∃m,out.getD v 0=m+1:=⟨out.getD v 0 - 1,by omega⟩
   rw[hm]at hu
   obtain⟨b,hb,hw⟩:=rD hu
   obtain⟨e,he,h2⟩:=List.mem_map.1 hb
   cases h2
   have h3:=pot m e.t u hw
   have h4:=hd e he
   exact .inr ⟨e,he,rfl,by omega⟩⟩
 rw[nt (fun e he=>(hg.dst e he).2) hl]
 congr 1
 refine List.ext_getElem (by simp[h.len]) fun i h1 h2=>?_
 simp[List.getD_eq_getElem?_getD,List.getElem?_eq_getElem h2]
end
end Go.AM

