/- Own work over the model of the kit. -/
import Derived.Test.YtmmbjdgmhdjbjaaGreatDoorD17
import Derived.Test.YtmmbjdgmhdjbjaaGreatDoorD16
import Derived.Test.YtmmbjdgmhdjbjaaGreatDoorD11
import Derived.Test.YtmmbjdgmhdjbjaaGreatDoorD12
set_option linter.unnecessarySimpa false
set_option linter.unusedSimpArgs false
set_option linter.unusedVariables false
set_option maxHeartbeats 4000000
set_option maxRecDepth 8000
namespace Go.AM
open Go Go.Proofs
def hU:Nat->List Int->List Int
 | _,[]=>[]
 | i,n :: r=>if 0<n then (i:Int) :: hU (i+1) r else hU (i+1) r
def hB(off:Int):Nat->List Bool->List Int
 | _,[]=>[]
 | i,b :: r=>if b=true then (off+i) :: hB off (i+1) r else hB off (i+1) r
def hC(s:PSys)(c:PCls)(i:Int):List Int:=if c.server=true then [(s.pools.length:Int)+s.locks.length+i] else []
def kn(s:PSys)(c:PCls)(i:Int)(L:List PStep):List Int:=hU 0 (Af s L)++hB s.pools.length 0 (Aj s L)++hC s c i
theorem Ii:∀(i:Nat) (l:List Int),(hU i l).length<=l.length
 | _,[]=>by simp[hU]
 | i,n :: r=>by
  have:=Ii (i+1) r
  simp only[hU];split <;> simp only[List.length_cons] <;> omega
theorem Jq(off:Int):∀(i:Nat) (l:List Bool),(hB off i l).length<=l.length
 | _,[]=>by simp[hB]
 | i,n :: r=>by
  have:=Jq off (i+1) r
  simp only[hB];split <;> simp only[List.length_cons] <;> omega
def KB(ds:List D)(v:AV):Prop:=∃(s:PSys) (i j:Nat),ds=[aY s,.int .i64 i,.int .i64 j]/\s.fit/\aT s=0/\i<s.classes.length/\j<=(s.classes.getD i default).steps.length /\
 v=.dat (.sl none (aA (kn s (s.classes.getD i default) i ((s.classes.getD i default).steps.take j))))
abbrev Gp:List (Nat×a8):=[(72,au Ku)]
theorem rp:OkG Tryz.prog (tbl Gp):=ai LP ae
theorem vZ:OkF Tryz.prog 49 (au KB):=by
 refine az Tryz.func49 rfl (by decide) ?_
 rintro ds v ⟨s,i,j,rfl,hf,h,hi,hj,rfl⟩
 refine a6 (Γ:=tbl Gp) rp _ _ _ ?_
 have hi2:(i:Int)<s.classes.length:=by omega
 have hi0:(0:Int)<=i:=Int.natCast_nonneg i
 have hnc:D.nth (s.classes.map bf) i=bf (s.classes.getD i default):=D.nth_map hi
 have hV:=Bb h hi hj
 have hg:=eJ h
 have hnp:=hg.np
 have hnl:=hg.nl
 have acq:=hg.nc
 generalize s.classes.getD i default=c at *
 generalize hL:c.steps.take j=L at *
 simp only[go_sem,Tryz.ntmps49,aY]
 refine ah Ku (by simp) [aY s,.int .i64 i,.int .i64 j] _ rfl ⟨s,i,j,rfl,hf,hV.symm⟩ (.inl rfl) ?_
 have hUl:=rT s L
 have hBl:=s7 s L
 have hv:kn s c i L=hU 0 (Af s L)++hB s.pools.length 0 (Aj s L)++hC s c i:=rfl
 generalize kn s c i L=V at *
 generalize Af s L=U at *
 generalize Aj s L=B at *
 simp only[go_sem,bV,List.length_map,hUl,hBl]
 refine av (cQ 10 none rfl (Nat.zero_le _)) ?_
 simp only[go_sem]
 refine ap (fun p:Nat×List Int=>⟨an 73 [(1,.dat (.int .i64 i)),(3,.ptr 0 0 0),(8,.dat (.sl none (b6 B))),(10,.sl 1 0 p.2.length),(23,.dat (.sl none (aA U))),(24,.dat (.int .i64 s.pools.length)),(25,.dat (.int .i64 p.1))],
   [jO s,.row none (aA p.2)],0,[]⟩)
  (fun p=>p.1<=s.pools.length/\p.2.length<=p.1/\p.2++hU p.1 (U.drop p.1)=hU 0 U) (fun p=>s.pools.length - p.1) (0,[]) ⟨Nat.zero_le _,Nat.zero_le _,rfl⟩ ?_ ?_
 ·exact a7 (by simp only[go_sem,Int.natCast_zero])
 ·rintro ⟨k,acc⟩ ⟨hk,ha,hI⟩
  simp only at hk ha hI
  refine a6 (Γ:=tbl Gp) rp _ _ _ ?_
  cases hd:U.drop k with
  | nil =>
   have:=aj hd (by omega)
   have hk2:¬(k:Int)<s.pools.length:=by omega
   rw[hd,hU,List.append_nil]at hI
   subst hI
   simp only[go_sem,hk2,List.length_map,hBl]
   refine ap (fun p:Nat×List Int=>⟨an 73 [(1,.dat (.int .i64 i)),(3,.ptr 0 0 0),(10,.sl 1 0 p.2.length),(37,.dat (.sl none (b6 B))),(38,.dat (.int .i64 s.locks.length)),(39,.dat (.int .i64 p.1))],
     [jO s,.row none (aA p.2)],0,[]⟩)
    (fun p=>p.1<=s.locks.length/\p.2.length<=s.pools.length+p.1/\p.2++hB s.pools.length p.1 (B.drop p.1)=hU 0 U++hB s.pools.length 0 B) (fun p=>s.locks.length - p.1) (0,hU 0 U) ⟨Nat.zero_le _,by simp only;omega,rfl⟩ ?_ ?_
   ·exact a7 (by simp only[go_sem,Int.natCast_zero])
   ·rintro ⟨k,acc⟩ ⟨hk,ha,hI⟩
    simp only at hk ha hI
    refine a6 (Γ:=tbl Gp) rp _ _ _ ?_
    cases hd:B.drop k with
    | nil =>
     have:=aj hd (by omega)
     have hk2:¬(k:Int)<s.locks.length:=by omega
     rw[hd,hB,List.append_nil]at hI
     rw[← hI]at hv
     unfold hC at hv
     simp only[go_sem,hk2,hi2,hi0,hi,hnc,bf]
     cases hs:c.server with
     | true =>
      rw[hs,if_pos rfl]at hv
      simp only[go_sem,hs,dS,bV,od]
      refine⟨ac.2 (by omega),ac.2 (by omega),by omega,by omega,?_⟩
      refine aZ (.inl rfl) [.tmp 6] rfl ?_
      simp only[go_sem]
      refine Le.trans (aq 1 (ag:=none) rfl (Nat.zero_le _)) ?_
      have hl:acc.length+1=V.length:=by rw[hv];simp
      simp only[go_sem,← hv,hl,dS,bV,Nat.le_refl]
      exact bp (by simp only[go_sem]) (by simp only[go_sem])
     | false =>
      rw[hs,if_neg (by simp),List.append_nil]at hv
      subst hv
      simp only[go_sem,hs]
      refine aZ (.inl rfl) [.tmp 6] rfl ?_
      simp only[go_sem]
      refine Le.trans (aq 1 (ag:=none) rfl (Nat.zero_le _)) ?_
      simp only[go_sem,dS,bV,Nat.le_refl]
      exact bp (by simp only[go_sem]) (by simp only[go_sem])
    | cons b q =>
     have hlt:=ao hd
     have hk2:(k:Int)<s.locks.length:=by omega
     have hk3:k<s.locks.length:=by omega
     have hk0:(0:Int)<=k:=Int.natCast_nonneg k
     have hn:=ak (f:=D.bool) hd
     rw[hd,hB]at hI
     simp only[go_sem,hk2,hk3,hk0,hn,hBl,hlt]
     cases b with
     | true =>
      rw[if_pos rfl]at hI
      simp only[go_sem,dS,bV,od]
      refine⟨ac.2 (by omega),by omega,by omega,ac.2 (by omega),(k+1,acc++[(s.pools.length:Int)+k]),⟨by simp only;omega,by simp;omega,?_⟩,by simp only;omega,?_⟩
      ·simp only;rw[aE hd,List.append_assoc];exact hI
      ·refine aP (own:=[_,_]) (ex:=[_]) (Nat.zero_le _) ?_ ?_ ?_
       ·simp only[go_sem,Int.natCast_add,Int.cast_ofNat_Int,List.length_append,List.length_cons,List.length_nil,Nat.zero_add]
       ·simp only[go_sem]
       ·simp only[go_sem,Obj.under,AV.unders,AV.under]
     | false =>
      rw[if_neg (by simp)]at hI
      simp only[go_sem]
      refine⟨ac.2 (by omega),(k+1,acc),⟨by simp only;omega,by simp only;omega,?_⟩,by simp only;omega,?_⟩
      ·simp only;rw[aE hd];exact hI
      ·exact a7 (by simp only[go_sem,Int.natCast_add,Int.cast_ofNat_Int])
  | cons n q =>
   have hlt:=ao hd
   have hk2:(k:Int)<s.pools.length:=by omega
   have hk3:k<s.pools.length:=by omega
   have hk0:(0:Int)<=k:=Int.natCast_nonneg k
   have hn:=ak (f:=D.int .i64) hd
   rw[hd,hU]at hI
   simp only[go_sem,hk2,hk3,hk0,hn,hUl,hlt]
   by_cases hn0:0<n
   ·rw[if_pos hn0]at hI
    simp only[go_sem,hn0,dS,bV,od]
    refine⟨by omega,by omega,ac.2 (by omega),(k+1,acc++[(k:Int)]),⟨by simp only;omega,by simp;omega,?_⟩,by simp only;omega,?_⟩
    ·simp only;rw[aE hd,List.append_assoc];exact hI
    ·refine aP (own:=[_,_]) (ex:=[_]) (Nat.zero_le _) ?_ ?_ ?_
     ·simp only[go_sem,Int.natCast_add,Int.cast_ofNat_Int,List.length_append,List.length_cons,List.length_nil,Nat.zero_add]
     ·simp only[go_sem]
     ·simp only[go_sem,Obj.under,AV.unders,AV.under]
   ·rw[if_neg hn0]at hI
    simp only[go_sem,hn0]
    refine⟨ac.2 (by omega),(k+1,acc),⟨by simp only;omega,by simp only;omega,?_⟩,by simp only;omega,?_⟩
    ·simp only;rw[aE hd];exact hI
    ·exact a7 (by simp only[go_sem,Int.natCast_add,Int.cast_ofNat_Int])
def pB(l:List PEdge)(a b:Int):Bool:=l.any fun y=>decide (y.src=a) && decide (y.dst=b)
def Al(l:List PEdge)(x:PEdge):List PEdge:=if pB l x.src x.dst=true then l else l++[x]
def iN(t i k:Int):List Int->List PEdge->List PEdge
 | [],acc=>acc
 | f :: r,acc=>iN t i k r (Al acc ⟨f,t,i,k⟩)
def edS(s:PSys)(c:PCls)(i:Nat):Nat->List PStep->List PEdge->List PEdge
 | _,[],acc=>acc
 | k,x :: r,acc=>edS s c i (k+1) r (if nr s x=true then iN (dR s x) i k (kn s c i (c.steps.take k)) acc else acc)
def edC(s:PSys):Nat->List PCls->List PEdge->List PEdge
 | _,[],acc=>acc
 | i,c :: r,acc=>edC s (i+1) r (edS s c i 0 c.steps acc)
theorem Hf(l:List PEdge)(x:PEdge):(Al l x).length<=l.length+1:=by unfold Al;split <;> simp
theorem ti(s:PSys)(c:PCls)(i:Int)(L:List PStep):(kn s c i L).length<=s.pools.length+s.locks.length+1:=by
 have h1:=Ii 0 (Af s L)
 have h2:=Jq s.pools.length 0 (Aj s L)
 rw[rT]at h1
 rw[s7]at h2
 have h3:(hC s c i).length<=1:=by unfold hC;split <;> simp
 simp only[kn,List.length_append];omega
def oU(s:PSys):AV:=if aT s≠0 then .tup [.dat (.sl none []),.dat (.int .i64 (aT s))] else .tup [.dat (.sl (some 4) (dW (edC s 0 s.classes []))),.dat (.int .i64 0)]
def B0(ds:List D)(v:AV):Prop:=∃s:PSys,ds=[aY s]/\s.fit/\v=oU s
theorem ri{l:List PEdge}{a b:Int}:pB l a b=true↔∃e∈l,e.src=a/\e.dst=b:=by
 simp[pB,List.any_eq_true]
theorem Fm{l:List PEdge}{x e:PEdge}(h:e∈l):e∈Al l x:=by unfold Al;split <;> simp[h]
theorem Hi{l:List PEdge}{x e:PEdge}(h:e∈Al l x):e∈l∨e=x:=by
 unfold Al at h;split at h
 ·exact .inl h
 ·simpa using h
theorem Gw(l:List PEdge)(x:PEdge):pB (Al l x) x.src x.dst=true:=by
 unfold Al;split
 ·assumption
 ·exact ri.2 ⟨x,by simp,rfl,rfl⟩
theorem iV{t i k:Int}:∀{H:List Int} {acc:List PEdge} {e:PEdge},e∈acc->e∈iN t i k H acc
 | [],_,_,h=>h
 | _ :: r,_,_,h=>iV (H:=r) (Fm h)
theorem qd{t i k:Int}:∀{H:List Int} {acc:List PEdge} {e:PEdge},e∈iN t i k H acc->e∈acc∨∃f∈H,e=⟨f,t,i,k⟩
 | [],_,_,h=>.inl h
 | f :: r,acc,e,h=>by
  rcases qd (H:=r) h with h|⟨g,hg,h⟩
  ·rcases Hi h with h|h
   ·exact .inl h
   ·exact .inr ⟨f,by simp,h⟩
  ·exact .inr ⟨g,by simp[hg],h⟩
theorem sc{l l':List PEdge}(h:∀e∈l,e∈l'){a b:Int}(hh:pB l a b=true):pB l' a b=true:=by
 obtain⟨e,he,h1⟩:=ri.1 hh
 exact ri.2 ⟨e,h e he,h1⟩
theorem qY{t i k:Int}:∀{H:List Int} {acc:List PEdge} {f:Int},f∈H->pB (iN t i k H acc) f t=true
 | g :: r,acc,f,h=>by
  rcases List.mem_cons.1 h with rfl|h
  ·exact sc (l:=Al acc ⟨f,t,i,k⟩) (fun e he=>iV (H:=r) he) (Gw acc ⟨f,t,i,k⟩)
  ·exact qY (H:=r) h
def Bd(s:PSys)(c:PCls)(i:Nat)(k:Nat)(x:PStep)(e:PEdge):Prop:=nr s x=true/\e.cls=i/\e.step=k/\e.dst=dR s x/\e.src∈kn s c i (c.steps.take k)
theorem rk(s:PSys)(c:PCls)(i:Nat):∀{k:Nat} {L:List PStep} {acc:List PEdge} {e:PEdge},e∈acc->e∈edS s c i k L acc
 | _,[],_,_,h=>h
 | k,x :: r,acc,e,h=>by
  rw[edS];refine rk s c i ?_
  split
  ·exact iV h
  ·exact h
theorem wH(s:PSys):∀{i:Nat} {L:List PCls} {acc:List PEdge} {e:PEdge},e∈acc->e∈edC s i L acc
 | _,[],_,_,h=>h
 | i,c :: r,acc,e,h=>by rw[edC];exact wH s (rk s c i h)
theorem Dv(s:PSys)(c:PCls)(i:Nat):∀{k:Nat} {L:List PStep} {acc:List PEdge} {e:PEdge},e∈edS s c i k L acc->e∈acc∨∃j x,L[j]?=some x/\Bd s c i (k+j) x e
 | _,[],_,_,h=>.inl h
 | k,x :: r,acc,e,h=>by
  rw[edS]at h
  rcases Dv s c i h with h|⟨j,y,hy,h⟩
  ·split at h
   ·rename_i hw
    rcases qd h with h|⟨f,hf,rfl⟩
    ·exact .inl h
    ·exact .inr ⟨0,x,rfl,hw,rfl,by simp,rfl,by simpa using hf⟩
   ·exact .inl h
  ·refine .inr ⟨j+1,y,by simpa using hy,?_⟩
   rwa [Nat.add_right_comm,Nat.add_assoc]at h
theorem Eb(s:PSys):∀{i:Nat} {L:List PCls} {acc:List PEdge} {e:PEdge},e∈edC s i L acc->e∈acc∨∃j c k x,L[j]?=some c/\c.steps[k]?=some x/\Bd s c (i+j) k x e
 | _,[],_,_,h=>.inl h
 | i,c :: r,acc,e,h=>by
  rw[edC]at h
  rcases Eb s h with h|⟨j,d,k,x,hd,hx,h⟩
  ·rcases Dv s c i h with h|⟨j,x,hx,h⟩
   ·exact .inl h
   ·exact .inr ⟨0,c,j,x,rfl,hx,by simpa using h⟩
  ·refine .inr ⟨j+1,d,k,x,by simpa using hd,hx,?_⟩
   rwa [Nat.add_right_comm,Nat.add_assoc]at h
theorem Bu(s:PSys)(c:PCls)(i:Nat):∀{k:Nat} {L:List PStep} {acc:List PEdge} {j:Nat} {x:PStep} {f:Int},L[j]?=some x->nr s x=true->f∈kn s c i (c.steps.take (k+j))->pB (edS s c i k L acc) f (dR s x)=true
 | _,[],_,_,_,_,h,_,_=>by simp at h
 | k,y :: r,acc,0,x,f,h,hw,hf=>by
  simp only[List.getElem?_cons_zero,Option.some.injEq]at h
  subst h
  rw[edS,if_pos hw]
  exact sc (fun e he=>rk s c i he) (qY hf)
 | k,y :: r,acc,j+1,x,f,h,hw,hf=>by
  rw[edS]
  refine Bu s c i (j:=j) (by simpa using h) hw ?_
  rwa [Nat.add_right_comm,Nat.add_assoc]
theorem Dn(s:PSys):∀{i:Nat} {L:List PCls} {acc:List PEdge} {j k:Nat} {c:PCls} {x:PStep} {f:Int},L[j]?=some c->c.steps[k]?=some x->nr s x=true->f∈kn s c ((i+j:Nat):Int) (c.steps.take k)->pB (edC s i L acc) f (dR s x)=true
 | _,[],_,_,_,_,_,_,h,_,_,_=>by simp at h
 | i,d :: r,acc,0,k,c,x,f,h,hx,hw,hf=>by
  simp only[List.getElem?_cons_zero,Option.some.injEq]at h
  subst h
  rw[edC]
  exact sc (fun e he=>wH s he) (Bu s d i hx hw (by simpa using hf))
 | i,d :: r,acc,j+1,k,c,x,f,h,hx,hw,hf=>by
  rw[edC]
  refine Dn s (j:=j) (by simpa using h) hx hw ?_
  rwa [Nat.add_right_comm,Nat.add_assoc]
def Hs(s:PSys)(c:PCls)(i:Nat)(L:List PStep)(r:Nat):Bool :=
 if r<s.pools.length then decide (0<(Af s L).getD r 0) else
 if r<s.pools.length+s.locks.length then (Aj s L).getD (r - s.pools.length) false else
 c.server && decide (r=s.pools.length+s.locks.length+i)
theorem Ie{f:Int}:∀{i:Nat} {l:List Int},f∈hU i l↔∃j n,l[j]?=some n/\0<n/\f=((i+j:Nat):Int)
 | _,[]=>by simp[hU]
 | i,n :: r=>by
  have ih:=Ie (f:=f) (i:=i+1) (l:=r)
  have hs:(∃j m,(n :: r)[j]?=some m/\0<m/\f=((i+j:Nat):Int))↔(0<n/\f=(i:Int))∨(∃j m,r[j]?=some m/\0<m/\f=((i+1+j:Nat):Int)):=by
   constructor
   ·rintro ⟨j,m,h1,h2,h3⟩
    cases j with
    | zero=>simp only[List.getElem?_cons_zero,Option.some.injEq]at h1;subst h1;exact .inl ⟨h2,by simpa using h3⟩
    | succ j=>exact .inr ⟨j,m,by simpa using h1,h2,by rw[h3];congr 1;omega⟩
   ·rintro (⟨h2,h3⟩|⟨j,m,h1,h2,h3⟩)
    ·exact⟨0,n,rfl,h2,by simpa using h3⟩
    ·exact⟨j+1,m,by simpa using h1,h2,by rw[h3];congr 1;omega⟩
  rw[hs,← ih,hU]
  split
  ·rename_i h;simp[h]
  ·rename_i h;simp[h]
theorem IH{f off:Int}:∀{i:Nat} {l:List Bool},f∈hB off i l↔∃j:Nat,l[j]?=some true/\f=off+((i+j:Nat):Int)
 | _,[]=>by simp[hB]
 | i,b :: r=>by
  have ih:=IH (f:=f) (off:=off) (i:=i+1) (l:=r)
  have hs:(∃j:Nat,(b :: r)[j]?=some true/\f=off+((i+j:Nat):Int))↔(b=true/\f=off+(i:Int))∨(∃j:Nat,r[j]?=some true/\f=off+((i+1+j:Nat):Int)):=by
   constructor
   ·rintro ⟨j,h1,h3⟩
    cases j with
    | zero=>simp only[List.getElem?_cons_zero,Option.some.injEq]at h1;exact .inl ⟨h1,by simpa using h3⟩
    | succ j=>exact .inr ⟨j,by simpa using h1,by rw[h3];congr 2;omega⟩
   ·rintro (⟨h2,h3⟩|⟨j,h1,h3⟩)
    ·exact⟨0,by simpa using h2,by simpa using h3⟩
    ·exact⟨j+1,by simpa using h1,by rw[h3];congr 2;omega⟩
  rw[hs,← ih,hB]
  split
  ·rename_i h;simp[h]
  ·rename_i h;simp[h]
theorem jK{s:PSys}{c:PCls}{i:Nat}{L:List PStep}{f:Int}(hi:i<s.classes.length)(h:f∈kn s c i L):∃r:Nat,f=r/\r<s.pools.length+s.locks.length+s.classes.length/\Hs s c i L r=true:=by
 simp only[kn,List.mem_append]at h
 rcases h with(h|h)|h
 ·obtain⟨j,n,h1,h2,h3⟩:=Ie.1 h
  have hj:=(List.getElem?_eq_some_iff.1 h1).1
  rw[rT]at hj
  refine⟨j,by simpa using h3,by omega,?_⟩
  unfold Hs
  rw[if_pos hj,List.getD_eq_getElem?_getD,h1]
  simpa using h2
 ·obtain⟨j,h1,h3⟩:=IH.1 h
  have hj:=(List.getElem?_eq_some_iff.1 h1).1
  rw[s7]at hj
  refine⟨s.pools.length+j,by rw[h3];omega,by omega,?_⟩
  unfold Hs
  rw[if_neg (by omega),if_pos (by omega),Nat.add_sub_cancel_left,List.getD_eq_getElem?_getD,h1]
  rfl
 ·unfold hC at h
  split at h
  ·rename_i hs
   refine⟨s.pools.length+s.locks.length+i,by simp at h;omega,by omega,?_⟩
   unfold Hs
   rw[if_neg (by omega),if_neg (by omega),hs]
   simp
  ·cases h
theorem kA{s:PSys}{x:PStep}(hg:s.good)(h:dd s x=0):0<=dR s x/\dR s x<=100:=by
 have h1:=hg.np
 have h2:=hg.nl
 have h3:=hg.nc
 obtain⟨_,⟨o1,o2⟩,_⟩:=dy h
 have:x.on<=10:=by unfold cD at o2;(repeat' split at o2) <;> omega
 unfold dR;(repeat' split) <;> omega
structure PEdge.fit (e:PEdge):Prop where
 s:0<=e.src/\e.src<=100
 d:0<=e.dst/\e.dst<=100
 c:0<=e.cls/\e.cls<=100
 k:0<=e.step/\e.step<=100
structure EFacts (s:PSys) (E:List PEdge):Prop where
 mem:∀e∈E,∃(i k:Nat) (c:PCls) (x:PStep),s.classes[i]?=some c/\c.steps[k]?=some x/\Bd s c i k x e
 has:∀(i k:Nat) (c:PCls) (x:PStep) (f:Int),s.classes[i]?=some c->c.steps[k]?=some x->nr s x=true->f∈kn s c i (c.steps.take k)->pB E f (dR s x)=true
theorem Je(s:PSys):EFacts s (edC s 0 s.classes []) where
 mem e he:=by
  rcases Eb s he with h|⟨j,c,k,x,h1,h2,h3⟩
  ·cases h
  ·exact⟨j,k,c,x,h1,h2,by simpa using h3⟩
 has i k c x f h1 h2 h3 h4:=Dn s (j:=i) h1 h2 h3 (by simpa using h4)
theorem ab6{s:PSys}(hg:s.good):∀e∈edC s 0 s.classes [],e.fit:=by
 intro e he
 obtain⟨i,k,c,x,h1,h2,h3,h4,h5,h6,h7⟩:=(Je s).mem e he
 have hi:=(List.getElem?_eq_some_iff.1 h1).1
 have hk:=(List.getElem?_eq_some_iff.1 h2).1
 have hcg:=hg.cls c (List.mem_of_getElem? h1)
 have hx:=kA hg (hcg.pre x (List.mem_of_getElem? h2))
 have h12:=hcg.l12
 have hnp:=hg.np
 have hnl:=hg.nl
 have hnc:=hg.nc
 obtain⟨r,hr,hr2,_⟩:=jK hi h7
 exact⟨by omega,by omega,by omega,by omega⟩
abbrev yB(a b:Int):D:=.agg [.int .i64 a,.int .i64 b]
def W4(e:PEdge):D×D:=(yB e.src e.dst,.bool true)
abbrev lU(l:List PEdge):List (D×D):=l.map W4
theorem Ay(a b c d:Int):D.keyEq (yB a b) (yB c d)=(decide (a=c) && decide (b=d)):=by
 simp[D.keyEq,yB,D.flatEqs,D.flatEq]
theorem oO:∀(l:List PEdge) (a b:Int) (i:Nat),(bi (yB a b) (lU l) i).map (·.2)=if pB l a b=true then some (D.bool true) else none
 | [],_,_,_=>rfl
 | e :: r,a,b,i=>by
  have hL:bi (yB a b) (lU (e :: r)) i=if (decide (a=e.src) && decide (b=e.dst))=true then some (i,D.bool true) else bi (yB a b) (lU r) (i+1):=by
   simp only[lU,List.map_cons,bi,W4,Ay]
  have hR:pB (e :: r) a b=((decide (e.src=a) && decide (e.dst=b)) || pB r a b):=by simp[pB]
  rw[hL]
  by_cases h:a=e.src/\b=e.dst
  ·have h1:(decide (a=e.src) && decide (b=e.dst))=true:=by simp[h.1,h.2]
   have h2:pB (e :: r) a b=true:=by rw[hR];simp[h.1,h.2]
   rw[if_pos h1,if_pos h2];rfl
  ·have h1:¬(decide (a=e.src) && decide (b=e.dst))=true:=by simpa using h
   have h2:pB (e :: r) a b=pB r a b:=by
    rw[hR]
    have:(decide (e.src=a) && decide (e.dst=b))=false:=by
     rw[Bool.and_eq_false_iff,decide_eq_false_iff_not,decide_eq_false_iff_not]
     by_cases ha:a=e.src
     ·exact .inr (fun hb=>h ⟨ha,hb.symm⟩)
     ·exact .inl (fun e=>ha e.symm)
    rw[this,Bool.false_or]
   rw[if_neg h1,h2]
   exact oO r a b (i+1)
theorem G6(l:List PEdge)(a b:Int):(eI (yB a b) (lU l)).getD (.bool false)=.bool (pB l a b):=by
 unfold eI;rw[oO];cases pB l a b <;> rfl
theorem GS{l:List PEdge}{a b:Int}(h:pB l a b=false)(x:PEdge)(hx:x.src=a)(hx2:x.dst=b):fG (yB a b) (.bool true) (lU l)=lU (l++[x]):=by
 have h0:bi (yB a b) (lU l) 0=none:=by
  have:=oO l a b 0
  rw[h]at this
  cases e:bi (yB a b) (lU l) 0 with
  | none=>rfl
  | some p=>rw[e]at this;cases this
 rw[jD h0]
 simp[W4,hx,hx2]
theorem Cm:cI Tryz.prog 115 (.agg [.int .i64 0,.int .i64 0])=true:=by kernel_rfl
theorem vl(t:TypeDesc){a b:Int}(ha:0<=a/\a<=100)(hb:0<=b/\b<=100):D.isKeyP Tryz.prog 115 t (yB a b)=true :=
 DO Cm ⟨rfl,ac.2 (by omega),rfl,ac.2 (by omega),trivial⟩
theorem De(t:TypeDesc){l:List PEdge}(h:∀e∈l,e.fit):((lU l).all fun x=>D.isKeyP Tryz.prog 115 t x.1)=true:=by
 rw[List.all_eq_true]
 intro x hx
 obtain⟨e,he,rfl⟩:=List.mem_map.1 hx
 exact vl t (h e he).s (h e he).d
theorem Yk:(some (Value.agg #[Value.int IntKind.i64 0,Value.int IntKind.i64 0])=some (Value.agg (Array.replicate 2 (Value.int IntKind.i64 0))))=True:=eq_true rfl
theorem w9{P:Program}{τ:Option Ty}{own:List Obj}{x:AV}{a b:Int}{c:Bool}{K:AV->Prop}:fw P τ own x (.agg [.dat (.int .i64 a),.dat (.int .i64 b)]) c K=fw P τ own x (.dat (yB a b)) c K:=rfl
theorem pA{P:Program}{τ:Option Ty}{own:List Obj}{x v:AV}{a b:Int}{K:AV->List Obj->List Nat->Prop}:bx P τ own x (.agg [.dat (.int .i64 a),.dat (.int .i64 b)]) v K=bx P τ own x (.dat (yB a b)) v K:=rfl
abbrev BQ:List (Nat×a8):=[(11,au iH),(47,au Bw),(48,au vQ),(49,au KB)]
theorem mU:OkG Tryz.prog (tbl BQ):=ai iX (ai Gx (ai vS (ai vZ ae)))
theorem Fs:OkF Tryz.prog 21 (au B0):=by
 refine az Tryz.func21 rfl (by decide) ?_
 rintro ds v ⟨s,rfl,hf,rfl⟩
 refine a6 (Γ:=tbl BQ) mU _ _ _ ?_
 simp only[go_sem,Tryz.ntmps21,aY]
 refine ah iH (by simp) [aY s] _ rfl ⟨s,rfl,hf,rfl⟩ (.inl rfl) ?_
 by_cases h:aT s=0
 case neg =>
  unfold oU
  rw[if_pos h]
  simp only[go_sem,h]
  refine aZ (.inl rfl) [.tmp 2,.tmp 3] rfl ?_
  simp only[go_sem]
  exact bp (by simp only[go_sem]) (by simp only[go_sem])
 unfold oU
 rw[if_neg (by rw[h];decide)]
 have hg:=eJ h
 have fA:=ab6 hg
 generalize hv:edC s 0 s.classes []=V at *
 have hnp:=hg.np
 have hnl:=hg.nl
 have hnc:=hg.nc
 simp only[go_sem,h]
 refine av (cQ 5 (some 4) rfl (Nat.zero_le _)) ?_
 simp only[go_sem]
 refine ap (fun p:Nat×List PEdge=>⟨an 75 [(1,.ptr 0 0 0),(5,.sl 2 0 p.2.length),(6,.map 1),(21,.dat (.sl (some 4) (s.classes.map bf))),(22,.dat (.int .i64 s.classes.length)),(23,.dat (.int .i64 p.1))],[jO s,.map (lU p.2),.row (some 4) (dW p.2)],0,[]⟩)
  (fun p=>p.1<=s.classes.length/\p.2.length<=144*p.1/\edC s p.1 (s.classes.drop p.1) p.2=V) (fun p=>s.classes.length - p.1) (0,[]) ⟨Nat.zero_le _,Nat.zero_le _,hv⟩ ?_ ?_
 ·exact a7 (by simp only[go_sem,Int.natCast_zero])
 ·rintro ⟨i,acc⟩ ⟨hi,ha,hI⟩
  simp only at hi ha hI
  refine a6 (Γ:=tbl BQ) mU _ _ _ ?_
  cases hd:s.classes.drop i with
  | nil =>
   have:=aj hd hi
   have hk2:¬(i:Int)<s.classes.length:=by omega
   rw[hd,edC]at hI
   subst hI
   simp only[go_sem,hk2]
   refine aZ (.inl rfl) [.tmp 2,.tmp 3] rfl ?_
   simp only[go_sem]
   refine Le.trans (aq 2 (ag:=some 4) rfl (Nat.zero_le _)) ?_
   simp only[go_sem,qK,cZ,Nat.le_refl]
   exact bp (by simp only[go_sem]) (by simp only[go_sem])
  | cons c q =>
   have hlt:=ao hd
   have hk2:(i:Int)<s.classes.length:=by omega
   have hk0:(0:Int)<=i:=Int.natCast_nonneg i
   have hn:=ak (f:=bf) hd
   have hcg:=hg.cls c (aN hd)
   have abe:=hcg.l12
   have jt:s.classes.getD i default=c:=by rw[List.getD_eq_getElem?_getD,fu hd];rfl
   rw[hd,edC]at hI
   simp only[go_sem,hk2,hk0,hn,hlt,bf,bD]
   refine ap (fun p:Nat×List PEdge=>⟨an 75 [(1,.ptr 0 0 0),(5,.sl 2 0 p.2.length),(6,.map 1),(21,.dat (.sl (some 4) (s.classes.map bf))),(22,.dat (.int .i64 s.classes.length)),(23,.dat (.int .i64 i)),
     (7,.dat (.int .i64 i)),(31,.dat (.sl (some 4) (c.steps.map ar))),(32,.dat (.int .i64 c.steps.length)),(33,.dat (.int .i64 p.1))],[jO s,.map (lU p.2),.row (some 4) (dW p.2)],0,[]⟩)
    (fun p=>p.1<=c.steps.length/\p.2.length<=144*i+12*p.1/\edC s (i+1) q (edS s c i p.1 (c.steps.drop p.1) p.2)=V) (fun p=>c.steps.length - p.1) (0,acc) ⟨Nat.zero_le _,by simp only;omega,hI⟩ ?_ ?_
   ·exact a7 (by simp only[go_sem,Int.natCast_zero])
   ·rintro ⟨k,acc⟩ ⟨hk,ha,hI⟩
    simp only at hk ha hI
    refine a6 (Γ:=tbl BQ) mU _ _ _ ?_
    cases hd2:c.steps.drop k with
    | nil =>
     have:=aj hd2 hk
     have hj2:¬(k:Int)<c.steps.length:=by omega
     rw[hd2,edS]at hI
     simp only[go_sem,hj2]
     refine⟨ac.2 (by omega),(i+1,acc),⟨by simp only;omega,by simp only;omega,by simp only;rw[aE hd];exact hI⟩,by simp only;omega,?_⟩
     exact a7 (by simp only[go_sem,Int.natCast_add,Int.cast_ofNat_Int])
    | cons x q2 =>
     have re:=ao hd2
     have hj2:(k:Int)<c.steps.length:=by omega
     have hj0:(0:Int)<=k:=Int.natCast_nonneg k
     have hn2:=ak (f:=ar) hd2
     have hxp:=hcg.pre x (aN hd2)
     rw[hd2,edS]at hI
     simp only[go_sem,hj2,hj0,re,hn2,ar]
     refine ah Bw (by simp) [aY s,ar x] _ rfl ⟨s,x,rfl,hg,hxp,rfl⟩ (.inl rfl) ?_
     cases hw:nr s x with
     | false =>
      rw[hw,if_neg (by decide)]at hI
      simp only[go_sem,hw]
      refine⟨ac.2 (by omega),(k+1,acc),⟨by simp only;omega,by simp only;omega,by simp only;rw[aE hd2];exact hI⟩,by simp only;omega,?_⟩
      refine aP (own:=[_,_,_]) (ex:=[_]) (Nat.zero_le _) ?_ ?_ ?_
      ·simp only[go_sem,Int.natCast_add,Int.cast_ofNat_Int]
      ·simp only[go_sem]
      ·simp only[go_sem,Obj.under,AV.unders,AV.under]
     | true =>
      rw[hw,if_pos rfl]at hI
      simp only[go_sem,hw]
      refine ah vQ (by simp) [aY s,ar x] _ rfl ⟨s,x,rfl,hg,hxp,rfl⟩ (.inl rfl) ?_
      have hT:=kA hg hxp
      generalize dR s x=T at *
      simp only[go_sem]
      refine ah KB (by simp) [aY s,.int .i64 i,.int .i64 k] _ rfl ⟨s,i,k,rfl,hf,h,hlt,by rw[jt];omega,rfl⟩ (.inl rfl) ?_
      rw[jt]
      have hHl:=ti s c i (c.steps.take k)
      have hHr:=fun f=>jK (s:=s) (c:=c) (i:=i) (L:=c.steps.take k) (f:=f) hlt
      generalize kn s c i (c.steps.take k)=H at *
      simp only[go_sem,bV,List.length_map]
      refine ap (fun p:Nat×List PEdge=>⟨an 75 [(1,.ptr 0 0 0),(5,.sl 2 0 p.2.length),(6,.map 1),(21,.dat (.sl (some 4) (s.classes.map bf))),(22,.dat (.int .i64 s.classes.length)),(23,.dat (.int .i64 i)),
        (7,.dat (.int .i64 i)),(31,.dat (.sl (some 4) (c.steps.map ar))),(32,.dat (.int .i64 c.steps.length)),(33,.dat (.int .i64 k)),(8,.dat (.int .i64 k)),(10,.dat (.int .i64 T)),
        (48,.dat (.sl none (aA H))),(49,.dat (.int .i64 H.length)),(50,.dat (.int .i64 p.1))],[jO s,.map (lU p.2),.row (some 4) (dW p.2)],0,[]⟩)
       (fun p=>p.1<=H.length/\p.2.length<=144*i+12*k+p.1/\edC s (i+1) q (edS s c i (k+1) q2 (iN T i k (H.drop p.1) p.2))=V) (fun p=>H.length - p.1) (0,acc) ⟨Nat.zero_le _,by simp only;omega,hI⟩ ?_ ?_
      ·refine aP (own:=[_,_,_]) (ex:=[_]) (Nat.zero_le _) ?_ ?_ ?_
       ·simp only[go_sem,Int.natCast_zero]
       ·simp only[go_sem]
       ·simp only[go_sem,Obj.under,AV.unders,AV.under]
      ·rintro ⟨m,acc⟩ ⟨hm,ha,hI⟩
       simp only at hm ha hI
       refine a6 (Γ:=tbl BQ) mU _ _ _ ?_
       cases hd3:H.drop m with
       | nil =>
        have:=aj hd3 hm
        have hm2:¬(m:Int)<H.length:=by omega
        rw[hd3,iN]at hI
        simp only[go_sem,hm2]
        refine⟨ac.2 (by omega),(k+1,acc),⟨by simp only;omega,by simp only;omega,by simp only;rw[aE hd2];exact hI⟩,by simp only;omega,?_⟩
        exact a7 (by simp only[go_sem,Int.natCast_add,Int.cast_ofNat_Int])
       | cons f q3 =>
        have RW:=ao hd3
        have hm2:(m:Int)<H.length:=by omega
        have hm0:(0:Int)<=m:=Int.natCast_nonneg m
        have hn3:=ak (f:=D.int .i64) hd3
        have hF:0<=f/\f<=100:=by
         obtain⟨r,hr,hr2,_⟩:=hHr f (aN hd3)
         omega
        have Aa:=fun t=>De t (l:=acc) fun e he=>fA e (by rw[← hI];exact wH s (rk s c i (iV he)))
        have YB:=fun t=>vl t hF hT
        have YC:=G6 acc f T
        have dB:=fun hh=>GS (l:=acc) (a:=f) (b:=T) hh ⟨f,T,i,k⟩ rfl rfl
        rw[hd3,iN,Al]at hI
        simp only at hI
        simp only[go_sem,hm2,hm0,hn3,RW,w9,YB,Aa,YC,Yk]
        cases hh:pB acc f T with
        | true =>
         rw[hh,if_pos rfl]at hI
         simp only[go_sem,hh]
         refine⟨ac.2 (by omega),(m+1,acc),⟨by simp only;omega,by simp only;omega,by simp only;rw[aE hd3];exact hI⟩,by simp only;omega,?_⟩
         refine aP (own:=[_,_,_]) (ex:=[_]) (Nat.zero_le _) ?_ ?_ ?_
         ·simp only[go_sem,Int.natCast_add,Int.cast_ofNat_Int]
         ·simp only[go_sem]
         ·simp only[go_sem,Obj.under,AV.unders,AV.under]
        | false =>
         rw[hh,if_neg (by decide)]at hI
         have dB:=dB hh
         simp only[go_sem,hh,pA,YB,Aa,dB,qK,cZ]
         have e:dW (acc++[(⟨f,T,i,k⟩:PEdge)])=dW acc++[.agg [.int .i64 f,.int .i64 T,.int .i64 i,.int .i64 k]]:=by rw[← yQ];rfl
         refine⟨by omega,by omega,ac.2 (by omega),(m+1,acc++[⟨f,T,i,k⟩]),⟨by simp only;omega,by simp;omega,by simp only;rw[aE hd3];exact hI⟩,by simp only;omega,?_⟩
         simp only[e]
         refine aP (own:=[_,_,_]) (ex:=[_,_]) (Nat.zero_le _) ?_ ?_ ?_
         ·simp only[go_sem,Int.natCast_add,Int.cast_ofNat_Int,List.length_append,List.length_cons,List.length_nil,Nat.zero_add]
         ·simp only[go_sem]
         ·simp only[go_sem,Obj.under,AV.unders,AV.under]
theorem Dh(s:PSys)(c:PCls)(i:Nat):∀(k:Nat) (L:List PStep) (acc:List PEdge),(edS s c i k L acc).length<=acc.length+L.length*(s.pools.length+s.locks.length+1)
 | _,[],acc=>by simp[edS]
 | k,x :: r,acc=>by
  have hA:∀(t i k:Int) (H:List Int) (acc:List PEdge),(iN t i k H acc).length<=acc.length+H.length:=by
   intro t i k H
   induction H with
   | nil=>intro acc;exact Nat.le_refl _
   | cons f r ih=>intro acc;have:=ih (Al acc ⟨f,t,i,k⟩);have:=Hf acc ⟨f,t,i,k⟩;simp only[iN,List.length_cons];omega
  rw[edS]
  refine Nat.le_trans (Dh s c i (k+1) r _) ?_
  have:(if nr s x=true then iN (dR s x) i k (kn s c i (c.steps.take k)) acc else acc).length<=acc.length+(s.pools.length+s.locks.length+1):=by
   split
   ·exact Nat.le_trans (hA _ _ _ _ _) (Nat.add_le_add_left (ti s c i _) _)
   ·omega
  rw[List.length_cons,Nat.succ_mul];omega
theorem DN(s:PSys)(n:Nat):∀(i:Nat) (L:List PCls) (acc:List PEdge),(∀c∈L,c.steps.length<=n)->(edC s i L acc).length<=acc.length+L.length*(n*(s.pools.length+s.locks.length+1))
 | _,[],acc,_=>by simp[edC]
 | i,c :: r,acc,h=>by
  rw[edC]
  refine Nat.le_trans (DN s n (i+1) r _ (fun c hc=>h c (List.mem_cons_of_mem _ hc))) ?_
  have h1:=Dh s c i 0 c.steps acc
  have h2:=Nat.mul_le_mul_right (s.pools.length+s.locks.length+1) (h c (List.mem_cons_self ..))
  rw[List.length_cons,Nat.succ_mul];omega
def En(s:PSys)(x:PStep):Bool :=
 if x.kind=1 then !x.deep && decide ((s.pools.getD x.on.toNat default).size - (s.pools.getD x.on.toNat default).res<x.cnt)
 else if x.kind=5 then decide ((s.classes.getD x.on.toNat default).workers=0) else false
def WX(ds:List D)(v:AV):Prop:=∃(s:PSys) (x:PStep),ds=[aY s,ar x]/\s.good/\dd s x=0/\v=.dat (.bool (En s x))
theorem Kc{s:PSys}(hg:s.good){x:PStep}(hp:dd s x=0)(hk:x.kind=1):∃i:Nat,x.on=i/\i<s.pools.length:=by
 obtain⟨⟨k1,k2⟩,⟨o1,o2⟩,hc,hc0⟩:=dy hp
 rw[hk]at o2
 simp[cD]at o2
 exact⟨x.on.toNat,by omega,by omega⟩
theorem R7{s:PSys}(hg:s.good){x:PStep}(hp:dd s x=0)(hk:x.kind=5):∃i:Nat,x.on=i/\i<s.classes.length:=by
 obtain⟨⟨k1,k2⟩,⟨o1,o2⟩,hc,hc0⟩:=dy hp
 rw[hk]at o2
 simp[cD]at o2
 exact⟨x.on.toNat,by omega,by omega⟩
theorem sp:OkF Tryz.prog 52 (au WX):=by
 refine az Tryz.func52 rfl (by decide) ?_
 rintro ds v ⟨s,x,rfl,hg,hp,rfl⟩
 refine a6 (Γ:=tbl []) ae _ _ _ ?_
 generalize hv:En s x=V
 have fin:∀s own (b c:Bool),b=c->s.getD 4 .top=.dat (.bool b)->post Tryz.prog Tryz.f52 (.dat (.bool c)) [] [] .ret ⟨s,own,0,[]⟩:=fun s own b c e h=>by
  subst e
  exact am (.inl rfl) [4] rfl trivial (by simp only[cM,h];rfl)
 have hpa:=Kc hg hp
 have hca:=R7 hg hp
 obtain⟨⟨k1,k2⟩,⟨o1,o2⟩,hc,hc0⟩:=dy hp
 obtain⟨kind,on,cnt,deep⟩:=x
 simp only at *
 unfold En at hv
 simp only at hv
 have hk:kind=1∨kind=2∨kind=3∨kind=4∨kind=5:=by omega
 rcases hk with rfl|rfl|rfl|rfl|rfl
 ·rw[if_pos rfl]at hv
  obtain⟨i,rfl,hi⟩:=hpa rfl
  have hi2:(i:Int)<s.pools.length:=by omega
  have hnp:D.nth (s.pools.map aK) i=aK (s.pools.getD i default):=D.nth_map hi
  rw[Int.toNat_natCast]at hv
  have hpb:=hg.pool (s.pools.getD i default) (by rw[List.getD_eq_getElem?_getD,List.getElem?_eq_getElem hi];exact List.getElem_mem hi)
  generalize s.pools.getD i default=p at *
  unfold PPool.bad at hpb
  simp only[go_sem,Tryz.ntmps52,aY,ar]
  refine dl (pf:=[]) (Γ:=tbl []) mixed ae b0 [0,1,2,3,4,5,6,7,8,9,10,11,12,13,14,15,16,17,18,19,20,21,22,23] (by kernel_rfl) ?_
  cases deep with
  | true =>
   simp only[go_sem,bl]
   exact fin _ _ _ _ (by rw[← hv]) (by rfl)
  | false =>
   simp only[go_sem,bl,hi,hi2,hnp,aK]
   refine⟨ac.2 (by omega),?_⟩
   exact fin _ _ _ _ (by rw[← hv,Bool.not_false,Bool.true_and]) (by rfl)
 ·simp only[go_sem,Tryz.ntmps52,aY,ar]
  exact fin _ _ _ _ (by rw[← hv]) (by rfl)
 ·simp only[go_sem,Tryz.ntmps52,aY,ar]
  exact fin _ _ _ _ (by rw[← hv]) (by rfl)
 ·simp only[go_sem,Tryz.ntmps52,aY,ar]
  exact fin _ _ _ _ (by rw[← hv]) (by rfl)
 ·obtain⟨i,rfl,hi⟩:=hca rfl
  have hi2:(i:Int)<s.classes.length:=by omega
  have hnp:D.nth (s.classes.map bf) i=bf (s.classes.getD i default):=D.nth_map hi
  rw[if_neg (by omega),if_pos rfl,Int.toNat_natCast]at hv
  simp only[go_sem,Tryz.ntmps52,aY,ar,hi,hi2,hnp,bf]
  exact fin _ _ _ _ hv (by rfl)
def IT{α:Type}(p:α->Bool):Nat->List α->Option Nat
 | _,[]=>none
 | k,x :: r=>if p x=true then some k else IT p (k+1) r
def WT:Option Nat->Int
 | some k=>(k:Int)
 | none=>-1
def NE(s:PSys):Nat->List PCls->Option (Nat×Nat)
 | _,[]=>none
 | i,c :: r=>match IT (En s) 0 c.steps with|some k=>some (i,k)|none=>NE s (i+1) r
def O5:Option (Nat×Nat)->AV
 | some (i,k)=>.tup [.dat (.int .i64 (i:Int)),.dat (.int .i64 (k:Int)),.dat (.bool true)]
 | none=>.tup [.dat (.int .i64 0),.dat (.int .i64 0),.dat (.bool false)]
def Nw(s:PSys):Option (Nat×Nat):=if aT s≠0 then none else NE s 0 s.classes
def JP(ds:List D)(v:AV):Prop:=∃s:PSys,ds=[aY s]/\s.fit/\v=O5 (Nw s)
def X9(xs:List AV)(obs:List Obj)(v0:AV)(obs' ex:List Obj)(mv0:List Nat):Prop:=∃(s:PSys) (x:PStep),s.good/\dd s x=0 /\
 xs=[.dat (ar x),.ptr 0 0 0]/\obs=[jO s]/\v0=.dat (.bool (En s x))/\obs'=obs/\ex=[]/\mv0=[]
theorem L4:OkF Tryz.prog 51 (cr X9):=by
 refine c9 Tryz.func51 rfl (by decide) ?_
 rintro xs obs v0 obs' ex mv0 ⟨s,x,hg,hp,rfl,rfl,rfl,rfl,rfl,rfl⟩
 refine a6 (Γ:=tbl [(52,au WX)]) (ai sp ae) _ _ _ ?_
 simp only[go_sem,Tryz.ntmps51,jO,ar]
 refine ah WX (by simp) [aY s,ar x] _ rfl ⟨s,x,rfl,hg,hp,rfl⟩ (.inl rfl) ?_
 simp only[go_sem]
 refine aH (.inl rfl) [.tmp 3] rfl (fun _ h=>h) ?_
 simp only[go_sem]
 refine aP (own:=[_]) (ex:=[_]) (Nat.le_refl _) ?_ ?_ ?_
 ·simp only[go_sem]
 ·simp only[go_sem]
 ·simp only[go_sem,Obj.under,AV.unders,AV.under]
def Vj(xs:List AV)(obs:List Obj)(v0:AV)(obs' ex:List Obj)(mv0:List Nat):Prop:=∃(s:PSys) (L:List PStep),s.good/\(∀x∈L,dd s x=0)/\L.length<=100 /\
 xs=[.dat (bD L),.fn 51 [.ptr 0 0 0]]/\obs=[jO s]/\v0=.dat (.int .i64 (WT (IT (En s) 0 L)))/\obs'=obs/\ex=[]/\mv0=[]
abbrev Mx:List (Nat×a8):=[(51,q9 (cr X9))]
theorem xJ:OkG Tryz.prog (tbl Mx):=ai (qi L4) ae
theorem vE:OkF Tryz.prog 50 (cr Vj):=by
 refine c9 Tryz.func50 rfl (by decide) ?_
 rintro xs obs v0 obs' ex mv0 ⟨s,L,hg,hL,hl,rfl,rfl,rfl,rfl,rfl,rfl⟩
 generalize hV:IT (En s) 0 L=V
 refine a6 (Γ:=tbl Mx) xJ _ _ _ ?_
 simp only[go_sem,Tryz.ntmps50,bD,List.length_map]
 refine ap (fun k:Nat=>⟨an 19 [(0,.dat (bD L)),(1,.fn 51 [.ptr 0 0 0]),(7,.dat (.int .i64 L.length)),(8,.dat (.int .i64 k))],[jO s],1,[]⟩)
  (fun k=>k<=L.length/\IT (En s) k (L.drop k)=V) (fun k=>L.length - k) 0 ⟨Nat.zero_le _,hV⟩ ?_ ?_
 ·exact a7 (by simp only[go_sem,Int.natCast_zero,bD])
 rintro k ⟨hk,hV⟩
 refine a6 (Γ:=tbl Mx) xJ _ _ _ ?_
 cases hd:L.drop k with
 | nil =>
  have:=aj hd hk
  have hk2:¬(k:Int)<L.length:=by omega
  rw[hd,IT]at hV
  simp only[go_sem,hk2]
  exact gP (.inl rfl) [4] rfl (by rw[← hV];simp only[cM];rfl) (fun _ h=>h)
 | cons x r =>
  have hlt:=ao hd
  have hk2:(k:Int)<L.length:=by omega
  have hk0:(0:Int)<=k:=Int.natCast_nonneg k
  have hn:=ak (f:=ar) hd
  have hx:=hL x (aN hd)
  rw[hd,IT]at hV
  simp only[go_sem,hk2,hk0,hn,hlt,bD,List.length_map]
  refine yZ (qV X9 (by simp) [0] ⟨s,x,hg,hx,rfl,rfl,rfl,rfl,rfl,rfl⟩ (by decide) (by simp) rfl rfl (by simp only[go_sem,ar]) (by simp only[go_sem,List.mem_cons,List.not_mem_nil,or_false,forall_eq_or_imp,forall_eq,Obj.under,AV.unders,AV.under]) (fun j hj=>by
   match j,hj with
   | 0,_=>rfl) ?_)
  cases hp:En s x with
  | true =>
   rw[hp,if_pos rfl]at hV
   simp only[go_sem,hp]
   exact gP (.inl rfl) [4] rfl (by rw[← hV];simp only[cM];rfl) (fun _ h=>h)
  | false =>
   rw[hp,if_neg (by decide)]at hV
   simp only[go_sem,hp]
   refine⟨ac.2 (by omega),k+1,⟨by omega,by rw[aE hd];exact hV⟩,by omega,?_⟩
   exact a7 (by simp only[go_sem,Int.natCast_add,Int.cast_ofNat_Int,bD])
abbrev KA:List (Nat×a8):=[(11,au iH),(50,q9 (cr Vj))]
theorem xW:OkG Tryz.prog (tbl KA):=ai iX (ai (qi vE) ae)
theorem sP:OkF Tryz.prog 22 (au JP):=by
 refine az Tryz.func22 rfl (by decide) ?_
 rintro ds v ⟨s,rfl,hf,rfl⟩
 refine a6 (Γ:=tbl KA) xW _ _ _ ?_
 simp only[go_sem,Tryz.ntmps22,aY]
 refine ah iH (by simp) [aY s] _ rfl ⟨s,rfl,hf,rfl⟩ (.inl rfl) ?_
 unfold Nw
 by_cases h:aT s=0
 case neg =>
  rw[if_pos h]
  simp only[go_sem,h]
  refine aZ (.inl rfl) [.tmp 2,.tmp 3,.tmp 4] rfl ?_
  simp only[go_sem,O5]
  exact bp (by simp only[go_sem]) (by simp only[go_sem])
 rw[if_neg (by rw[h];decide)]
 have hg:=eJ h
 have hnc:=hg.nc
 generalize hV:NE s 0 s.classes=V
 simp only[go_sem,h,List.length_map]
 refine ap (fun k:Nat=>⟨an 29 [(1,.ptr 0 0 0),(12,.dat (.int .i64 s.classes.length)),(13,.dat (.int .i64 k))],[jO s],0,[]⟩)
  (fun k=>k<=s.classes.length/\NE s k (s.classes.drop k)=V) (fun k=>s.classes.length - k) 0 ⟨Nat.zero_le _,hV⟩ ?_ ?_
 ·exact a7 (by simp only[go_sem,Int.natCast_zero])
 rintro k ⟨hk,hV⟩
 refine a6 (Γ:=tbl KA) xW _ _ _ ?_
 cases hd:s.classes.drop k with
 | nil =>
  have:=aj hd hk
  have hk2:¬(k:Int)<s.classes.length:=by omega
  rw[hd,NE]at hV
  rw[← hV]
  simp only[go_sem,hk2]
  refine aZ (.inl rfl) [.tmp 2,.tmp 3,.tmp 4] rfl ?_
  simp only[go_sem,O5]
  exact bp (by simp only[go_sem]) (by simp only[go_sem])
 | cons c r =>
  have hlt:=ao hd
  have hk2:(k:Int)<s.classes.length:=by omega
  have hk0:(0:Int)<=k:=Int.natCast_nonneg k
  have hn:=ak (f:=bf) hd
  have hc:=hg.cls c (aN hd)
  have h12:=hc.l12
  rw[hd,NE]at hV
  simp only[go_sem,hk2,hk0,hn,hlt,bf,List.length_map]
  refine qV Vj (by simp) [0] ⟨s,c.steps,hg,hc.pre,by omega,rfl,rfl,rfl,rfl,rfl,rfl⟩ (by decide) (by simp) rfl rfl (by simp only[go_sem,bD]) (by simp only[go_sem,List.mem_cons,List.not_mem_nil,or_false,forall_eq_or_imp,forall_eq,Obj.under,AV.unders,AV.under]) (fun j hj=>by
   match j,hj with
   | 0,_=>rfl) ?_
  cases hp:IT (En s) 0 c.steps with
  | some j =>
   rw[hp]at hV
   have hj0:(0:Int)<=j:=Int.natCast_nonneg j
   simp only[go_sem,WT,hj0]
   refine aZ (.inl rfl) [.tmp 2,.tmp 3,.tmp 4] rfl ?_
   rw[← hV]
   simp only[go_sem,O5]
   exact bp (by simp only[go_sem]) (by simp only[go_sem])
  | none =>
   rw[hp]at hV
   simp only[go_sem,WT]
   refine⟨ac.2 (by omega),k+1,⟨by omega,by rw[aE hd];exact hV⟩,by omega,?_⟩
   exact a7 (by simp only[go_sem,Int.natCast_add,Int.cast_ofNat_Int])
theorem J2{s:PSys}:∀{l:List PFr} {p:Option PFr},fmd s p l=true->∀f∈l,gn s f=true
 | [],_,_,f,hf=>by simp at hf
 | g :: l,p,h,f,hf=>by
  rw[ja,Bool.and_eq_true,Bool.and_eq_true]at h
  rcases List.mem_cons.1 hf with rfl|hf
  ·exact h.1.1
  ·exact J2 h.2 f hf
theorem l7{s:PSys}{l:List PFr}{c:Nat}(h:dr s l c=true):l≠[]/\∀f∈l,gn s f=true:=by
 cases l with
 | nil=>simp[dr]at h
 | cons f r =>
  unfold dr at h
  simp only[Bool.and_eq_true]at h
  exact⟨by simp,J2 h.2⟩
theorem oq{s:PSys}:∀{x:PSt} {w:List Nat},f7 s x w=true->x.length=w.length->∀l∈x,l≠[]/\∀f∈l,gn s f=true
 | [],_,_,_,l,hl=>by simp at hl
 | _ :: _,[],_,h,_,_=>by simp at h
 | m :: x,c :: w,h,hlen,l,hl=>by
  simp only[f7,Bool.and_eq_true]at h
  rcases List.mem_cons.1 hl with rfl|hl
  ·exact l7 h.1
  ·exact oq h.2 (by simpa using hlen) l hl
theorem Az{s:PSys}{x:PSt}{w:List Nat}(h:f7 s x w=true)(hl:x.length=w.length):∀f∈frames x,gn s f=true:=fun f hf=>by
 obtain⟨l,hm,hf⟩:=List.mem_flatten.1 hf
 exact(oq h hl l hm).2 f hf
theorem CK{n:Nat}{p:Nat->Bool}(h:∀i,i<n->p i=false):(List.range n).any p=false:=by
 rw[← Bool.not_eq_true,List.any_eq_true]
 rintro ⟨i,hi,hp⟩
 rw[h i (List.mem_range.1 hi)]at hp;cases hp
structure Valid (s:PSys) (x:PSt):Prop where
 good:s.good
 len:x.length=(wkL s).length
 fmd:f7 s x (wkL s)=true
 nover:FD s x=false
theorem Valid.l24{s:PSys}{x:PSt}(h:Valid s x):x.length<=24:=by have:=wX h.good;rw[h.len];exact this
theorem Valid.stk{s:PSys}{x:PSt}(h:Valid s x){w:Nat}(hw:w<x.length):x.getD w []≠[]/\∀f∈x.getD w [],gn s f=true:=by
 refine oq h.fmd h.len _ ?_
 rw[List.getD_eq_getElem?_getD,List.getElem?_eq_getElem hw];exact List.getElem_mem _
theorem Valid.frames{s:PSys}{x:PSt}(h:Valid s x):∀f∈frames x,gn s f=true:=Az h.fmd h.len
theorem xp{l:List PFr}(h:l≠[]):me l∈l:=by
 have:0<l.length:=List.length_pos_iff.2 h
 unfold me
 rw[List.getD_eq_getElem?_getD,List.getElem?_eq_getElem (by omega)];exact List.getElem_mem _
theorem Valid.top{s:PSys}{x:PSt}(h:Valid s x){w:Nat}(hw:w<x.length):gn s (me (x.getD w []))=true:=(h.stk hw).2 _ (xp (h.stk hw).1)
theorem rY{s:PSys}(hg:s.good){f:PFr}(hf:gn s f=true):dd s (b8 s f)=0:=by
 obtain⟨c1,c2,c3,c4⟩:=bK.1 hf
 have hcm:aW s f∈s.classes:=by
  unfold aW;rw[List.getD_eq_getElem?_getD,List.getElem?_eq_getElem (by omega)];exact List.getElem_mem _
 refine(hg.cls _ hcm).pre _ ?_
 unfold b8
 rw[List.getD_eq_getElem?_getD,List.getElem?_eq_getElem (by omega)];exact List.getElem_mem _
theorem ng{x:PSt}(hx:PStFit x){w:Nat}(hw:w<x.length):(x.getD w []).length<=1000:=hx.stk _ (by rw[List.getD_eq_getElem?_getD,List.getElem?_eq_getElem hw];exact List.getElem_mem _)
def LJ(ds:List D)(v:AV):Prop:=∃(s:PSys) (x:PSt),ds=[aY s,stD x]/\Valid s x/\PStFit x/\v=.dat (.sl none (aF (ik s x)))
abbrev wR:List (Nat×a8):=[(73,au Vo),(75,au NL),(74,au Ky)]
theorem ka:OkG Tryz.prog (tbl wR):=ai H8 (ai qz8 (ai wM ae))
theorem Om:aQ (tbl wR) [73,75,74]:=by
 refine xX fun g C hm hg=>?_
 simp only[List.mem_cons,List.not_mem_nil,or_false,Prod.mk.injEq]at hm
 rcases hm with⟨_,rfl⟩|⟨_,rfl⟩|⟨_,rfl⟩
 ·exact .inl ⟨_,rfl⟩
 ·exact .inl ⟨_,rfl⟩
 ·exact .inl ⟨_,rfl⟩
theorem sy(s:PSys)(x:PSt)(k:Nat):((List.range k).filter (eR s x)).length<=k:=by
 have:=List.length_filter_le (eR s x) (List.range k)
 simpa using this
theorem yU:OkF Tryz.prog 56 (au LJ):=by
 refine az Tryz.func56 rfl (by decide) ?_
 rintro ds v ⟨s,x,rfl,hV,hx,rfl⟩
 have hg:=hV.good
 have hL:=hV.frames
 have hLl:=qG hx
 have aao:=hV.l24
 have sS:(aG x).length=x.length:=by simp
 refine al [3] (Γ:=tbl wR) ka _ _ _ ?_
 simp only[go_sem,Tryz.ntmps56,aY,stD]
 refine ah Vo (by simp) [aY s,stD x] _ rfl ⟨s,x,rfl,hg,hx,hL,rfl⟩ (.inl rfl) ?_
 simp only[go_sem,Et]
 refine av (cQ 6 none rfl (Nat.zero_le _)) ?_
 refine a6 (Γ:=tbl wR) ka _ _ _ ?_
 simp only[go_sem,sS]
 refine ap (fun k:Nat=>⟨an 30 [(2,.ptr 0 0 0),(3,.ptr 1 0 0),(5,.ptr 2 0 0),(6,.sl 3 0 ((List.range k).filter (eR s x)).length),(13,.dat (.int .i64 x.length)),(14,.dat (.int .i64 k))],[jO s,stO x,.box [.dat (.sl none (aA (I6 s (frames x)))),.dat (.sl none (aA (I3 s (frames x)))),.dat (.sl none (aA (IX s (frames x))))],.row none (aF ((List.range k).filter (eR s x)))],0,[]⟩)
  (fun k=>k<=x.length) (fun k=>x.length - k) 0 (Nat.zero_le _) ?_ ?_
 ·exact a7 (by simp only[go_sem,Int.natCast_zero,List.range_zero,List.filter_nil,List.length_nil])
 rintro k hk
 rcases Nat.lt_or_ge k x.length with hlt|hge
 ·have hk2:(k:Int)<x.length:=by omega
  have hk0:(0:Int)<=k:=Int.natCast_nonneg k
  have hal:=sy s x k
  have hsx:=(hV.stk hlt).1
  refine a6 (Γ:=tbl wR) ka _ _ _ ?_
  simp only[go_sem,hk2]
  refine dl (pf:=[73,75,74]) (Γ:=tbl wR) mixed ka Om [0,1,2,3,4,5,6] (by kernel_rfl) ?_
  simp only[go_sem,bl]
  refine ah NL (by simp) [aY s,stD x,.int .i64 k] _ rfl ⟨s,x,k,rfl,hlt,hx.len,List.length_pos_iff.2 hsx,ng hx hlt,hV.top hlt,rfl⟩ (.inl rfl) ?_
  simp only[go_sem,bl]
  refine ah Ky (by simp) [aY s,Et s (frames x),ar (sY s x k)] _ rfl ⟨s,frames x,sY s x k,rfl,hg,hL,hLl,rY hg (hV.top hlt),rfl⟩ (.inl rfl) ?_
  have hab:BB s (frames x) (sY s x k)=eR s x k:=rfl
  rw[hab]
  cases hb:eR s x k with
  | false =>
   have hr:(List.range (k+1)).filter (eR s x)=(List.range k).filter (eR s x):=by rw[List.range_succ,List.filter_append];simp[hb]
   simp only[go_sem,bl]
   refine⟨ac.2 (by omega),k+1,by omega,by omega,?_⟩
   rw[hr]
   exact a7 (by simp only[go_sem,Int.natCast_add,Int.cast_ofNat_Int])
  | true =>
   have hr:(List.range (k+1)).filter (eR s x)=(List.range k).filter (eR s x)++[k]:=by rw[List.range_succ,List.filter_append];simp[hb]
   generalize (List.range k).filter (eR s x)=A at *
   simp only[go_sem,bl,ba,cF,Nat.le_refl,List.take_length]
   refine⟨by omega,by omega,ac.2 (by omega),k+1,by omega,by omega,?_⟩
   rw[hr,show aF (A++[k])=aF A++[D.int .i64 k] from by simp,List.length_append]
   refine aP (own:=[_,_,_,_]) (ex:=[_]) (Nat.zero_le _) ?_ ?_ ?_
   ·simp only[go_sem,Int.natCast_add,Int.cast_ofNat_Int,List.length_append]
   ·simp only[go_sem,aF,List.map_append]
   ·simp only[go_sem,Obj.under,AV.unders,AV.under]
 ·obtain rfl:k=x.length:=by omega
  have hk2:¬(x.length:Int)<x.length:=by omega
  have hA:(List.range x.length).filter (eR s x)=ik s x:=rfl
  rw[hA]
  refine av (aq 3 (ag:=none) rfl (Nat.zero_le _)) ?_
  refine a6 (Γ:=tbl wR) ka _ _ _ ?_
  simp only[go_sem,hk2,cF,ba,List.drop_zero,Nat.le_refl]
  exact am (.inl rfl) [4] rfl trivial rfl
end Go.AM

