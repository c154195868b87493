/- Own work over the model of the kit. -/
import Derived.Test.YtmmbjdgmhdjbjaaGreatDoorD14
set_option linter.unnecessarySimpa false
set_option linter.unusedSimpArgs false
set_option linter.unusedVariables false
set_option maxHeartbeats 1000000
set_option maxRecDepth 8000
namespace Go.AM
open Go Go.Proofs
def Kx(b:UInt8):Bool:=decide (97<=b.toNat) && decide (b.toNat<=122)
def DC(b:UInt8):Bool:=decide (48<=b.toNat) && decide (b.toNat<=57)
def nmc(b:UInt8):Bool:=Kx b || DC b
def gg(s:Str):Bool:=match s with|[]=>false|b :: r=>decide (r.length<8) && Kx b && r.all nmc
def jx(ds:List D)(v:AV):Prop:=∃s:Str,ds=[.str s]/\v=.dat (.bool (gg s))
theorem yp{b:UInt8}:Kx b=true↔¬(b.toNat:Int)<97/\¬(122:Int)<b.toNat:=by
 simp only[Kx,Bool.and_eq_true,decide_eq_true_eq];omega
theorem gW{b:UInt8}:DC b=true↔¬(b.toNat:Int)<48/\¬(57:Int)<b.toNat:=by
 simp only[DC,Bool.and_eq_true,decide_eq_true_eq];omega
theorem jy{b:UInt8}:Kx b=(!decide ((b.toNat:Int)<97) && !decide ((122:Int)<b.toNat)):=by
 rw[Bool.eq_iff_iff,yp];simp
theorem rB{b:UInt8}:DC b=(!decide ((b.toNat:Int)<48) && !decide ((57:Int)<b.toNat)):=by
 rw[Bool.eq_iff_iff,gW];simp
theorem p8:OkF Tryz.prog 31 (au jx):=by
 refine az Tryz.func31 rfl (by decide) ?_
 rintro ds v ⟨s,rfl,rfl⟩
 generalize hv:gg s=V
 refine a6 (Γ:=tbl []) ae _ _ _ ?_
 have fin:∀s own (b c:Bool),b=c->s.getD 2 .top=.dat (.bool b)->post Tryz.prog Tryz.f31 (.dat (.bool c)) [] [] .ret ⟨s,own,0,[]⟩:=fun s own b c e h=>by
  subst e
  exact am (.inl rfl) [2] rfl trivial (by simp only[cM,h];rfl)
 cases s with
 | nil =>
  have h0:((0:Nat):Int)<1:=by omega
  simp only[go_sem,Tryz.ntmps31,h0]
  exact fin _ _ _ _ hv rfl
 | cons b r =>
  have h0:¬((r.length+1:Nat):Int)<1:=by omega
  have h00:(0:Int)<((r.length+1:Nat):Int):=by omega
  by_cases h1:(8:Int)<((r.length+1:Nat):Int)
  ·simp only[go_sem,Tryz.ntmps31,h0,h1]
   refine fin _ _ _ _ ?_ rfl
   rw[← hv];simp only[gg];rw[decide_eq_false (by omega)];rfl
  have h1':decide (r.length<8)=true:=decide_eq_true (by omega)
  by_cases h2:(b.toNat:Int)<97
  ·simp only[go_sem,Tryz.ntmps31,h0,h00,h1,h2]
   refine fin _ _ _ _ ?_ rfl
   rw[← hv];simp[gg,jy,h2,h1']
  by_cases h3:(122:Int)<b.toNat
  ·simp only[go_sem,Tryz.ntmps31,h0,h00,h1,h2,h3]
   refine fin _ _ _ _ ?_ rfl
   rw[← hv];simp[gg,jy,h2,h3,h1']
  have hl:Kx b=true:=yp.2 ⟨h2,h3⟩
  have e:gg (b :: r)=(b :: r).all nmc:=by simp only[gg,h1',hl,List.all_cons,nmc,Bool.true_and,Bool.true_or]
  rw[e]at hv
  simp only[go_sem,Tryz.ntmps31,h0,h00,h1,h2,h3]
  generalize hL:b :: r=L at *
  have hll:L.length<=8:=by rw[← hL];simp only[List.length_cons];omega
  rw[show r.length+1=L.length by rw[← hL];rfl]
  refine ap (fun k:Nat=>⟨an 50 [(0,.dat (.str L)),(2,.dat (.bool false)),(23,.dat (.int .i64 L.length)),(24,.dat (.int .i64 k))],[],0,[]⟩)
   (fun k=>k<=L.length/\(L.drop k).all nmc=V) (fun k=>L.length - k) 0 ⟨Nat.zero_le _,hv⟩ ?_ ?_
  ·exact a7 (by simp only[go_sem,Int.natCast_zero])
  ·rintro k ⟨hk,hI⟩
   refine a6 (Γ:=tbl []) ae _ _ _ ?_
   cases hd:L.drop k with
   | nil =>
    have:=aj hd hk
    have hk2:¬(k:Int)<L.length:=by omega
    simp only[go_sem,hk2]
    refine fin _ _ _ _ ?_ rfl
    rw[← hI,hd];rfl
   | cons c q =>
    have hlt:=ao hd
    have hk2:(k:Int)<L.length:=by omega
    have hk0:(0:Int)<=k:=Int.natCast_nonneg k
    have hb:L.getD k 0=c:=uJ hd
    rw[hd,List.all_cons]at hI
    have next:nmc c=true->∃x,(x<=L.length/\(L.drop x).all nmc=V)/\L.length - x<L.length - k/\x=k+1:=fun h =>
     ⟨k+1,⟨by omega,by rw[aE hd,← hI,h,Bool.true_and]⟩,by omega,rfl⟩
    have hgo:inR .i64 ((k:Int)+1):=ac.2 (by omega)
    by_cases g1:(c.toNat:Int)<97
    ·by_cases g3:(c.toNat:Int)<48
     ·simp only[go_sem,hk2,hk0,hb,g1,g3]
      refine fin _ _ _ _ ?_ rfl
      rw[← hI];simp[nmc,jy,rB,g1,g3]
     by_cases g4:(57:Int)<c.toNat
     ·simp only[go_sem,hk2,hk0,hb,g1,g3,g4]
      refine fin _ _ _ _ ?_ rfl
      rw[← hI];simp[nmc,jy,rB,g1,g3,g4]
     ·simp only[go_sem,hk2,hk0,hb,g1,g3,g4]
      obtain⟨x,n1,n2,rfl⟩:=next (by simp[nmc,jy,rB,g1,g3,g4])
      refine⟨hgo,k+1,n1,n2,?_⟩
      exact a7 (by simp only[go_sem,Int.natCast_add,Int.cast_ofNat_Int])
    ·by_cases g2:(122:Int)<c.toNat
     ·have g3:¬(c.toNat:Int)<48:=by omega
      have g4:(57:Int)<c.toNat:=by omega
      simp only[go_sem,hk2,hk0,hb,g1,g2,g3,g4]
      refine fin _ _ _ _ ?_ rfl
      rw[← hI];simp[nmc,jy,rB,g1,g2,g3,g4]
     ·simp only[go_sem,hk2,hk0,hb,g1,g2]
      obtain⟨x,n1,n2,rfl⟩:=next (by simp[nmc,jy,g1,g2])
      refine⟨hgo,k+1,n1,n2,?_⟩
      exact a7 (by simp only[go_sem,Int.natCast_add,Int.cast_ofNat_Int])
def dF{α:Type}[DecidableEq α](x:α):Nat->List α->Int
 | _,[]=>-1
 | k,y :: r=>if x=y then k else dF x (k+1) r
theorem mL{α:Type}[DecidableEq α](x:α):∀(k:Nat) (l:List α),(0<=dF x k l)↔x∈l
 | _,[]=>by simp[dF]
 | k,y :: r=>by
  simp only[dF]
  split
  ·rename_i h;subst h;simp
  ·rename_i h;simp[mL x (k+1) r,h]
def zB(ds:List D)(v:AV):Prop:=∃(l:List Str) (x:Str),ds=[.sl none (l.map (.str)),.str x]/\l.length<4611686018427387904/\v=.dat (.int .i64 (dF x 0 l))
theorem BL:OkF Tryz.prog 46 (au zB):=by
 refine az Tryz.func46 rfl (by decide) ?_
 rintro ds v ⟨l,x,rfl,hl,rfl⟩
 generalize hv:dF x 0 l=V
 refine a6 (Γ:=tbl []) ae _ _ _ ?_
 have fin:∀s own (b c:Int),b=c->s.getD 4 .top=.dat (.int .i64 b)->post Tryz.prog Tryz.f46 (.dat (.int .i64 c)) [] [] .ret ⟨s,own,0,[]⟩:=fun s own b c e h=>by
  subst e
  exact am (.inl rfl) [4] rfl trivial (by simp only[cM,h];rfl)
 simp only[go_sem,Tryz.ntmps46]
 refine ap (fun k:Nat=>⟨an 19 [(0,.dat (.sl none (l.map (.str)))),(1,.dat (.str x)),(4,.dat (.int .i64 0)),(7,.dat (.int .i64 l.length)),(8,.dat (.int .i64 k))],[],0,[]⟩)
  (fun k=>k<=l.length/\dF x k (l.drop k)=V) (fun k=>l.length - k) 0 ⟨Nat.zero_le _,hv⟩ ?_ ?_
 ·exact a7 (by simp only[go_sem,Int.natCast_zero])
 ·rintro k ⟨hk,hI⟩
  refine a6 (Γ:=tbl []) ae _ _ _ ?_
  cases hd:l.drop k with
  | nil =>
   have:=aj hd hk
   have hk2:¬(k:Int)<l.length:=by omega
   simp only[go_sem,hk2]
   refine fin _ _ _ _ ?_ rfl
   rw[← hI,hd];rfl
  | cons c q =>
   have hlt:=ao hd
   have hk2:(k:Int)<l.length:=by omega
   have hk0:(0:Int)<=k:=Int.natCast_nonneg k
   have hn:=ak (f:=.str) hd
   rw[hd,dF]at hI
   by_cases he:x=c
   ·simp only[go_sem,hk2,hk0,hn,he]
    rw[if_pos he]at hI
    exact fin _ _ _ _ hI rfl
   ·simp only[go_sem,hk2,hk0,hn,he]
    rw[if_neg he]at hI
    refine⟨ac.2 (by omega),k+1,⟨by omega,by rw[aE hd];exact hI⟩,by omega,?_⟩
    exact a7 (by simp only[go_sem,Int.natCast_add,Int.cast_ofNat_Int])
def uU(ds:List D)(v:AV):Prop:=∃(l:List Str) (x:Str),ds=[.sl none (l.map (.str)),.str x]/\l.length<4611686018427387904/\v=.dat (.bool (decide (x∈l)))
theorem D8:OkF Tryz.prog 32 (au uU):=by
 refine az Tryz.func32 rfl (by decide) ?_
 rintro ds v ⟨l,x,rfl,hl,rfl⟩
 refine a6 (Γ:=tbl [(46,au zB)]) (ai BL ae) _ _ _ ?_
 simp only[go_sem,Tryz.ntmps32]
 refine ah zB (by simp) _ _ rfl ⟨l,x,rfl,hl,rfl⟩ (.inl rfl) ?_
 simp only[go_sem]
 refine am (.inl rfl) [4] rfl trivial ?_
 simp only[cM,wc,go_sem,mL]
def Me(ds:List D)(v:AV):Prop:=∃(l:List Bool) (x:Bool),ds=[.sl none (l.map (.bool)),.bool x]/\l.length<4611686018427387904/\v=.dat (.int .i64 (dF x 0 l))
theorem Mn:OkF Tryz.prog 27 (au Me):=by
 refine az Tryz.func27 rfl (by decide) ?_
 rintro ds v ⟨l,x,rfl,hl,rfl⟩
 generalize hv:dF x 0 l=V
 refine a6 (Γ:=tbl []) ae _ _ _ ?_
 have fin:∀s own (b c:Int),b=c->s.getD 4 .top=.dat (.int .i64 b)->post Tryz.prog Tryz.f27 (.dat (.int .i64 c)) [] [] .ret ⟨s,own,0,[]⟩:=fun s own b c e h=>by
  subst e
  exact am (.inl rfl) [4] rfl trivial (by simp only[cM,h];rfl)
 simp only[go_sem,Tryz.ntmps27]
 refine ap (fun k:Nat=>⟨an 19 [(0,.dat (.sl none (l.map (.bool)))),(1,.dat (.bool x)),(4,.dat (.int .i64 0)),(7,.dat (.int .i64 l.length)),(8,.dat (.int .i64 k))],[],0,[]⟩)
  (fun k=>k<=l.length/\dF x k (l.drop k)=V) (fun k=>l.length - k) 0 ⟨Nat.zero_le _,hv⟩ ?_ ?_
 ·exact a7 (by simp only[go_sem,Int.natCast_zero])
 ·rintro k ⟨hk,hI⟩
  refine a6 (Γ:=tbl []) ae _ _ _ ?_
  cases hd:l.drop k with
  | nil =>
   have:=aj hd hk
   have hk2:¬(k:Int)<l.length:=by omega
   simp only[go_sem,hk2]
   refine fin _ _ _ _ ?_ rfl
   rw[← hI,hd];rfl
  | cons c q =>
   have hlt:=ao hd
   have hk2:(k:Int)<l.length:=by omega
   have hk0:(0:Int)<=k:=Int.natCast_nonneg k
   have hn:=ak (f:=.bool) hd
   rw[hd,dF]at hI
   by_cases he:x=c
   ·have hbe:(x == c)=true:=by simp[he]
    simp only[go_sem,hk2,hk0,hn,hbe]
    rw[if_pos he]at hI
    exact fin _ _ _ _ hI rfl
   ·have hbe:(x == c)=false:=by simp[he]
    simp only[go_sem,hk2,hk0,hn,hbe]
    rw[if_neg he]at hI
    refine⟨ac.2 (by omega),k+1,⟨by omega,by rw[aE hd];exact hI⟩,by omega,?_⟩
    exact a7 (by simp only[go_sem,Int.natCast_add,Int.cast_ofNat_Int])
def KT(ds:List D)(v:AV):Prop:=∃(l:List Bool) (x:Bool),ds=[.sl none (l.map (.bool)),.bool x]/\l.length<4611686018427387904/\v=.dat (.bool (decide (x∈l)))
theorem Ma:OkF Tryz.prog 61 (au KT):=by
 refine az Tryz.func61 rfl (by decide) ?_
 rintro ds v ⟨l,x,rfl,hl,rfl⟩
 refine a6 (Γ:=tbl [(27,au Me)]) (ai Mn ae) _ _ _ ?_
 simp only[go_sem,Tryz.ntmps61]
 refine ah Me (by simp) _ _ rfl ⟨l,x,rfl,hl,rfl⟩ (.inl rfl) ?_
 simp only[go_sem]
 refine am (.inl rfl) [4] rfl trivial ?_
 simp only[cM,wc,go_sem,mL]
def LO(ds:List D)(v:AV):Prop:=∃n:Int,ds=[.int .i64 n]/\v=.dat (.bool (decide (0<n)))
theorem LT:OkF Tryz.prog 63 (au LO):=by
 refine az Tryz.func63 rfl (by decide) ?_
 rintro ds v ⟨n,rfl,rfl⟩
 refine a6 (Γ:=tbl []) ae _ _ _ ?_
 simp only[go_sem,Tryz.ntmps63]
 exact am (.inl rfl) [2] rfl trivial rfl
def aB(s:PSys):List Str:=s.pools.map (·.name)++s.locks++s.classes.map (·.name)
structure PSys.small (s:PSys):Prop where
 np:s.pools.length<=10
 nl:s.locks.length<=10
 nc:s.classes.length<=10
def AW(ds:List D)(v:AV):Prop:=∃s:PSys,ds=[aY s]/\s.small/\v=.dat (.sl none ((aB s).map .str))
theorem mZ{α:Type}{f:α->Str}{l r:List α}{x:α}{k:Nat}(h:l.drop k=x :: r):(l.take (k+1)).map (fun y=>D.str (f y))=(l.take k).map (fun y=>D.str (f y))++[.str (f x)]:=by
 rw[aC h];simp
theorem Gz:OkF Tryz.prog 30 (au AW):=by
 refine az Tryz.func30 rfl (by decide) ?_
 rintro ds v ⟨s,rfl,⟨hp,hl,hc⟩,rfl⟩
 obtain⟨pools,locks,classes⟩:=s
 simp only at hp hl hc
 generalize hv:aB ⟨pools,locks,classes⟩=V
 refine a6 (Γ:=tbl []) ae _ _ _ ?_
 simp only[go_sem,Tryz.ntmps30,aY]
 refine av (cQ 3 none rfl (Nat.zero_le _)) ?_
 simp only[go_sem]
 refine ap (fun k:Nat=>⟨an 39 [(1,.ptr 0 0 0),(2,.nils),(3,.sl 1 0 k),(9,.dat (.sl (some 3) (pools.map aK))),(10,.dat (.int .i64 pools.length)),(11,.dat (.int .i64 k))],
   [.box [.dat (.sl (some 3) (pools.map aK)),.dat (.sl none (locks.map .str)),.dat (.sl (some 4) (classes.map bf))],.row none ((pools.take k).map fun p:PPool=>D.str p.name)],0,[]⟩)
  (fun k=>k<=pools.length) (fun k=>pools.length - k) 0 (Nat.zero_le _) ?_ ?_
 ·exact a7 (by simp only[go_sem,Int.natCast_zero])
 ·rintro k hk
  refine a6 (Γ:=tbl []) ae _ _ _ ?_
  cases hd:pools.drop k with
  | nil =>
   have he:=aj hd hk
   have hk2:¬(k:Int)<pools.length:=by omega
   subst he
   have hlen:(pools.map fun p:PPool=>D.str p.name).take pools.length=pools.map fun p:PPool=>D.str p.name:=List.take_of_length_le (by simp)
   simp only[go_sem,hk2,List.take_length,hlen]
   refine⟨by omega,by omega,?_⟩
   refine ap (fun k:Nat=>⟨an 39 [(1,.ptr 0 0 0),(2,.nils),(3,.sl 1 0 (pools.length+locks.length+k)),(26,.dat (.sl (some 4) (classes.map bf))),(27,.dat (.int .i64 classes.length)),(28,.dat (.int .i64 k))],
     [.box [.dat (.sl (some 3) (pools.map aK)),.dat (.sl none (locks.map .str)),.dat (.sl (some 4) (classes.map bf))],.row none ((pools.map fun p:PPool=>D.str p.name)++locks.map D.str++(classes.take k).map fun p:PCls=>D.str p.name)],0,[]⟩)
    (fun k=>k<=classes.length) (fun k=>classes.length - k) 0 (Nat.zero_le _) ?_ ?_
   ·simp only[List.take_zero,List.map_nil,List.append_nil]
    exact a7 (by simp only[go_sem,Int.natCast_zero])
   ·rintro k hk
    refine a6 (Γ:=tbl []) ae _ _ _ ?_
    cases hd:classes.drop k with
    | nil =>
     have he:=aj hd hk
     have hk2:¬(k:Int)<classes.length:=by omega
     subst he
     simp only[go_sem,hk2,List.take_length]
     refine aZ (.inl rfl) [.tmp 2] rfl ?_
     simp only[go_sem]
     refine Le.trans (aq 1 (ag:=none) rfl (Nat.zero_le _)) ?_
     have e:((pools.map fun p:PPool=>D.str p.name)++locks.map D.str++classes.map fun p:PCls=>D.str p.name)=V.map .str:=by
      rw[← hv];simp[aB,List.map_map,Function.comp_def]
     have e2:pools.length+locks.length+classes.length=V.length:=by rw[← hv];simp[aB];omega
     have e3:(V.map D.str).take V.length=V.map .str:=List.take_of_length_le (by simp)
     rw[e,e2]
     simp only[go_sem,e3]
     exact bp (by simp only[go_sem]) (by simp only[go_sem])
    | cons c q =>
     have hlt:=ao hd
     have hk2:(k:Int)<classes.length:=by omega
     have hk0:(0:Int)<=k:=Int.natCast_nonneg k
     have hn:=ak (f:=bf) hd
     have hml:((classes.take k).map fun p:PCls=>D.str p.name).length=k:=by simp;omega
     have dj:((pools.map fun p:PPool=>D.str p.name)++locks.map D.str++(classes.take k).map fun p:PCls=>D.str p.name).length=pools.length+locks.length+k:=by simp;omega
     have htk:((pools.map fun p:PPool=>D.str p.name)++locks.map D.str++(classes.take k).map fun p:PCls=>D.str p.name).take (pools.length+locks.length+k)=(pools.map fun p:PPool=>D.str p.name)++locks.map D.str++(classes.take k).map fun p:PCls=>D.str p.name :=
      List.take_of_length_le (by omega)
     have hsn:(pools.map fun p:PPool=>D.str p.name)++locks.map D.str++((classes.take (k+1)).map fun p:PCls=>D.str p.name)=((pools.map fun p:PPool=>D.str p.name)++locks.map D.str++(classes.take k).map fun p:PCls=>D.str p.name)++[.str c.name]:=by
      rw[mZ (f:=PCls.name) hd,List.append_assoc,List.append_assoc];simp
     generalize ((pools.map fun p:PPool=>D.str p.name)++locks.map D.str++(classes.take k).map fun p:PCls=>D.str p.name)=row at *
     simp only[go_sem,hk2,hk0,hn,bf,dj,htk]
     refine⟨by omega,by omega,ac.2 (by omega),k+1,by omega,by omega,?_⟩
     rw[hsn]
     refine aP (own:=[_,_]) (ex:=[_,_]) (Nat.zero_le _) ?_ ?_ ?_
     ·simp only[go_sem,Int.natCast_add,Int.cast_ofNat_Int,Nat.add_assoc]
     ·simp only[go_sem]
     ·simp only[go_sem,Obj.under,AV.unders,AV.under]
  | cons c q =>
   have hlt:=ao hd
   have hk2:(k:Int)<pools.length:=by omega
   have hk0:(0:Int)<=k:=Int.natCast_nonneg k
   have hn:=ak (f:=aK) hd
   have dj:((pools.take k).map fun p:PPool=>D.str p.name).length=k:=by simp;omega
   have htk:((pools.take k).map fun p:PPool=>D.str p.name).take k=(pools.take k).map fun p:PPool=>D.str p.name:=List.take_of_length_le (by omega)
   have hsn:=mZ (f:=PPool.name) hd
   generalize ((pools.take k).map fun p:PPool=>D.str p.name)=row at *
   simp only[go_sem,hk2,hk0,hn,aK,dj,htk]
   refine⟨by omega,by omega,ac.2 (by omega),k+1,by omega,by omega,?_⟩
   rw[hsn]
   refine aP (own:=[_,_]) (ex:=[_,_]) (Nat.zero_le _) ?_ ?_ ?_
   ·simp only[go_sem,Int.natCast_add,Int.cast_ofNat_Int,Nat.add_assoc]
   ·simp only[go_sem]
   ·simp only[go_sem,Obj.under,AV.unders,AV.under]
def eQ(on kind:Int)(a:Int)(x:PStep):Int :=
 if x.on=on then
  (if x.kind=1 then (if kind=0 then a+x.cnt else a) else
  if x.kind=2 then (if kind=0 then a - x.cnt else a) else
  if x.kind=3 then (if kind=1 then a+1 else a) else
  if x.kind=4 then (if kind=1 then a - 1 else a) else a) else a
def bal(l:List PStep)(on kind:Int):Int:=l.foldl (eQ on kind) 0
def KG(l:List PStep):Prop:=∀x∈l,-1000<=x.cnt/\x.cnt<=1000
theorem GX{on kind a:Int}{x:PStep}(h:-1000<=x.cnt/\x.cnt<=1000):a - 1000<=eQ on kind a x/\eQ on kind a x<=a+1000:=by
 unfold eQ;(repeat' split) <;> omega
theorem xZ:∀(l:List PStep) (on kind a:Int),KG l->a - 1000*l.length<=l.foldl (eQ on kind) a/\l.foldl (eQ on kind) a<=a+1000*l.length
 | [],_,_,a,_=>by simp
 | x :: l,on,kind,a,h=>by
  have h1:=GX (on:=on) (kind:=kind) (a:=a) (h x (by simp))
  have h2:=xZ l on kind (eQ on kind a x) (fun y hy=>h y (by simp[hy]))
  simp only[List.foldl_cons,List.length_cons]
  omega
theorem i7(l:List PStep)(x:PStep)(on kind:Int):bal (l++[x]) on kind=eQ on kind (bal l on kind) x:=by simp[bal]
def cD(s:PSys)(k:Int):Int:=if k=3∨k=4 then s.locks.length else if k=5 then s.classes.length else s.pools.length
def bj(x:PStep):Bool:=decide (x.kind<1) || decide (5<x.kind) || (!decide (x.kind=1∨x.kind=2) && !decide (x.cnt=0)) || (!decide (x.kind=1) && x.deep)
def dd(s:PSys)(x:PStep):Int :=
 if bj x=true then 1 else if x.on<0∨cD s x.kind<=x.on then 6 else
 if (x.kind=1∨x.kind=2)/\(x.cnt<1∨(s.pools.getD x.on.toNat default).size<x.cnt) then 2 else 0
def eL(s:PSys)(u:List Int)(x:PStep):List Int :=
 if dd s x≠0 then u else if x.kind=1 then u.set x.on.toNat (u.getD x.on.toNat 0+x.cnt) else if x.kind=2 then u.set x.on.toNat (u.getD x.on.toNat 0 - x.cnt) else u
def fq(s:PSys)(b:List Bool)(x:PStep):List Bool :=
 if dd s x≠0 then b else if x.kind=3 then b.set x.on.toNat true else if x.kind=4 then b.set x.on.toNat false else b
def bq(s:PSys)(u:List Int)(b:List Bool)(x:PStep):Bool :=
 if x.kind=1 then decide (u.getD x.on.toNat 0+x.cnt<=(s.pools.getD x.on.toNat default).size) else if x.kind=2 then decide (0<=u.getD x.on.toNat 0 - x.cnt) else
 if x.kind=3 then !b.getD x.on.toNat false else if x.kind=4 then b.getD x.on.toNat false else (s.classes.getD x.on.toNat default).server
def fe(s:PSys)(u:List Int)(b:List Bool)(x:PStep):Int:=if dd s x≠0 then dd s x else if bq s u b x=true then 0 else 11
def ii(u:List Int)(b:List Bool):List Obj:=[.box [.sl 1 0 u.length,.sl 2 0 b.length],.row none (aA u),.row none (b6 b)]
def Qi(u:List Int):Prop:=∀n∈u,-100000<=n/\n<=100000
def vd(xs:List AV)(obs:List Obj)(v0:AV)(obs' ex:List Obj)(mv0:List Nat):Prop:=∃(s:PSys) (x:PStep) (u:List Int) (b:List Bool),
 u.length=s.pools.length/\b.length=s.locks.length/\(∀p∈s.pools,p.size<=1000)/\Qi u/\xs=[.ptr 0 0 0,.dat (aY s),.dat (ar x)]/\obs=ii u b /\
 v0=.dat (.int .i64 (fe s u b x))/\obs'=ii (eL s u x) (fq s b x)/\ex=[]/\mv0=[]
theorem xg{u:List Int}{i:Nat}{n:Int}:(aA u).set i (.int .i64 n)=aA (u.set i n):=by simp[List.map_set]
theorem td{u:List Bool}{i:Nat}{n:Bool}:(b6 u).set i (.bool n)=b6 (u.set i n):=by simp[List.map_set]
theorem kI{l:List Int}{i:Nat}(h:i<l.length):D.nth (aA l) i=.int .i64 (l.getD i 0):=D.nth_map h
theorem qH{l:List Bool}{i:Nat}(h:i<l.length):D.nth (b6 l) i=.bool (l.getD i false):=D.nth_map h
theorem B9{u u':List Int}{b b':List Bool}(h:u'.length=u.length)(h2:b'.length=b.length):ii u' b'=[.box [.sl 1 0 u.length,.sl 2 0 b.length],.row none (aA u'),.row none (b6 b')]:=by
 unfold ii;rw[h,h2]
theorem Jg{s:PSys}{x:PStep}{p:PPool}(hb:bj x=false)(h0:¬(x.on<0∨cD s x.kind<=x.on))(hp:s.pools.getD x.on.toNat default=p):dd s x=if (x.kind=1∨x.kind=2)/\(x.cnt<1∨p.size<x.cnt) then 2 else 0:=by
 unfold dd;rw[if_neg (by simp[hb]),if_neg h0,hp]
theorem y0:OkF Tryz.prog 60 (cr vd):=by
 refine c9 Tryz.func60 rfl (by decide) ?_
 rintro xs obs v0 obs' ex mv0 ⟨s,x,u,b,hu,hb,hsz,hsm,rfl,rfl,rfl,rfl,rfl,rfl⟩
 refine a6 (Γ:=tbl []) ae _ _ _ ?_
 obtain⟨pools,locks,classes⟩:=s
 obtain⟨kind,on,cnt,deep⟩:=x
 simp only at hu hb hsz
 generalize hE:fe ⟨pools,locks,classes⟩ u b ⟨kind,on,cnt,deep⟩=E
 generalize hU:eL ⟨pools,locks,classes⟩ u ⟨kind,on,cnt,deep⟩=U
 generalize hL:fq ⟨pools,locks,classes⟩ b ⟨kind,on,cnt,deep⟩=B
 have fin:∀s (e:Int) (u':List Int) (b':List Bool) a1 a2,e=E->u'=U->b'=B->u'.length=u.length->b'.length=b.length->s.getD 6 .top=.dat (.int .i64 e) ->
   post Tryz.prog Tryz.f60 (.dat (.int .i64 E)) (ii U B++[]) [] .ret ⟨s,[.box [.sl 1 0 u.length,.sl 2 0 b.length],.row none (aA u'),.row none (b6 b'),.box a1,.box a2],3,[]⟩:=fun s e u' b' a1 a2 h1 h2 h3 h4 h5 h6=>by
  subst h1;subst h2;subst h3
  rw[B9 h4 h5,List.append_nil]
  refine aH (.inl rfl) [.tmp 6] rfl (fun _ h=>h) ?_
  simp only[go_sem,h6]
  exact aP (own:=[_,_,_]) (ex:=[_,_]) (Nat.le_refl _) (by simp only[go_sem]) (by simp only[go_sem]) (by simp only[go_sem,Obj.under,AV.unders,AV.under])
 have err:∀s a1 a2 (e:Int),e≠0->dd ⟨pools,locks,classes⟩ ⟨kind,on,cnt,deep⟩=e->s.getD 6 .top=.dat (.int .i64 e) ->
   post Tryz.prog Tryz.f60 (.dat (.int .i64 E)) (ii U B++[]) [] .ret ⟨s,[.box [.sl 1 0 u.length,.sl 2 0 b.length],.row none (aA u),.row none (b6 b),.box a1,.box a2],3,[]⟩:=fun s a1 a2 e h1 h2 h3 =>
  fin s e u b a1 a2 (by rw[← hE];unfold fe;rw[h2,if_pos h1]) (by rw[← hU];unfold eL;rw[h2,if_pos h1]) (by rw[← hL];unfold fq;rw[h2,if_pos h1]) rfl rfl h3
 have good:∀s (e:Int) (u':List Int) (b':List Bool) a1 a2,dd ⟨pools,locks,classes⟩ ⟨kind,on,cnt,deep⟩=0->eL ⟨pools,locks,classes⟩ u ⟨kind,on,cnt,deep⟩=u'->fq ⟨pools,locks,classes⟩ b ⟨kind,on,cnt,deep⟩=b' ->
   (if bq ⟨pools,locks,classes⟩ u b ⟨kind,on,cnt,deep⟩=true then (0:Int) else 11)=e->u'.length=u.length->b'.length=b.length->s.getD 6 .top=.dat (.int .i64 e) ->
   post Tryz.prog Tryz.f60 (.dat (.int .i64 E)) (ii U B++[]) [] .ret ⟨s,[.box [.sl 1 0 u.length,.sl 2 0 b.length],.row none (aA u'),.row none (b6 b'),.box a1,.box a2],3,[]⟩:=fun s e u' b' a1 a2 h0 h1 h2 h3 h4 h5 h6 =>
  fin s e u' b' a1 a2 (by rw[← hE];unfold fe;rw[if_neg (by rw[h0];decide)];exact h3.symm) (by rw[← hU];exact h1.symm) (by rw[← hL];exact h2.symm) h4 h5 h6
 have bigN:∀{n:Int},n∈u->-100000<=n/\n<=100000:=fun h=>hsm _ h
 by_cases h1:kind<1
 ·simp only[go_sem,Int.reduceEq,Int.reduceLT,Int.reduceLE,eq_self,Int.natCast_nonneg,Int.toNat_natCast,Tryz.ntmps60,ii,aY,ar,h1,show ¬kind=1 by omega,show ¬kind=2 by omega]
  exact err _ _ _ 1 (by decide) (by simp[dd,bj,h1]) (by rfl)
 by_cases h2:5<kind
 ·simp only[go_sem,Int.reduceEq,Int.reduceLT,Int.reduceLE,eq_self,Int.natCast_nonneg,Int.toNat_natCast,Tryz.ntmps60,ii,aY,ar,h1,h2,show ¬kind=1 by omega,show ¬kind=2 by omega]
  exact err _ _ _ 1 (by decide) (by simp[dd,bj,h2]) (by rfl)
 have hk:kind=1∨kind=2∨kind=3∨kind=4∨kind=5:=by omega
 clear h1 h2
 rcases hk with rfl|rfl|rfl|rfl|rfl
 ·simp only[go_sem,Int.reduceEq,Int.reduceLT,Int.reduceLE,eq_self,Int.natCast_nonneg,Int.toNat_natCast,Tryz.ntmps60,ii,aY,ar]
  by_cases h0:on<0
  ·simp only[go_sem,Int.reduceEq,Int.reduceLT,Int.reduceLE,eq_self,Int.natCast_nonneg,Int.toNat_natCast,h0]
   exact err _ _ _ 6 (by decide) (by simp[dd,bj,cD,h0]) (by rfl)
  obtain⟨i,rfl⟩:∃i:Nat,on=i:=⟨on.toNat,by omega⟩
  simp only[go_sem,Int.reduceEq,Int.reduceLT,Int.reduceLE,eq_self,Int.natCast_nonneg,Int.toNat_natCast,h0]
  by_cases hn:(pools.length:Int)<=i
  ·simp only[go_sem,Int.reduceEq,Int.reduceLT,Int.reduceLE,eq_self,Int.natCast_nonneg,Int.toNat_natCast,hn]
   exact err _ _ _ 6 (by decide) (by simp[dd,bj,cD];omega) (by rfl)
  have hi:i<pools.length:=by omega
  have hi2:(i:Int)<pools.length:=by omega
  simp only[go_sem,Int.reduceEq,Int.reduceLT,Int.reduceLE,eq_self,Int.natCast_nonneg,Int.toNat_natCast,hn]
  refine dl (pf:=[]) (Γ:=tbl []) mixed ae b0 [0,1,2,3,4,5,6,7,8,9,10,11,12,13,14,15,16,17] (by kernel_rfl) ?_
  have hnp:D.nth (pools.map aK) i=aK (pools.getD i default):=D.nth_map hi
  have hps:(pools.getD i default).size<=1000:=by rw[List.getD_eq_getElem?_getD,List.getElem?_eq_getElem hi];exact hsz _ (List.getElem_mem hi)
  have hiu:i<u.length:=by omega
  have RU:(i:Int)<u.length:=by omega
  have hun:=bigN (n:=u.getD i 0) (by rw[List.getD_eq_getElem?_getD,List.getElem?_eq_getElem hiu];exact List.getElem_mem hiu)
  generalize hp:pools.getD i default=p at *
  have hp2:pools.getD (i:Int).toNat default=p:=by rw[Int.toNat_natCast];exact hp
  have hpe:=Jg (s:=⟨pools,locks,classes⟩) (x:=⟨1,i,cnt,deep⟩) (p:=p) (by simp[bj]) (by simp[cD];omega) hp2
  have hnu:=kI hiu
  simp only[go_sem,Int.reduceEq,Int.reduceLT,Int.reduceLE,eq_self,Int.natCast_nonneg,Int.toNat_natCast,bl]
  by_cases hc1:cnt<1
  ·simp only[go_sem,Int.reduceEq,Int.reduceLT,Int.reduceLE,eq_self,Int.natCast_nonneg,Int.toNat_natCast,bl,hc1]
   exact err _ _ _ 2 (by decide) (by rw[hpe];simp[hc1]) (by rfl)
  simp only[go_sem,Int.reduceEq,Int.reduceLT,Int.reduceLE,eq_self,Int.natCast_nonneg,Int.toNat_natCast,bl,hc1,hi,hi2,hnp,aK]
  by_cases hc2:p.size<cnt
  ·simp only[go_sem,Int.reduceEq,Int.reduceLT,Int.reduceLE,eq_self,Int.natCast_nonneg,Int.toNat_natCast,bl,hc2]
   exact err _ _ _ 2 (by decide) (by rw[hpe];simp[hc2]) (by rfl)
  have dG:dd ⟨pools,locks,classes⟩ ⟨1,i,cnt,deep⟩=0:=by rw[hpe];simp[hc1,hc2]
  simp only[go_sem,Int.reduceEq,Int.reduceLT,Int.reduceLE,eq_self,Int.natCast_nonneg,Int.toNat_natCast,bl,hc2]
  refine iK (ob:=1) (pf:=[]) (mf:=[]) (ms:=[]) mixed ae b0 fQ [0,1,2,3,4,5,6,7,8,9,10,11,12] (by kernel_rfl) ?_
  simp only[go_sem,Int.reduceEq,Int.reduceLT,Int.reduceLE,eq_self,Int.natCast_nonneg,Int.toNat_natCast,bh,opm,hiu,RU,hnu,xg]
  refine⟨ac.2 (by omega),?_⟩
  have Yw:D.nth (aA (u.set i (u.getD i 0+cnt))) i=.int .i64 (u.getD i 0+cnt):=by rw[kI (by simpa using hiu)];simp[hiu]
  refine dl (pf:=[]) (Γ:=tbl []) mixed ae b0 [0,1,2,3,4,5,6,7,8,9,10,11,12,13,14,15,16] (by kernel_rfl) ?_
  simp only[go_sem,Int.reduceEq,Int.reduceLT,Int.reduceLE,eq_self,Int.natCast_nonneg,Int.toNat_natCast,bl,hiu,RU,Yw,hi2,hnp,aK]
  by_cases hf:u.getD i 0+cnt<=p.size
  ·simp only[go_sem,Int.reduceEq,Int.reduceLT,Int.reduceLE,eq_self,Int.natCast_nonneg,Int.toNat_natCast,hf]
   refine good _ 0 (u.set i (u.getD i 0+cnt)) b _ _ dG ?_ ?_ ?_ (by simp) rfl (by rfl)
   ·unfold eL;rw[if_neg (by rw[dG];decide)];simp only[Int.toNat_natCast,Int.reduceEq,if_true,if_false]
   ·unfold fq;rw[if_neg (by rw[dG];decide)];simp only[Int.reduceEq,if_false]
   ·simp only[bq,Int.reduceEq,if_true,if_false,hp2];simp only[Int.toNat_natCast,hf,decide_true,decide_false,Bool.false_eq_true,if_true,if_false]
  ·simp only[go_sem,Int.reduceEq,Int.reduceLT,Int.reduceLE,eq_self,Int.natCast_nonneg,Int.toNat_natCast,hf]
   refine good _ 11 (u.set i (u.getD i 0+cnt)) b _ _ dG ?_ ?_ ?_ (by simp) rfl (by rfl)
   ·unfold eL;rw[if_neg (by rw[dG];decide)];simp only[Int.toNat_natCast,Int.reduceEq,if_true,if_false]
   ·unfold fq;rw[if_neg (by rw[dG];decide)];simp only[Int.reduceEq,if_false]
   ·simp only[bq,Int.reduceEq,if_true,if_false,hp2];simp only[Int.toNat_natCast,hf,decide_true,decide_false,Bool.false_eq_true,if_true,if_false]
 ·simp only[go_sem,Int.reduceEq,Int.reduceLT,Int.reduceLE,eq_self,Int.natCast_nonneg,Int.toNat_natCast,Tryz.ntmps60,ii,aY,ar]
  cases deep with
  | true =>
   simp only[go_sem,Int.reduceEq,Int.reduceLT,Int.reduceLE,eq_self,Int.natCast_nonneg,Int.toNat_natCast]
   exact err _ _ _ 1 (by decide) (by simp[dd,bj]) (by rfl)
  | false =>
   simp only[go_sem,Int.reduceEq,Int.reduceLT,Int.reduceLE,eq_self,Int.natCast_nonneg,Int.toNat_natCast]
   by_cases h0:on<0
   ·simp only[go_sem,Int.reduceEq,Int.reduceLT,Int.reduceLE,eq_self,Int.natCast_nonneg,Int.toNat_natCast,h0]
    exact err _ _ _ 6 (by decide) (by simp[dd,bj,cD,h0]) (by rfl)
   obtain⟨i,rfl⟩:∃i:Nat,on=i:=⟨on.toNat,by omega⟩
   simp only[go_sem,Int.reduceEq,Int.reduceLT,Int.reduceLE,eq_self,Int.natCast_nonneg,Int.toNat_natCast,h0]
   by_cases hn:(pools.length:Int)<=i
   ·simp only[go_sem,Int.reduceEq,Int.reduceLT,Int.reduceLE,eq_self,Int.natCast_nonneg,Int.toNat_natCast,hn]
    exact err _ _ _ 6 (by decide) (by simp[dd,bj,cD];omega) (by rfl)
   have hi:i<pools.length:=by omega
   have hi2:(i:Int)<pools.length:=by omega
   simp only[go_sem,Int.reduceEq,Int.reduceLT,Int.reduceLE,eq_self,Int.natCast_nonneg,Int.toNat_natCast,hn]
   refine dl (pf:=[]) (Γ:=tbl []) mixed ae b0 [0,1,2,3,4,5,6,7,8,9,10,11,12,13,14,15,16,17] (by kernel_rfl) ?_
   have hnp:D.nth (pools.map aK) i=aK (pools.getD i default):=D.nth_map hi
   have hps:(pools.getD i default).size<=1000:=by rw[List.getD_eq_getElem?_getD,List.getElem?_eq_getElem hi];exact hsz _ (List.getElem_mem hi)
   have hiu:i<u.length:=by omega
   have RU:(i:Int)<u.length:=by omega
   have hun:=bigN (n:=u.getD i 0) (by rw[List.getD_eq_getElem?_getD,List.getElem?_eq_getElem hiu];exact List.getElem_mem hiu)
   generalize hp:pools.getD i default=p at *
   have hp2:pools.getD (i:Int).toNat default=p:=by rw[Int.toNat_natCast];exact hp
   have hpe:=Jg (s:=⟨pools,locks,classes⟩) (x:=⟨2,i,cnt,false⟩) (p:=p) (by simp[bj]) (by simp[cD];omega) hp2
   have hnu:=kI hiu
   simp only[go_sem,Int.reduceEq,Int.reduceLT,Int.reduceLE,eq_self,Int.natCast_nonneg,Int.toNat_natCast,bl]
   by_cases hc1:cnt<1
   ·simp only[go_sem,Int.reduceEq,Int.reduceLT,Int.reduceLE,eq_self,Int.natCast_nonneg,Int.toNat_natCast,bl,hc1]
    exact err _ _ _ 2 (by decide) (by rw[hpe];simp[hc1]) (by rfl)
   simp only[go_sem,Int.reduceEq,Int.reduceLT,Int.reduceLE,eq_self,Int.natCast_nonneg,Int.toNat_natCast,bl,hc1,hi,hi2,hnp,aK]
   by_cases hc2:p.size<cnt
   ·simp only[go_sem,Int.reduceEq,Int.reduceLT,Int.reduceLE,eq_self,Int.natCast_nonneg,Int.toNat_natCast,bl,hc2]
    exact err _ _ _ 2 (by decide) (by rw[hpe];simp[hc2]) (by rfl)
   have dG:dd ⟨pools,locks,classes⟩ ⟨2,i,cnt,false⟩=0:=by rw[hpe];simp[hc1,hc2]
   simp only[go_sem,Int.reduceEq,Int.reduceLT,Int.reduceLE,eq_self,Int.natCast_nonneg,Int.toNat_natCast,bl,hc2]
   refine iK (ob:=1) (pf:=[]) (mf:=[]) (ms:=[]) mixed ae b0 fQ [0,1,2,3,4,5,6,7,8,9,10,11,12] (by kernel_rfl) ?_
   simp only[go_sem,Int.reduceEq,Int.reduceLT,Int.reduceLE,eq_self,Int.natCast_nonneg,Int.toNat_natCast,bh,opm,hiu,RU,hnu,xg]
   refine⟨ac.2 (by omega),?_⟩
   have Yw:D.nth (aA (u.set i (u.getD i 0 - cnt))) i=.int .i64 (u.getD i 0 - cnt):=by rw[kI (by simpa using hiu)];simp[hiu]
   refine dl (pf:=[]) (Γ:=tbl []) mixed ae b0 [0,1,2,3,4,5,6,7,8,9] (by kernel_rfl) ?_
   simp only[go_sem,Int.reduceEq,Int.reduceLT,Int.reduceLE,eq_self,Int.natCast_nonneg,Int.toNat_natCast,bl,hiu,RU,Yw]
   by_cases hf:0<=u.getD i 0 - cnt
   ·simp only[go_sem,Int.reduceEq,Int.reduceLT,Int.reduceLE,eq_self,Int.natCast_nonneg,Int.toNat_natCast,hf]
    refine good _ 0 (u.set i (u.getD i 0 - cnt)) b _ _ dG ?_ ?_ ?_ (by simp) rfl (by rfl)
    ·unfold eL;rw[if_neg (by rw[dG];decide)];simp only[Int.toNat_natCast,Int.reduceEq,if_true,if_false]
    ·unfold fq;rw[if_neg (by rw[dG];decide)];simp only[Int.reduceEq,if_false]
    ·simp only[bq,Int.reduceEq,if_true,if_false,hp2];simp only[Int.toNat_natCast,hf,decide_true,decide_false,Bool.false_eq_true,if_true,if_false]
   ·simp only[go_sem,Int.reduceEq,Int.reduceLT,Int.reduceLE,eq_self,Int.natCast_nonneg,Int.toNat_natCast,hf]
    refine good _ 11 (u.set i (u.getD i 0 - cnt)) b _ _ dG ?_ ?_ ?_ (by simp) rfl (by rfl)
    ·unfold eL;rw[if_neg (by rw[dG];decide)];simp only[Int.toNat_natCast,Int.reduceEq,if_true,if_false]
    ·unfold fq;rw[if_neg (by rw[dG];decide)];simp only[Int.reduceEq,if_false]
    ·simp only[bq,Int.reduceEq,if_true,if_false,hp2];simp only[Int.toNat_natCast,hf,decide_true,decide_false,Bool.false_eq_true,if_true,if_false]
 ·simp only[go_sem,Int.reduceEq,Int.reduceLT,Int.reduceLE,eq_self,Int.natCast_nonneg,Int.toNat_natCast,Tryz.ntmps60,ii,aY,ar]
  cases hc':decide (cnt=0) with
  | false =>
   have hc:¬cnt=0:=of_decide_eq_false hc'
   simp only[go_sem,Int.reduceEq,Int.reduceLT,Int.reduceLE,eq_self,Int.natCast_nonneg,Int.toNat_natCast,hc']
   exact err _ _ _ 1 (by decide) (by simp[dd,bj,hc]) (by rfl)
  | true =>
   have hc:cnt=0:=of_decide_eq_true hc'
   simp only[go_sem,Int.reduceEq,Int.reduceLT,Int.reduceLE,eq_self,Int.natCast_nonneg,Int.toNat_natCast,hc']
   cases deep with
   | true =>
    simp only[go_sem,Int.reduceEq,Int.reduceLT,Int.reduceLE,eq_self,Int.natCast_nonneg,Int.toNat_natCast]
    exact err _ _ _ 1 (by decide) (by simp[dd,bj,hc]) (by rfl)
   | false =>
    simp only[go_sem,Int.reduceEq,Int.reduceLT,Int.reduceLE,eq_self,Int.natCast_nonneg,Int.toNat_natCast]
    by_cases h0:on<0
    ·simp only[go_sem,Int.reduceEq,Int.reduceLT,Int.reduceLE,eq_self,Int.natCast_nonneg,Int.toNat_natCast,h0]
     exact err _ _ _ 6 (by decide) (by simp[dd,bj,cD,hc,h0]) (by rfl)
    obtain⟨i,rfl⟩:∃i:Nat,on=i:=⟨on.toNat,by omega⟩
    simp only[go_sem,Int.reduceEq,Int.reduceLT,Int.reduceLE,eq_self,Int.natCast_nonneg,Int.toNat_natCast,h0]
    by_cases hn:(locks.length:Int)<=i
    ·simp only[go_sem,Int.reduceEq,Int.reduceLT,Int.reduceLE,eq_self,Int.natCast_nonneg,Int.toNat_natCast,hn]
     exact err _ _ _ 6 (by decide) (by simp[dd,bj,cD,hc];omega) (by rfl)
    have hi:i<locks.length:=by omega
    have hi2:(i:Int)<locks.length:=by omega
    simp only[go_sem,Int.reduceEq,Int.reduceLT,Int.reduceLE,eq_self,Int.natCast_nonneg,Int.toNat_natCast,hn]
    refine dl (pf:=[]) (Γ:=tbl []) mixed ae b0 [0,1,2,3,4,5,6,7,8,9,10,11,12,13,14,15,16,17] (by kernel_rfl) ?_
    have dG:dd ⟨pools,locks,classes⟩ ⟨3,i,cnt,false⟩=0:=by simp[dd,bj,cD,hc];omega
    simp only[go_sem,Int.reduceEq,Int.reduceLT,Int.reduceLE,eq_self,Int.natCast_nonneg,Int.toNat_natCast,bl]
    have hib:i<b.length:=by omega
    have RV:(i:Int)<b.length:=by omega
    have hnb:=qH hib
    refine dl (pf:=[]) (Γ:=tbl []) mixed ae b0 [0,1,2,3,4,5,6,7,8,9,10,11,12] (by kernel_rfl) ?_
    simp only[go_sem,Int.reduceEq,Int.reduceLT,Int.reduceLE,eq_self,Int.natCast_nonneg,Int.toNat_natCast,bl,hib,RV,hnb]
    refine iK (ob:=2) (pf:=[]) (mf:=[]) (ms:=[]) mixed ae b0 fQ [0,1,2,3,4,5,6,7,8,9,10] (by kernel_rfl) ?_
    simp only[go_sem,Int.reduceEq,Int.reduceLT,Int.reduceLE,eq_self,Int.natCast_nonneg,Int.toNat_natCast,bh,opm,hib,RV,hnb,td]
    cases hf:b.getD i false with
    | true =>
     simp only[go_sem,Int.reduceEq,Int.reduceLT,Int.reduceLE,eq_self,Int.natCast_nonneg,Int.toNat_natCast,hf]
     refine good _ 11 u (b.set i true) _ _ dG ?_ ?_ ?_ rfl (by simp) (by rfl)
     ·unfold eL;rw[if_neg (by rw[dG];decide)];simp only[Int.reduceEq,if_false]
     ·unfold fq;rw[if_neg (by rw[dG];decide)];simp only[Int.toNat_natCast,Int.reduceEq,if_true,if_false]
     ·simp only[bq,Int.reduceEq,if_true,if_false,Int.toNat_natCast,hf,Bool.not_true,Bool.not_false,Bool.false_eq_true]
    | false =>
     simp only[go_sem,Int.reduceEq,Int.reduceLT,Int.reduceLE,eq_self,Int.natCast_nonneg,Int.toNat_natCast,hf]
     refine good _ 0 u (b.set i true) _ _ dG ?_ ?_ ?_ rfl (by simp) (by rfl)
     ·unfold eL;rw[if_neg (by rw[dG];decide)];simp only[Int.reduceEq,if_false]
     ·unfold fq;rw[if_neg (by rw[dG];decide)];simp only[Int.toNat_natCast,Int.reduceEq,if_true,if_false]
     ·simp only[bq,Int.reduceEq,if_true,if_false,Int.toNat_natCast,hf,Bool.not_true,Bool.not_false,Bool.false_eq_true]
 ·simp only[go_sem,Int.reduceEq,Int.reduceLT,Int.reduceLE,eq_self,Int.natCast_nonneg,Int.toNat_natCast,Tryz.ntmps60,ii,aY,ar]
  cases hc':decide (cnt=0) with
  | false =>
   have hc:¬cnt=0:=of_decide_eq_false hc'
   simp only[go_sem,Int.reduceEq,Int.reduceLT,Int.reduceLE,eq_self,Int.natCast_nonneg,Int.toNat_natCast,hc']
   exact err _ _ _ 1 (by decide) (by simp[dd,bj,hc]) (by rfl)
  | true =>
   have hc:cnt=0:=of_decide_eq_true hc'
   simp only[go_sem,Int.reduceEq,Int.reduceLT,Int.reduceLE,eq_self,Int.natCast_nonneg,Int.toNat_natCast,hc']
   cases deep with
   | true =>
    simp only[go_sem,Int.reduceEq,Int.reduceLT,Int.reduceLE,eq_self,Int.natCast_nonneg,Int.toNat_natCast]
    exact err _ _ _ 1 (by decide) (by simp[dd,bj,hc]) (by rfl)
   | false =>
    simp only[go_sem,Int.reduceEq,Int.reduceLT,Int.reduceLE,eq_self,Int.natCast_nonneg,Int.toNat_natCast]
    by_cases h0:on<0
    ·simp only[go_sem,Int.reduceEq,Int.reduceLT,Int.reduceLE,eq_self,Int.natCast_nonneg,Int.toNat_natCast,h0]
     exact err _ _ _ 6 (by decide) (by simp[dd,bj,cD,hc,h0]) (by rfl)
    obtain⟨i,rfl⟩:∃i:Nat,on=i:=⟨on.toNat,by omega⟩
    simp only[go_sem,Int.reduceEq,Int.reduceLT,Int.reduceLE,eq_self,Int.natCast_nonneg,Int.toNat_natCast,h0]
    by_cases hn:(locks.length:Int)<=i
    ·simp only[go_sem,Int.reduceEq,Int.reduceLT,Int.reduceLE,eq_self,Int.natCast_nonneg,Int.toNat_natCast,hn]
     exact err _ _ _ 6 (by decide) (by simp[dd,bj,cD,hc];omega) (by rfl)
    have hi:i<locks.length:=by omega
    have hi2:(i:Int)<locks.length:=by omega
    simp only[go_sem,Int.reduceEq,Int.reduceLT,Int.reduceLE,eq_self,Int.natCast_nonneg,Int.toNat_natCast,hn]
    refine dl (pf:=[]) (Γ:=tbl []) mixed ae b0 [0,1,2,3,4,5,6,7,8,9,10,11,12,13,14,15,16,17] (by kernel_rfl) ?_
    have dG:dd ⟨pools,locks,classes⟩ ⟨4,i,cnt,false⟩=0:=by simp[dd,bj,cD,hc];omega
    simp only[go_sem,Int.reduceEq,Int.reduceLT,Int.reduceLE,eq_self,Int.natCast_nonneg,Int.toNat_natCast,bl]
    have hib:i<b.length:=by omega
    have RV:(i:Int)<b.length:=by omega
    have hnb:=qH hib
    refine dl (pf:=[]) (Γ:=tbl []) mixed ae b0 [0,1,2,3,4,5,6,7,8,9,10,11,12] (by kernel_rfl) ?_
    simp only[go_sem,Int.reduceEq,Int.reduceLT,Int.reduceLE,eq_self,Int.natCast_nonneg,Int.toNat_natCast,bl,hib,RV,hnb]
    refine iK (ob:=2) (pf:=[]) (mf:=[]) (ms:=[]) mixed ae b0 fQ [0,1,2,3,4,5,6,7,8,9,10] (by kernel_rfl) ?_
    simp only[go_sem,Int.reduceEq,Int.reduceLT,Int.reduceLE,eq_self,Int.natCast_nonneg,Int.toNat_natCast,bh,opm,hib,RV,hnb,td]
    cases hf:b.getD i false with
    | true =>
     simp only[go_sem,Int.reduceEq,Int.reduceLT,Int.reduceLE,eq_self,Int.natCast_nonneg,Int.toNat_natCast,hf]
     refine good _ 0 u (b.set i false) _ _ dG ?_ ?_ ?_ rfl (by simp) (by rfl)
     ·unfold eL;rw[if_neg (by rw[dG];decide)];simp only[Int.reduceEq,if_false]
     ·unfold fq;rw[if_neg (by rw[dG];decide)];simp only[Int.toNat_natCast,Int.reduceEq,if_true,if_false]
     ·simp only[bq,Int.reduceEq,if_true,if_false,Int.toNat_natCast,hf,Bool.not_true,Bool.not_false,Bool.false_eq_true]
    | false =>
     simp only[go_sem,Int.reduceEq,Int.reduceLT,Int.reduceLE,eq_self,Int.natCast_nonneg,Int.toNat_natCast,hf]
     refine good _ 11 u (b.set i false) _ _ dG ?_ ?_ ?_ rfl (by simp) (by rfl)
     ·unfold eL;rw[if_neg (by rw[dG];decide)];simp only[Int.reduceEq,if_false]
     ·unfold fq;rw[if_neg (by rw[dG];decide)];simp only[Int.toNat_natCast,Int.reduceEq,if_true,if_false]
     ·simp only[bq,Int.reduceEq,if_true,if_false,Int.toNat_natCast,hf,Bool.not_true,Bool.not_false,Bool.false_eq_true]
 ·simp only[go_sem,Int.reduceEq,Int.reduceLT,Int.reduceLE,eq_self,Int.natCast_nonneg,Int.toNat_natCast,Tryz.ntmps60,ii,aY,ar]
  cases hc':decide (cnt=0) with
  | false =>
   have hc:¬cnt=0:=of_decide_eq_false hc'
   simp only[go_sem,Int.reduceEq,Int.reduceLT,Int.reduceLE,eq_self,Int.natCast_nonneg,Int.toNat_natCast,hc']
   exact err _ _ _ 1 (by decide) (by simp[dd,bj,hc]) (by rfl)
  | true =>
   have hc:cnt=0:=of_decide_eq_true hc'
   simp only[go_sem,Int.reduceEq,Int.reduceLT,Int.reduceLE,eq_self,Int.natCast_nonneg,Int.toNat_natCast,hc']
   cases deep with
   | true =>
    simp only[go_sem,Int.reduceEq,Int.reduceLT,Int.reduceLE,eq_self,Int.natCast_nonneg,Int.toNat_natCast]
    exact err _ _ _ 1 (by decide) (by simp[dd,bj,hc]) (by rfl)
   | false =>
    simp only[go_sem,Int.reduceEq,Int.reduceLT,Int.reduceLE,eq_self,Int.natCast_nonneg,Int.toNat_natCast]
    by_cases h0:on<0
    ·simp only[go_sem,Int.reduceEq,Int.reduceLT,Int.reduceLE,eq_self,Int.natCast_nonneg,Int.toNat_natCast,h0]
     exact err _ _ _ 6 (by decide) (by simp[dd,bj,cD,hc,h0]) (by rfl)
    obtain⟨i,rfl⟩:∃i:Nat,on=i:=⟨on.toNat,by omega⟩
    simp only[go_sem,Int.reduceEq,Int.reduceLT,Int.reduceLE,eq_self,Int.natCast_nonneg,Int.toNat_natCast,h0]
    by_cases hn:(classes.length:Int)<=i
    ·simp only[go_sem,Int.reduceEq,Int.reduceLT,Int.reduceLE,eq_self,Int.natCast_nonneg,Int.toNat_natCast,hn]
     exact err _ _ _ 6 (by decide) (by simp[dd,bj,cD,hc];omega) (by rfl)
    have hi:i<classes.length:=by omega
    have hi2:(i:Int)<classes.length:=by omega
    simp only[go_sem,Int.reduceEq,Int.reduceLT,Int.reduceLE,eq_self,Int.natCast_nonneg,Int.toNat_natCast,hn]
    refine dl (pf:=[]) (Γ:=tbl []) mixed ae b0 [0,1,2,3,4,5,6,7,8,9,10,11,12,13,14,15,16,17] (by kernel_rfl) ?_
    have dG:dd ⟨pools,locks,classes⟩ ⟨5,i,cnt,false⟩=0:=by simp[dd,bj,cD,hc];omega
    simp only[go_sem,Int.reduceEq,Int.reduceLT,Int.reduceLE,eq_self,Int.natCast_nonneg,Int.toNat_natCast,bl]
    have hnc:D.nth (classes.map bf) i=bf (classes.getD i default):=D.nth_map hi
    generalize hp:classes.getD i default=c at *
    simp only[go_sem,Int.reduceEq,Int.reduceLT,Int.reduceLE,eq_self,Int.natCast_nonneg,Int.toNat_natCast,hi,hi2,hnc,bf]
    cases hf:c.server with
    | true =>
     simp only[go_sem,Int.reduceEq,Int.reduceLT,Int.reduceLE,eq_self,Int.natCast_nonneg,Int.toNat_natCast,hf]
     refine good _ 0 u b _ _ dG ?_ ?_ ?_ rfl rfl (by rfl)
     ·unfold eL;rw[if_neg (by rw[dG];decide)];simp only[Int.reduceEq,if_false]
     ·unfold fq;rw[if_neg (by rw[dG];decide)];simp only[Int.reduceEq,if_false]
     ·simp only[bq,Int.reduceEq,if_false,Int.toNat_natCast,hp,hf,Bool.false_eq_true,if_true]
    | false =>
     simp only[go_sem,Int.reduceEq,Int.reduceLT,Int.reduceLE,eq_self,Int.natCast_nonneg,Int.toNat_natCast,hf]
     refine good _ 11 u b _ _ dG ?_ ?_ ?_ rfl rfl (by rfl)
     ·unfold eL;rw[if_neg (by rw[dG];decide)];simp only[Int.reduceEq,if_false]
     ·unfold fq;rw[if_neg (by rw[dG];decide)];simp only[Int.reduceEq,if_false]
     ·simp only[bq,Int.reduceEq,if_false,Int.toNat_natCast,hp,hf,Bool.false_eq_true,if_true]
def fO(n:Nat):List Int:=List.replicate n 0
def ie(n:Nat):List Bool:=List.replicate n false
def uG(ds:List D)(v:AV)(ob:List Obj):Prop:=∃s:PSys,ds=[aY s]/\s.small/\v=.agg [.sl 0 0 s.pools.length,.sl 1 0 s.locks.length]/\ob=[.row none (aA (fO s.pools.length)),.row none (b6 (ie s.locks.length))]
theorem xz:OkF Tryz.prog 59 (fk uG):=by
 refine ec Tryz.func59 rfl (by decide) ?_
 rintro ds v ob ⟨s,rfl,⟨hp,hl,hc⟩,rfl,rfl⟩
 obtain⟨pools,locks,classes⟩:=s
 simp only at hp hl hc ⊢
 refine a6 (Γ:=tbl []) ae _ _ _ ?_
 simp only[go_sem,Tryz.ntmps59,aY]
 refine DF (ob:=0) (pf:=[]) (mf:=[]) (ms:=[]) mixed ae b0 fQ [0,1,2,4,5,6] 3 7 [7,8,9] [3,8,9] (by kernel_rfl) ?_
 simp only[go_sem,bh,opm,Int.natCast_nonneg,Int.toNat_natCast,Int.le_refl]
 have fin:∀s,s.getD 2 .top=.ptr 1 0 0->post Tryz.prog Tryz.f59 (.agg [.sl 0 0 pools.length,.sl 1 0 locks.length]) [.row none (aA (fO pools.length)),.row none (b6 (ie locks.length))] [] .ret
   ⟨s,[.box [.dat (.sl (some 3) (pools.map aK)),.dat (.sl none (locks.map .str)),.dat (.sl (some 4) (classes.map bf))],.box [.sl 2 0 pools.length,.sl 3 0 locks.length],.row none (List.replicate pools.length (.int .i64 0)),.row none (List.replicate locks.length (.bool false))],0,[]⟩:=fun s h=>by
  refine aH (.inl rfl) [.cell 2 132] rfl (fun _ h=>h) ?_
  simp only[go_sem,h]
  refine Le.trans (ol (s':=[.agg [.sl 0 0 pools.length,.sl 3 0 locks.length]]) (own':=[.row none (List.replicate pools.length (.int .i64 0)),.box [.sl 0 0 pools.length,.sl 3 0 locks.length],.box [.dat (.sl (some 3) (pools.map aK)),.dat (.sl none (locks.map .str)),.dat (.sl (some 4) (classes.map bf))],.row none (List.replicate locks.length (.bool false))])
   0 2 (by decide:(0:Nat)<4) (by decide:(2:Nat)<4) (by rfl) (by rfl)) ?_
  refine Le.trans (ol (s':=[.agg [.sl 0 0 pools.length,.sl 1 0 locks.length]]) (own':=[.row none (List.replicate pools.length (.int .i64 0)),.row none (List.replicate locks.length (.bool false)),.box [.dat (.sl (some 3) (pools.map aK)),.dat (.sl none (locks.map .str)),.dat (.sl (some 4) (classes.map bf))],.box [.sl 0 0 pools.length,.sl 1 0 locks.length]])
   1 3 (by decide:(1:Nat)<4) (by decide:(3:Nat)<4) (by rfl) (by rfl)) ?_
  have e1:aA (fO pools.length)=List.replicate pools.length (.int .i64 0):=by simp[aA,fO]
  have e2:b6 (ie locks.length)=List.replicate locks.length (.bool false):=by simp[b6,ie]
  rw[e1,e2]
  refine aP (own:=[_,_]) (ex:=[_,_]) (Nat.zero_le _) ?_ ?_ ?_
  ·simp only[go_sem]
  ·simp only[go_sem]
  ·simp only[go_sem,Obj.under,AV.unders,AV.under]
 have swap:∀s,s.getD 2 .top=.ptr 1 0 0->post Tryz.prog Tryz.f59 (.agg [.sl 0 0 pools.length,.sl 1 0 locks.length]) [.row none (aA (fO pools.length)),.row none (b6 (ie locks.length))] [] .ret
   ⟨s,[.box [.dat (.sl (some 3) (pools.map aK)),.dat (.sl none (locks.map .str)),.dat (.sl (some 4) (classes.map bf))],.box [.sl 3 0 pools.length,.sl 2 0 locks.length],.row none (List.replicate locks.length (.bool false)),.row none (List.replicate pools.length (.int .i64 0))],0,[]⟩:=fun s h=>by
  refine aH (.inl rfl) [.cell 2 132] rfl (fun _ h=>h) ?_
  simp only[go_sem,h]
  refine Le.trans (ol (s':=[.agg [.sl 0 0 pools.length,.sl 2 0 locks.length]]) (own':=[.row none (List.replicate pools.length (.int .i64 0)),.box [.sl 0 0 pools.length,.sl 2 0 locks.length],.row none (List.replicate locks.length (.bool false)),.box [.dat (.sl (some 3) (pools.map aK)),.dat (.sl none (locks.map .str)),.dat (.sl (some 4) (classes.map bf))]])
   0 3 (by decide:(0:Nat)<4) (by decide:(3:Nat)<4) (by rfl) (by rfl)) ?_
  refine Le.trans (ol (s':=[.agg [.sl 0 0 pools.length,.sl 1 0 locks.length]]) (own':=[.row none (List.replicate pools.length (.int .i64 0)),.row none (List.replicate locks.length (.bool false)),.box [.sl 0 0 pools.length,.sl 1 0 locks.length],.box [.dat (.sl (some 3) (pools.map aK)),.dat (.sl none (locks.map .str)),.dat (.sl (some 4) (classes.map bf))]])
   1 2 (by decide:(1:Nat)<4) (by decide:(2:Nat)<4) (by rfl) (by rfl)) ?_
  have e1:aA (fO pools.length)=List.replicate pools.length (.int .i64 0):=by simp[aA,fO]
  have e2:b6 (ie locks.length)=List.replicate locks.length (.bool false):=by simp[b6,ie]
  rw[e1,e2]
  refine aP (own:=[_,_]) (ex:=[_,_]) (Nat.zero_le _) ?_ ?_ ?_
  ·simp only[go_sem]
  ·simp only[go_sem]
  ·simp only[go_sem,Obj.under,AV.unders,AV.under]
 refine⟨⟨by omega,by omega,fin _ (by rfl)⟩,by omega,by omega,swap _ (by rfl)⟩
def I9:Nat->List Int->Int
 | _,[]=>-1
 | k,n :: r=>if 0<n then k else I9 (k+1) r
theorem yh:∀(k:Nat) (l:List Int),(0<=I9 k l)↔∃n∈l,0<n
 | _,[]=>by simp[I9]
 | k,y :: r=>by
  simp only[I9]
  split
  ·rename_i h;simp[h]
  ·rename_i h;simp[yh (k+1) r,h]
def Lx(xs:List AV)(obs:List Obj)(v0:AV)(obs' ex:List Obj)(mv0:List Nat):Prop:=∃u:List Int,u.length<=1000000/\xs=[.sl 0 0 u.length,.fn 63 []]/\obs=[.row none (aA u)]/\v0=.dat (.int .i64 (I9 0 u))/\obs'=[.row none (aA u)]/\ex=[]/\mv0=[]
abbrev KN:List (Nat×a8):=[(63,au LO)]
theorem yl:OkG Tryz.prog (tbl KN):=ai LT ae
theorem Kz:OkF Tryz.prog 79 (cr Lx):=by
 refine c9 Tryz.func79 rfl (by decide) ?_
 rintro xs obs v0 obs' ex mv0 ⟨u,hu,rfl,rfl,rfl,rfl,rfl,rfl⟩
 generalize hv:I9 0 u=V
 refine a6 (Γ:=tbl KN) yl _ _ _ ?_
 have fin:∀s (b c:Int),b=c->s.getD 4 .top=.dat (.int .i64 b)->post Tryz.prog Tryz.f79 (.dat (.int .i64 c)) ([.row none (aA u)]++[]) [] .ret ⟨s,[.row none (aA u)],1,[]⟩:=fun s b c e h=>by
  subst e
  refine aH (.inl rfl) [.tmp 4] rfl (fun _ h=>h) ?_
  simp only[go_sem,h]
  exact Le.refl _
 simp only[go_sem,Tryz.ntmps79]
 refine ap (fun k:Nat=>⟨an 19 [(0,.sl 0 0 u.length),(1,.fn 63 []),(4,.dat (.int .i64 0)),(7,.dat (.int .i64 u.length)),(8,.dat (.int .i64 k))],[.row none (aA u)],1,[]⟩)
  (fun k=>k<=u.length/\I9 k (u.drop k)=V) (fun k=>u.length - k) 0 ⟨Nat.zero_le _,hv⟩ ?_ ?_
 ·exact a7 (by simp only[go_sem,Int.natCast_zero])
 ·rintro k ⟨hk,hI⟩
  refine a6 (Γ:=tbl KN) yl _ _ _ ?_
  cases hd:u.drop k with
  | nil =>
   have:=aj hd hk
   have hk2:¬(k:Int)<u.length:=by omega
   simp only[go_sem,hk2]
   refine fin _ _ _ ?_ (by rfl)
   rw[← hI,hd];rfl
  | cons c q =>
   have hlt:=ao hd
   have hk2:(k:Int)<u.length:=by omega
   have hk0:(0:Int)<=k:=Int.natCast_nonneg k
   have hn:=ak (f:=.int .i64) hd
   rw[hd,I9]at hI
   simp only[go_sem,hk2,hk0,hn,hlt]
   refine ah LO (by simp) _ _ rfl ⟨c,rfl,rfl⟩ (.inl rfl) ?_
   by_cases he:0<c
   ·simp only[go_sem,he]
    rw[if_pos he]at hI
    exact fin _ _ _ hI (by rfl)
   ·simp only[go_sem,he]
    rw[if_neg he]at hI
    refine⟨ac.2 (by omega),k+1,⟨by omega,by rw[aE hd];exact hI⟩,by omega,?_⟩
    exact a7 (by simp only[go_sem,Int.natCast_add,Int.cast_ofNat_Int])
def LH(xs:List AV)(obs:List Obj)(v0:AV)(obs' ex:List Obj)(mv0:List Nat):Prop:=∃u:List Int,u.length<=1000000/\xs=[.sl 0 0 u.length,.fn 63 []]/\obs=[.row none (aA u)]/\v0=.dat (.bool (decide (∃n∈u,0<n)))/\obs'=[.row none (aA u)]/\ex=[]/\mv0=[]
theorem JC:OkF Tryz.prog 62 (cr LH):=by
 refine c9 Tryz.func62 rfl (by decide) ?_
 rintro xs obs v0 obs' ex mv0 ⟨u,hu,rfl,rfl,rfl,rfl,rfl,rfl⟩
 refine a6 (Γ:=tbl [(79,cr Lx)]) (ai Kz ae) _ _ _ ?_
 simp only[go_sem,Tryz.ntmps62]
 refine bC Lx (by simp) [0] ⟨u,hu,rfl,rfl,rfl,rfl,rfl,rfl⟩ (by decide) (by simp) rfl rfl rfl (by simp only[go_sem,AV.unders,AV.under]) (by simp only[List.mem_singleton,forall_eq];trivial) (fun j hj=>by
    obtain rfl:j=0:=by simp at hj;exact hj
    rfl) ?_
 simp only[go_sem,yh]
 refine aH (.inl rfl) [.tmp 4] rfl (fun _ h=>h) ?_
 simp only[go_sem]
 exact Le.refl _
end Go.AM

