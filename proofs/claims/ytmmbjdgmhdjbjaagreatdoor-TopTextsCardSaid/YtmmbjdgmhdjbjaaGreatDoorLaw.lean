/- The law TopTexts. -/
import Derived.Test.YtmmbjdgmhdjbjaaGreatDoorD14
import Derived.Test.YtmmbjdgmhdjbjaaGreatDoorD13
import Derived.Test.YtmmbjdgmhdjbjaaGreatDoorD23
import Derived.Test.YtmmbjdgmhdjbjaaGreatDoorD27
import Derived.Test.YtmmbjdgmhdjbjaaGreatDoorD28
import Derived.Test.YtmmbjdgmhdjbjaaGreatDoorD16
set_option linter.unnecessarySimpa false
set_option linter.unusedSimpArgs false
set_option linter.unusedVariables false
set_option maxHeartbeats 4000000
set_option maxRecDepth 8000

namespace Go.AM
open Go Go.Proofs
theorem m4{α:Type}{l:List α}{x:α}(k:Nat)(h:l[k]?=some x):x∈l:=List.mem_of_getElem? h
theorem Hj{s:PSys}(h:ND s=true):s.fit:=by
 simp only[ND,Bool.and_eq_true,Bool.not_eq_true',decide_eq_false_iff_not]at h
 exact⟨⟨by omega,by omega,by omega⟩⟩
theorem Aq{s:PSys}(h:s.fit):(ly s).1.length<=100:=by
 have h1:=h.small.np;have h2:=h.small.nl;have h3:=h.small.nc
 unfold ly
 split
 ·simp
 split
 ·simp
 split
 ·rename_i L hl
  obtain⟨f,_,rfl⟩:=LQ hl
  simp only[List.length_map,List.length_range,rf]
  omega
 ·simp
def Iw(ds:List D)(v:AV):Prop:=∃s:PSys,s.classes.length<=9223372036854775807/\ds=[aY s]/\v=.dat (.bool true)
abbrev Gu:List (Nat×a8):=[(4,au Gy),(5,au xH),(6,au W7),(7,au (yA (aJ 10))),(8,au py),(9,au rt)]
theorem xn:OkG Tryz.prog (tbl Gu):=ai wt (ai vC (ai P7 (ai zP (ai C0 (ai mj ae)))))
abbrev ab5(s:PSys):Obj:=.box [.dat (.sl (some 3) (s.pools.map aK)),.dat (.sl none (s.locks.map .str)),.dat (.sl (some 4) (s.classes.map bf))]
theorem oe{own:List Obj}{K:AV->List Obj->List Nat->Prop}(h:K (.dat (.bool true)) own []):eB (tbl Gu) (.fn 4 []) [] own K :=
 ah Gy (m4 0 rfl) [] _ rfl zf (.inl rfl) h
theorem vR:OkF Tryz.prog 3 (au Iw):=by
 refine az Tryz.func3 rfl (by decide) ?_
 rintro ds v ⟨s,hlen,rfl,rfl⟩
 have hcl:(s.classes.map bf).length=s.classes.length:=List.length_map _
 refine a6 (Γ:=tbl Gu) xn _ _ _ ?_
 simp only[go_sem,Tryz.ntmps3,aY,hcl]
 refine ap (fun p:Nat×Int=>⟨an 161 [(1,.ptr 0 0 0),(3,.dat (.int .i64 p.2)),(24,.dat (.sl (some 4) (s.classes.map bf))),(25,.dat (.int .i64 s.classes.length)),(26,.dat (.int .i64 p.1))],[ab5 s],0,[]⟩)
  (fun p=>p.1<=s.classes.length) (fun p=>s.classes.length - p.1) (0,0) (Nat.zero_le _) ?_ ?_
 ·exact a7 (by simp only[go_sem,Int.natCast_zero])
 rintro ⟨k,n⟩ hk
 simp only at hk ⊢
 refine al [6,23,29] (Γ:=tbl Gu) xn _ _ _ ?_
 rcases Nat.lt_or_ge k s.classes.length with hlt|hge
 ·have k1:(k:Int)<s.classes.length:=by omega
  have k2:(0:Int)<=k:=by omega
  have hnx:D.nth (s.classes.map bf) k=bf s.classes[k]:=by
   show (s.classes.map bf).getD k default=_
   rw[List.getD_eq_getElem?_getD,List.getElem?_map,List.getElem?_eq_getElem hlt];rfl
  generalize s.classes[k]=c at *
  obtain⟨nm,w,sv,st⟩:=c
  have hst:(bD st)=.sl (some 4) (st.map ar):=rfl
  have hsl:(st.map ar).length=st.length:=List.length_map _
  generalize hmx:max (0:Int) (min w 9)=mx at *
  cases sv with
  | true =>
   by_cases h8:(8:Int)<st.length
   ·simp only[go_sem,k1,k2,hcl,hnx,bf,hst,hsl,h8,Int.toNat_natCast,decide_true]
    refine oe ?_
    simp only[go_sem]
    exact am (.inl rfl) [2] rfl trivial rfl
   ·simp only[go_sem,k1,k2,hcl,hnx,bf,hst,hsl,h8,Int.toNat_natCast,decide_true,decide_false]
    refine⟨ac.2 (by omega),(k+1,n),by simp only;omega,by simp only;omega,?_⟩
    refine aP (own:=[_]) (ex:=[_]) (Nat.zero_le _) ?_ ?_ ?_
    ·simp only[go_sem,Int.natCast_add,Int.cast_ofNat_Int]
    ·simp only[go_sem]
    ·simp only[go_sem,Obj.under,AV.unders,AV.under]
  | false =>
   simp only[go_sem,k1,k2,hcl,hnx,bf,hst,hsl,Int.toNat_natCast,decide_true]
   refine acF xn ?_
   refine .inr ?_
   simp only[go_sem]
   refine .inr ?_
   simp only[go_sem]
   refine .inr ?_
   simp only[go_sem]
   refine .inr ?_
   simp only[go_sem]
   refine .inr ?_
   simp only[go_sem,hmx]
   refine .inl ?_
   simp only[go_sem]
   refine .inr ?_
   simp only[go_sem]
   generalize IntKind.i64.wrap (n+mx)=n'
   by_cases h8:(8:Int)<st.length
   ·simp only[go_sem,h8,hsl,decide_true]
    refine oe ?_
    simp only[go_sem]
    exact am (.inl rfl) [2] rfl trivial rfl
   ·simp only[go_sem,h8,hsl,decide_false]
    refine⟨ac.2 (by omega),(k+1,n'),by simp only;omega,by simp only;omega,?_⟩
    refine aP (own:=[_]) (ex:=[_]) (Nat.zero_le _) ?_ ?_ ?_
    ·simp only[go_sem,Int.natCast_add,Int.cast_ofNat_Int]
    ·simp only[go_sem]
    ·simp only[go_sem,Obj.under,AV.unders,AV.under]
 obtain rfl:k=s.classes.length:=by omega
 have k1:¬(s.classes.length:Int)<s.classes.length:=by omega
 have hft:∃tx e,xH [aY s] (.tup [.dat (.str tx),.dat (.int .i64 e)])/\(e=0->aT s=0/\tx=pX s):=by
  refine⟨_,_,⟨s,rfl,rfl⟩,?_⟩
  unfold UB
  split
  ·rename_i hc;exact fun _=>⟨hc,rfl⟩
  ·rename_i hc;exact fun h=>absurd h hc
 obtain⟨tx,e,hft,he⟩:=hft
 simp only[go_sem,k1,decide_false]
 refine ah xH (m4 1 rfl) [aY s] _ rfl hft (.inl rfl) ?_
 simp only[go_sem]
 refine ah W7 (m4 2 rfl) [aY s] _ rfl ⟨s,rfl,rfl⟩ (.inl rfl) ?_
 cases hf:ND s with
 | false =>
  simp only[go_sem,Bool.not_false]
  refine oe ?_
  simp only[go_sem]
  exact am (.inl rfl) [2] rfl trivial rfl
 | true =>
 by_cases hn4:(4:Int)<n
 ·simp only[go_sem,Bool.not_true,hn4,decide_true]
  refine oe ?_
  simp only[go_sem]
  exact am (.inl rfl) [2] rfl trivial rfl
 by_cases he0:e=0
 case neg =>
  simp only[go_sem,Bool.not_true,hn4,he0,decide_true,decide_false]
  refine oe ?_
  simp only[go_sem]
  exact am (.inl rfl) [2] rfl trivial rfl
 obtain⟨hc,rfl⟩:=he he0
 subst he0
 have fA:=Hj hf
 have htl:=tr (ki hc)
 have hmk:py [aY s] (.tup [.dat (pT (ly s).1),.dat (.int .i64 (ly s).2)]):=⟨s,rfl,fA,rfl⟩
 have hml:=Aq fA
 obtain⟨B,hB⟩:=Mk s (mF s)
 obtain⟨L,hL,hLl⟩:=CG s B
 have hdd:rt [aY s] (.tup [.dat (.sl none (aF L)),.dat (.int .i64 (lq s B).2.1),.dat (.int .i64 (lq s B).2.2)]):=⟨s,B,rfl,fA,hB,by rw[hL]⟩
 generalize (lq s B).2.1=w at *
 generalize (lq s B).2.2=i at *
 generalize (ly s).1=M at *
 generalize (ly s).2=g at *
 have abZ:yA (aJ 10) [.str (pX s)] (.tup [.dat (aY s),.dat (.int .i64 0),.dat (.int .i64 0)]):=⟨pX s,rfl,by omega,by rw[zb hc]⟩
 have hLn:(aF L).length=L.length:=List.length_map _
 have hMn:(aF M).length=M.length:=List.length_map _
 simp only[go_sem,Bool.not_true,hn4,eq_self,decide_true,decide_false]
 refine ah (yA (aJ 10)) (m4 3 rfl) _ _ rfl abZ (.inl rfl) ?_
 simp only[go_sem,aY]
 refine ah py (m4 4 rfl) [aY s] _ rfl hmk (.inl rfl) ?_
 simp only[go_sem,pT]
 refine ah py (m4 4 rfl) [aY s] _ rfl hmk (.inl rfl) ?_
 simp only[go_sem,pT]
 refine ah rt (m4 5 rfl) [aY s] _ rfl hdd (.inl rfl) ?_
 simp only[go_sem]
 refine ah rt (m4 5 rfl) [aY s] _ rfl hdd (.inl rfl) ?_
 simp only[go_sem,hLn,hMn,eq_self,decide_true]
 refine ap (fun k:Nat=>⟨an 161 [(11,.ptr 2 0 0),(13,.ptr 3 0 0),(15,.dat (.sl none (aF L))),(18,.dat (.sl none (aF L))),(128,.dat (.int .i64 L.length)),(129,.dat (.int .i64 k))],[ab5 s,ab5 s,.box [.dat (.sl none (aF M))],.box [.dat (.sl none (aF M))]],0,[]⟩)
  (fun k=>k<=L.length) (fun k=>L.length - k) 0 (Nat.zero_le _) ?_ ?_
 ·exact a7 (by simp only[go_sem,Int.natCast_zero])
 ·intro k hk
  refine al [23,29] (Γ:=tbl Gu) xn _ _ _ ?_
  rcases Nat.lt_or_ge k L.length with hlt|hge
  ·have k1:(k:Int)<L.length:=by omega
   have k2:(0:Int)<=k:=by omega
   simp only[go_sem,k1,hLn,decide_true]
   refine BF [] [] (pf:=[]) (mf:=[]) mixed xn b0 fQ (il [0,1,2,3,4,5,6,7,8]) (by kernel_rfl) ?_
   have hnx:D.nth (aF L) k=.int .i64 (L.getD k 0:Nat):=D.nth_map hlt
   simp only[go_sem,k1,k2,hLn,hnx,Int.toNat_natCast,eq_self,decide_true]
   refine⟨ac.2 (by omega),k+1,by omega,by omega,?_⟩
   exact a7 (by simp only[go_sem,Int.natCast_add,Int.cast_ofNat_Int])
  ·obtain rfl:k=L.length:=by omega
   have k1:¬(L.length:Int)<L.length:=by omega
   simp only[go_sem,k1,hLn,hMn,decide_false]
   refine ap (fun k:Nat=>⟨an 161 [(11,.ptr 2 0 0),(13,.ptr 3 0 0),(144,.dat (.int .i64 M.length)),(145,.dat (.int .i64 k))],[ab5 s,ab5 s,.box [.dat (.sl none (aF M))],.box [.dat (.sl none (aF M))]],0,[]⟩)
    (fun k=>k<=M.length) (fun k=>M.length - k) 0 (Nat.zero_le _) ?_ ?_
   ·exact a7 (by simp only[go_sem,Int.natCast_zero])
   intro k hk
   refine al [23,29] (Γ:=tbl Gu) xn _ _ _ ?_
   rcases Nat.lt_or_ge k M.length with hlt|hge
   ·have k1:(k:Int)<M.length:=by omega
    have k2:(0:Int)<=k:=by omega
    simp only[go_sem,k1,hMn,decide_true]
    refine BF [] [] (pf:=[]) (mf:=[]) mixed xn b0 fQ (il [0,1,2,3,4,5,6,7,8,9,10]) (by kernel_rfl) ?_
    have hnx:D.nth (aF M) k=.int .i64 (M.getD k 0:Nat):=D.nth_map hlt
    simp only[go_sem,k1,k2,hMn,hnx,Int.toNat_natCast,eq_self,decide_true]
    refine⟨ac.2 (by omega),k+1,by omega,by omega,?_⟩
    exact a7 (by simp only[go_sem,Int.natCast_add,Int.cast_ofNat_Int])
   ·obtain rfl:k=M.length:=by omega
    have k1:¬(M.length:Int)<M.length:=by omega
    simp only[go_sem,k1,hMn,decide_false]
    refine oe ?_
    simp only[go_sem]
    exact am (.inl rfl) [2] rfl trivial rfl
end Go.AM

