/- Own work over the model of the kit. -/
import Derived.Test.YtmmbjdgmhdjbjaaGreatDoorD20
import Derived.Test.YtmmbjdgmhdjbjaaGreatDoorD13
set_option linter.unnecessarySimpa false
set_option linter.unusedSimpArgs false
set_option linter.unusedVariables false
set_option maxHeartbeats 4000000
set_option maxRecDepth 8000
namespace Go.AM
open Go Go.Proofs
def E6(ds:List D)(v:AV):Prop:=∃(l:List Bool) (x:Bool),ds=[.sl none (b6 l),.bool x]/\l.length<4611686018427387904/\v=.dat (.int .i64 (dF x 0 l))
theorem EM:OkF Tryz.prog 27 (au E6):=by
 refine az Tryz.func27 rfl (by decide) ?_
 rintro ds v ⟨l,x,rfl,hl,rfl⟩
 generalize hv:dF x 0 l=V
 refine a6 (Γ:=tbl []) ae _ _ _ ?_
 have fin:∀s own (b c:Int),b=c->s.getD 4 .top=.dat (.int .i64 b)->post Tryz.prog Tryz.f27 (.dat (.int .i64 c)) [] [] .ret ⟨s,own,0,[]⟩:=fun s own b c e h=>by
  subst e
  exact am (.inl rfl) [4] rfl trivial (by simp only[cM,h];rfl)
 simp only[go_sem,Tryz.ntmps27]
 refine ap (fun k:Nat=>⟨an 19 [(0,.dat (.sl none (b6 l))),(1,.dat (.bool x)),(4,.dat (.int .i64 0)),(7,.dat (.int .i64 l.length)),(8,.dat (.int .i64 k))],[],0,[]⟩)
  (fun k=>k<=l.length/\dF x k (l.drop k)=V) (fun k=>l.length - k) 0 ⟨Nat.zero_le _,hv⟩ ?_ ?_
 ·exact a7 (by simp only[go_sem,Int.natCast_zero])
 ·rintro k ⟨hk,hI⟩
  refine a6 (Γ:=tbl []) ae _ _ _ ?_
  cases hd:l.drop k with
  | nil =>
   have:=aj hd hk
   have hk2:¬(k:Int)<l.length:=by omega
   simp only[go_sem,hk2]
   refine fin _ _ _ _ ?_ rfl
   rw[← hI,hd];rfl
  | cons c q =>
   have hlt:=ao hd
   have hk2:(k:Int)<l.length:=by omega
   have hk0:(0:Int)<=k:=Int.natCast_nonneg k
   have hn:=ak (f:=.bool) hd
   rw[hd,dF]at hI
   by_cases he:x=c
   ·have hb:(x == c)=true:=by simp[he]
    simp only[go_sem,hk2,hk0,hn,hb]
    rw[if_pos he]at hI
    exact fin _ _ _ _ hI rfl
   ·have hb:(x == c)=false:=by simp[he]
    simp only[go_sem,hk2,hk0,hn,hb]
    rw[if_neg he]at hI
    refine⟨ac.2 (by omega),k+1,⟨by omega,by rw[aE hd];exact hI⟩,by omega,?_⟩
    exact a7 (by simp only[go_sem,Int.natCast_add,Int.cast_ofNat_Int])
def B8(ds:List D)(v:AV):Prop:=∃(l:List Nat) (x:Nat),ds=[lI l,.int .i64 x]/\l.length<=10000/\v=.dat (.bool (l.contains x))
abbrev Pv:List (Nat×a8):=[(78,au La)]
theorem Gj:OkG Tryz.prog (tbl Pv):=ai L5 ae
theorem L8{l:List Nat}{x:Nat}{i:Nat}:decide (0<=dF (x:Int) i (l.map Int.ofNat))=l.contains x:=by
 rw[Bool.eq_iff_iff,decide_eq_true_iff,mL]
 simp only[List.mem_map,List.contains_iff_mem]
 constructor
 ·rintro ⟨a,h1,h2⟩
  have:a=x:=by have h2':(a:Int)=x:=h2;omega
  exact this ▸ h1
 ·exact fun h=>⟨x,h,rfl⟩
theorem FQ:OkF Tryz.prog 58 (au B8):=by
 refine az Tryz.func58 rfl (by decide) ?_
 rintro ds v ⟨l,x,rfl,hl,rfl⟩
 refine a6 (Γ:=tbl Pv) Gj _ _ _ ?_
 simp only[go_sem,Tryz.ntmps58,lI]
 have e:aF l=(l.map Int.ofNat).map (.int .i64):=by simp[Na]
 refine ah La (by simp) [lI l,.int .i64 x] _ rfl ⟨l.map Int.ofNat,x,by rw[← e],by rw[List.length_map];omega,rfl⟩ (.inl rfl) ?_
 simp only[go_sem,L8]
 exact am (.inl rfl) [4] rfl trivial rfl
abbrev eZ(M:List (List Nat)):List (List D):=M.map aF
theorem lz{M:List (List Nat)}:(eZ M).length=M.length:=by simp
theorem Dd{M:List (List Nat)}:(eZ M).map (D.sl none)=bg M:=by simp[List.map_map,Function.comp_def]
theorem w6{M:List (List Nat)}{i:Nat}:(eZ M).getD i []=aF (M.getD i []):=by
 simp only[List.getD_eq_getElem?_getD,List.getElem?_map];cases M[i]? <;> rfl
theorem zp{M:List (List Nat)}{i:Nat}{r:List Nat}:(eZ M).set i (aF r)=eZ (M.set i r):=by simp[List.map_set]
theorem oD{M:List (List Nat)}{i:Nat}(h:i<M.length):D.nth (bg M) i=lI (M.getD i []):=D.nth_map h
def Hg(aa:List AV)(obs:List Obj)(v:AV)(obs' ex:List Obj)(mv:List Nat):Prop:=∃(g:Gr) (ab nx:List (List Nat)) (w:Nat) (B:Nat->Bool),aa=[.rptr (some 5) (grD g ab nx),.dat (.int .i64 w)]/\FrOk g.st.length ab nx/\w<1000/\(∀i,i<g.st.length->(B i=true↔Fre ab nx w i)) /\
 obs=[]/\obs'=[]/\ex=[]/\mv=[]/\v=.dat (.sl none (b6 (kV g.st.length B)))
abbrev sI:List (Nat×a8):=[(58,au B8)]
theorem fD:OkG Tryz.prog (tbl sI):=ai FQ ae
theorem JH:OkF Tryz.prog 28 (cr Hg):=by
 refine c9 Tryz.func28 rfl (by decide) ?_
 rintro aa obs v0 obs' ex mv0 ⟨g,ab,nx,w,B,rfl,hF,hw,hB,rfl,rfl,rfl,rfl,rfl⟩
 generalize hn:g.st.length=n at *
 have hn4:=hF.n4
 have hla:=hF.la
 have hln:=hF.ln
 refine al [4] (Γ:=tbl sI) fD _ _ _ ?_
 simp only[go_sem,Tryz.ntmps28,grD,iO,hn]
 refine⟨Int.le_refl _,by omega,Int.le_refl _,by omega,?_⟩
 rw[Gf]
 refine av (cQ 7 none rfl (Nat.zero_le _)) ?_
 refine av (yM 0 none n rfl (Nat.zero_le _)) ?_
 have dG:∀(x y z:Obj) (M:List AV),(([x,y]++[z]).set 0 (Obj.vec (fv ([x,y]++[z]).length (List.replicate n []))))++dT none (List.replicate n [])=.vec (fv 3 (List.replicate n [])) :: y :: z :: dT none (List.replicate n []):=fun _ _ _ _=>rfl
 rw[dG _ _ _ []]
 refine a6 (Γ:=tbl sI) fD _ _ _ ?_
 simp only[go_sem,gr,hln]
 generalize hGD:D.agg [D.sl (some 1) (vw g.st),D.sl none (bg ab),D.sl none (bg nx),D.sl none (aA g.frm),D.sl none (aA g.who)]=GD
 refine ap (fun p:Nat×List (List Nat)×(Nat->Bool)×List Nat=>⟨an 100 [(0,.rptr (some 5) GD),(1,.dat (.int .i64 w)),(5,.sl 0 0 n),(6,.sl 1 0 n),(7,.sl 2 0 p.2.2.2.length),(29,.dat (.sl none (bg nx))),(30,.dat (.int .i64 n)),(31,.dat (.int .i64 p.1))],
   .vec (fv 3 (eZ p.2.1)) :: .row none (b6 (kV n p.2.2.1)) :: .row none (aF p.2.2.2) :: dT none (eZ p.2.1),0,[]⟩)
  (fun p=>p.1<=n/\BefOk n nx p.1 [] p.2.1/\Fst n p.1 ab w p.2.2.1 p.2.2.2) (fun p=>n - p.1) (0,List.replicate n [],fun _=>false,[]) ⟨Nat.zero_le _,aaO,aaN⟩ ?_ ?_
 ·simp only[eZ,List.map_replicate,aF,List.map_nil,List.length_nil]
  exact a7 (by simp only[go_sem,Int.natCast_zero])
 rintro ⟨k,M,B1,q⟩ ⟨hk,hM,hB1⟩
 simp only at hk hM hB1 ⊢
 rcases Nat.lt_or_ge k n with hlt|hge
 case inr =>
  obtain rfl:k=n:=by omega
  have hk2:¬(k:Int)<k:=by omega
  have hMn:(bg M).length=k:=by rw[gr,hM.len]
  have hMt:List.take k (bg M)=bg M:=List.take_of_length_le (by rw[hMn];exact Nat.le_refl _)
  have hS:=hB1.fin hla (nx:=nx)
  have Ao:=hB1.cnt
  have hMk:=hM
  have hS0:=hS
  have S2:=Ao
  refine av (uT (pre:=[.vec (fv 3 (eZ M)),.row none (b6 (kV k B1)),.row none (aF q)]) (s':=an 100 [(0,.rptr (some 5) GD),(1,.dat (.int .i64 w)),(5,.dat (.sl none (bg M))),(6,.sl 1 0 k),(7,.sl 2 0 q.length),(30,.dat (.int .i64 k)),(31,.dat (.int .i64 k))]) (pre':=[.dead,.row none (b6 (kV k B1)),.row none (aF q)]) 0 rfl (Nat.zero_le _) rfl ?_ ?_ ?_) ?_
  ·rw[Dd]
   have f1:∀x:AV,x=.rptr (some 5) GD->vu none 3 (eZ M) x=.rptr (some 5) GD:=fun x hx=>by subst hx;exact dZ none _ _ _ (fun _ _ _ _=>rfl)
   simp only[go_sem,i6,n5,x9,t8,E4,f1,AV.frzs,AV.frz,Nat.lt_irrefl,Nat.zero_lt_succ,true_or,List.drop_zero,hMn,hMt,Nat.zero_add,Nat.le_refl,if_true,List.length_cons,List.length_nil,Nat.reduceAdd,Nat.reduceLT]
  ·simp only[go_sem]
  ·simp only[go_sem,Obj.allUnder,Obj.under]
  clear hM hB1 Ao hS hk
  have hM:BefOk k nx k [] M:=hMk
  have hS:Snd k ab nx w B1 q none []:=hS0
  have Ao:2*Ae k B1+q.length<=2*k:=S2
  refine a6 (Γ:=tbl sI) fD _ _ _ ?_
  simp only[go_sem,hk2]
  refine ap (fun p:List Nat×List Nat×(Nat->Bool)=>⟨an 100 [(5,.dat (.sl none (bg M))),(6,.sl 1 0 k),(7,.sl 2 p.1.length p.2.1.length)],[.dead,.row none (b6 (kV k p.2.2)),.row none (aF (p.1++p.2.1))],0,[]⟩)
   (fun p=>Snd k ab nx w p.2.2 p.2.1 none []/\2*Ae k p.2.2+p.2.1.length<=2*k/\p.1.length+p.2.1.length<=100000) (fun p=>2*Ae k p.2.2+p.2.1.length) ([],q,B1) ⟨hS,Ao,by simp only[List.length_nil];omega⟩ ?_ ?_
  ·exact a7 (by simp only[go_sem])
  clear hS Ao hS0 S2 hMk
  rintro ⟨pre,qq,B2⟩ ⟨hS,Ao,hlen⟩
  simp only at hS Ao hlen ⊢
  cases qq with
  | nil =>
   have S3:kV k B2=kV k B:=A6 fun j hj=>by
    rw[Bool.eq_iff_iff,hS.done j,hB j hj]
   rw[S3]
   refine av (aq 1 (ag:=none) rfl (Nat.zero_le _)) ?_
   refine a6 (Γ:=tbl sI) fD _ _ _ ?_
   have h1:List.take k (b6 (kV k B))=b6 (kV k B):=List.take_of_length_le (by simp)
   have h0:¬(0:Int)<0:=by omega
   simp only[go_sem,h0,h1,kc,kh,Nat.le_refl,List.drop_zero,List.length_nil,Int.natCast_zero]
   exact am (.inl rfl) [4] rfl trivial rfl
  | cons v r =>
  have hv:=(hS.snd v (hS.qm v (by simp))).1
  have hv2:(v:Int)<k:=by omega
  have hv0:(0:Int)<=v:=Int.natCast_nonneg v
  have hp1:(0:Int)<((r.length+1:Nat):Int):=by omega
  have hp2:0<r.length+1:=by omega
  have hp3:pre.length<(aF (pre++v :: r)).length:=by simp
  have hqn:D.nth (aF (pre++v :: r)) pre.length=.int .i64 v:=by simp[D.nth,Na]
  have hMv:D.nth (bg M) v=lI (M.getD v []):=oD (by rw[hM.len];exact hv)
  have hlb:=hM.bnd v
  simp only[List.length_nil,Nat.add_zero]at hlb
  have hlm:=hM.mem v
  generalize M.getD v []=l at *
  refine a6 (Γ:=tbl sI) fD _ _ _ ?_
  simp only[go_sem,hp1,hp2,hqn,hv2,hv0,hMn,hMv,lI,ba]
  refine⟨by omega,?_⟩
  refine ap (fun p:Nat×List Nat×List Nat×(Nat->Bool)=>⟨an 100 [(5,.dat (.sl none (bg M))),(6,.sl 1 0 k),(7,.sl 2 p.2.1.length (p.2.2.1.length+1)),(80,.dat (.sl none (aF l))),(81,.dat (.int .i64 l.length)),(82,.dat (.int .i64 p.1))],[.dead,.row none (b6 (kV k p.2.2.2)),.row none (aF (p.2.1++v :: p.2.2.1))],0,[]⟩)
   (fun p=>p.1<=l.length/\Snd k ab nx w p.2.2.2 p.2.2.1 (some v) (l.take p.1)/\2*Ae k p.2.2.2+(p.2.2.1.length+1)<=2*Ae k B2+(r.length+1)/\p.2.1.length+(p.2.2.1.length+1)<=100000) (fun p=>l.length - p.1) (0,pre,r,B2) ⟨Nat.zero_le _,by simpa using hS.start,by simp only;omega,by simp only[List.length_cons]at hlen ⊢;omega⟩ ?_ ?_
  ·exact a7 (by simp only[go_sem,Int.natCast_zero])
  rintro ⟨j,pre2,r2,B3⟩ ⟨hj,hS3,hcnt3,FE⟩
  simp only at hj hS3 hcnt3 FE ⊢
  simp only[List.length_cons]at Ao hlen
  refine a6 (Γ:=tbl sI) fD _ _ _ ?_
  cases hd:l.drop j with
  | nil =>
   obtain rfl:j=l.length:=aj hd hj
   have hj2:¬(l.length:Int)<l.length:=by omega
   rw[List.take_length]at hS3
   have hs1:(1:Int)<=((r2.length+1:Nat):Int):=by omega
   have hs2:(((r2.length+1:Nat):Int) - 1).toNat=r2.length:=by omega
   simp only[go_sem,hj2,hs1,hs2,Int.le_refl]
   have hst:=hS3.stop fun i hi=>(hlm i hv).2 (.inl ⟨by
    rcases Nat.lt_or_ge i k with h1|h1
    ·exact h1
    ·rw[List.getD_eq_getElem?_getD,List.getElem?_eq_none (by omega)]at hi
     simp at hi,hi⟩)
   refine⟨(pre2++[v],r2,B3),⟨hst,by simp only;omega,by simp only[List.length_append,List.length_cons,List.length_nil];omega⟩,by simp only[List.length_cons];omega,?_⟩
   simp only[List.append_assoc,List.cons_append,List.nil_append,List.length_append,List.length_cons,List.length_nil]
   exact a7 (by simp only[go_sem])
  | cons i r3 =>
  have Jv:=ao hd
  have hj2:(j:Int)<l.length:=by omega
  have hj0:(0:Int)<=j:=Int.natCast_nonneg j
  have hin:D.nth (aF l) j=.int .i64 i:=ak hd
  have hi:=(hlm i hv).1 (aN hd)
  simp only[List.not_mem_nil,and_false,or_false]at hi
  obtain⟨hik,hiv⟩:=hi
  have hi2:(i:Int)<k:=by omega
  have hi0:(0:Int)<=i:=Int.natCast_nonneg i
  have hbn:D.nth (b6 (kV k B3)) i=.bool (B3 i):=Gm hik
  cases hb:B3 i with
  | true =>
   rw[hb]at hbn
   have hS4:=hS3.old hb
   rw[← aC hd]at hS4
   simp only[go_sem,hj2,hj0,Jv,hin,ba,hik,hi2,hi0,hbn,kc,kh]
   refine⟨ac.2 (by omega),(j+1,pre2,r2,B3),⟨Jv,hS4,hcnt3,FE⟩,by simp only;omega,?_⟩
   exact a7 (by simp only[go_sem,Int.natCast_add,Int.cast_ofNat_Int])
  | false =>
   rw[hb]at hbn
   have hS4:=hS3.new hiv hik
   rw[← aC hd]at hS4
   have dB:=xT (B:=B3) hik
   have hcu:=ss hik hb
   have hdt:List.take (r2.length+1) (List.drop pre2.length (aF (pre2++v :: r2)))=aF (v :: r2):=by
    rw[aF,List.map_append,List.drop_left' (by simp)]
    exact List.take_of_length_le (by simp)
   have abu:(aF (pre2++v :: r2)).length=pre2.length+(r2.length+1):=by simp
   simp only[go_sem,hj2,hj0,Jv,hin,ba,hik,hi2,hi0,hbn,kc,kh,dB,hdt,abu,Nat.le_refl]
   refine⟨by omega,by omega,ac.2 (by omega),(j+1,[],r2++[i],rc B3 i),⟨Jv,hS4,by simp only[List.length_append,List.length_cons,List.length_nil];omega,by simp only[List.length_append,List.length_cons,List.length_nil];omega⟩,by simp only;omega,?_⟩
   have hqa:aF ([]++v :: (r2++[i]))=Na v :: (List.map Na r2++[D.int .i64 i]):=by simp
   simp only[hqa,List.length_append,List.length_cons,List.length_nil]
   refine aP (own:=[_,_,_]) (ex:=[_]) (Nat.zero_le _) ?_ ?_ ?_
   ·simp only[go_sem,Int.natCast_add,Int.cast_ofNat_Int]
   ·simp only[go_sem]
   ·simp only[go_sem,Obj.allUnder,Obj.under,AV.unders,AV.under]
 have hk2:(k:Int)<n:=by omega
 have hk0:(0:Int)<=k:=Int.natCast_nonneg k
 obtain⟨hl24,hlw⟩:=hF.rn (nx.getD k []) (by rw[List.getD_eq_getElem?_getD,List.getElem?_eq_getElem (by omega)];exact List.getElem_mem _)
 have abv:D.nth (bg nx) k=lI (nx.getD k []):=oD (by omega)
 generalize hl:nx.getD k []=l at *
 refine a6 (Γ:=tbl sI) fD _ _ _ ?_
 simp only[go_sem,hk2,hk0,hlt,abv,lI,gr,ba,hln]
 refine ap (fun p:Nat×List (List Nat)=>⟨an 100 [(0,.rptr (some 5) GD),(1,.dat (.int .i64 w)),(5,.sl 0 0 n),(6,.sl 1 0 n),(7,.sl 2 0 q.length),(8,.dat (.int .i64 k)),(29,.dat (.sl none (bg nx))),(30,.dat (.int .i64 n)),(31,.dat (.int .i64 k)),(36,.dat (.sl none (aF l))),(37,.dat (.int .i64 l.length)),(38,.dat (.int .i64 p.1))],
   .vec (fv 3 (eZ p.2)) :: .row none (b6 (kV n B1)) :: .row none (aF q) :: dT none (eZ p.2),0,[]⟩)
  (fun p=>p.1<=l.length/\BefOk n nx k (l.take p.1) p.2) (fun p=>l.length - p.1) (0,M) ⟨Nat.zero_le _,by rw[List.take_zero];exact hM⟩ ?_ ?_
 ·exact a7 (by simp only[go_sem,Int.natCast_zero])
 clear hM
 rintro ⟨j,M⟩ ⟨hj,hM⟩
 simp only at hj hM ⊢
 refine a6 (Γ:=tbl sI) fD _ _ _ ?_
 cases hd:l.drop j with
 | nil =>
  obtain rfl:j=l.length:=aj hd hj
  have hj2:¬(l.length:Int)<l.length:=by omega
  rw[List.take_length]at hM
  have abw:D.nth (bg ab) k=lI (ab.getD k []):=oD (by omega)
  have acv:(ab.getD k []).length<=24:=hF.ra _ (by rw[List.getD_eq_getElem?_getD,List.getElem?_eq_getElem (by omega)];exact List.getElem_mem _)
  simp only[go_sem,hj2,abw,hk2,hk0,hlt,gr,hla,← hGD]
  refine ah B8 (by simp) [lI (ab.getD k []),.int .i64 w] _ rfl ⟨_,w,rfl,by omega,rfl⟩ (.inl rfl) ?_
  cases hc:(ab.getD k []).contains w with
  | true =>
   have jk:w∈ab.getD k []:=by simpa using hc
   have acw:B1 k=false:=by
    cases hb:B1 k with
    | false=>rfl
    | true=>have:=((hB1.b k).1 hb).1;omega
   have hq1:=hB1.cnt
   have dB:=xT (B:=B1) hlt
   have hqt:List.take q.length (aF q)=aF q:=cF
   have hqa:aF (q++[k])=aF q++[D.int .i64 k]:=by simp
   have hkR:=kZ 3 (eZ M) 2 (.inl (by omega))
   simp only[go_sem,hk2,hk0,hlt,kc,kh,dB,hqt,ba,Nat.le_refl,hkR,km,lJ,Fx,JM]
   refine⟨by omega,by omega,ac.2 (by omega),(k+1,M,rc B1 k,q++[k]),⟨hlt,hM.next hl hl24,hB1.yes hlt jk⟩,by simp only;omega,?_⟩
   simp only[hqa,List.length_append,List.length_cons,List.length_nil]
   refine wT (pre:=[_,_,_]) (Nat.zero_le _) ?_ ?_ ?_
   ·simp only[go_sem,Int.natCast_add,Int.cast_ofNat_Int]
   ·simp only[go_sem]
   ·refine⟨j5 _ _ _ (by simp only[List.length_cons,List.length_nil];omega),trivial,trivial,trivial⟩
  | false =>
   have jk:¬w∈ab.getD k []:=by simpa using hc
   simp only[go_sem]
   refine⟨ac.2 (by omega),(k+1,M,B1,q),⟨hlt,hM.next hl hl24,hB1.no jk⟩,by simp only;omega,?_⟩
   exact a7 (by simp only[go_sem,Int.natCast_add,Int.cast_ofNat_Int])
 | cons v r =>
 have Jv:=ao hd
 have hj2:(j:Int)<l.length:=by omega
 have hj0:(0:Int)<=j:=Int.natCast_nonneg j
 have hvn:D.nth (aF l) j=.int .i64 v:=ak hd
 have hv:=hlw v (aN hd)
 have hv2:(v:Int)<n:=by omega
 have hv0:(0:Int)<=v:=Int.natCast_nonneg v
 have hMl:v<(eZ M).length:=by rw[lz,hM.len];exact hv
 have dj:=w6 (M:=M) (i:=v)
 have hR:=Bq (b:=3) hMl
 rw[dj]at hR
 have hO:=uF (ag:=none) hMl
 rw[dj]at hO
 have hK:=r9 (b:=3) hMl
 have hS:=fun l'=>uV (ag:=none) (l:=l') hMl
 have hFl:=cC 3 (eZ M)
 rw[lz,hM.len]at hFl
 have hne:¬(dT none (eZ M)).length=v:=by rw[ou,lz,hM.len];omega
 have YI:¬0=v+3:=by omega
 have YJ:¬1=v+3:=by omega
 have abx:¬2=v+3:=by omega
 have acx:=hM.bnd v
 have hMp:=hM.push hv
 rw[← aC hd]at hMp
 have aat:(l.take j).length<=24:=by rw[List.length_take];omega
 simp only[go_sem,hj2,hj0,Jv,hvn,ba,hv,hv2,hv0,hR,hFl,hO,hK,hS,hne,YI,YJ,abx,Fx,PW,Kw,JM,tu hMl,up hMl,dj,km,lJ,List.append_assoc,List.cons_append,List.nil_append,List.set_set,cF,if_false]
 refine⟨by omega,by omega,ac.2 (by omega),(j+1,M.set v (M.getD v []++[k])),⟨by simp only;omega,hMp⟩,by simp only;omega,?_⟩
 have hnk:aF (M.getD v [])++[D.int .i64 k]=aF (M.getD v []++[k]):=by simp
 rw[hnk,uC (l:=aF (M.getD v []++[k])) (by simp),zp]
 refine wT (pre:=[_,_,_]) (Nat.zero_le _) ?_ ?_ ?_
 ·simp only[go_sem,Int.natCast_add,Int.cast_ofNat_Int]
 ·simp only[go_sem]
 ·refine⟨j5 _ _ _ (by simp only[List.length_cons,List.length_nil];omega),trivial,trivial,trivial⟩
def wV(l:List Int)(k p:Nat):Int:=if p<k∨l.length<=p+k then l.getD (l.length - 1 - p) 0 else l.getD p 0
theorem Kv(l:List Int):dE l.length (fun p=>l.getD p 0)=l:=by
 refine List.ext_getElem (by simp) fun i h1 h2=>?_
 simp[List.getD_eq_getElem?_getD,h2]
theorem Ou(l:List Int):dE l.length (wV l 0)=l:=by
 refine(cj fun p hp=>?_).trans (Kv l)
 unfold wV;rw[if_neg (by omega)]
theorem EQ(l:List Int){k:Nat}(h:l.length<=2*k+1):dE l.length (wV l k)=l.reverse:=by
 refine List.ext_getElem (by simp) fun i h1 h2=>?_
 simp only[List.length_reverse]at h2
 simp only[List.getElem_map,List.getElem_range,List.getElem_reverse,wV]
 split
 ·rw[List.getD_eq_getElem?_getD,List.getElem?_eq_getElem (by omega)];rfl
 ·rw[List.getD_eq_getElem?_getD,List.getElem?_eq_getElem (by omega),Option.getD_some]
  congr 1;omega
def Un(aa:List AV)(obs:List Obj)(v:AV)(obs' ex:List Obj)(mv:List Nat):Prop:=∃l:List Int,aa=[.sl 0 0 l.length]/\obs=[.row none (aA l)]/\l.length<=100000/\obs'=[.row none (aA l.reverse)]/\ex=[]/\mv=[]/\v=.tup []
theorem zH:OkF Tryz.prog 29 (cr Un):=by
 refine c9 Tryz.func29 rfl (by decide) ?_
 rintro aa obs v0 obs' ex mv0 ⟨l,rfl,rfl,hl,rfl,rfl,rfl,rfl⟩
 refine a6 (Γ:=tbl []) ae _ _ _ ?_
 simp only[go_sem,Tryz.ntmps29]
 refine⟨ac.2 (by omega),?_⟩
 refine ap (fun k:Nat=>⟨an 28 [(0,.sl 0 0 l.length),(2,.dat (.int .i64 k)),(3,.dat (.int .i64 ((l.length:Int) - 1 - k)))],[.row none (aA (dE l.length (wV l k)))],1,[]⟩)
  (fun k=>k<=l.length) (fun k=>l.length - k) 0 (Nat.zero_le _) ?_ ?_
 ·rw[Ou]
  exact a7 (by simp only[go_sem,Int.natCast_zero,Int.sub_zero])
 rintro k hk
 refine a6 (Γ:=tbl []) ae _ _ _ ?_
 by_cases hlt:(k:Int)<(l.length:Int) - 1 - k
 case neg =>
  simp only[go_sem,hlt]
  rw[EQ l (by omega)]
  refine aH (.inr rfl) [] rfl (fun _ h=>h) ?_
  simp only[go_sem]
  exact Le.refl _
 have hk0:(0:Int)<=k:=Int.natCast_nonneg k
 have hk1:k<l.length:=by omega
 have aby:(k:Int)<l.length:=by omega
 obtain⟨j,hj⟩:∃j:Nat,(l.length:Int) - 1 - k=j:=⟨l.length - 1 - k,by omega⟩
 have hj0:(0:Int)<=j:=Int.natCast_nonneg j
 have hj1:j<l.length:=by omega
 have abz:(j:Int)<l.length:=by omega
 rw[hj]at hlt ⊢
 have hgk:D.nth (aA (dE l.length (wV l k))) k=.int .i64 (l.getD k 0):=by
  rw[eg hk1,wV,if_neg (by omega)]
 have hgj:D.nth (aA (dE l.length (wV l k))) j=.int .i64 (l.getD j 0):=by
  rw[eg hj1,wV,if_neg (by omega)]
 have hs1:((aA (dE l.length (wV l k))).set k (.int .i64 (l.getD j 0))).set j (.int .i64 (l.getD k 0))=aA (dE l.length (wV l (k+1))):=by
  rw[hZ (g':=fun p=>if p=k then l.getD j 0 else wV l k p) hk1 (by simp) (fun i _ hne=>by simp[hne])]
  refine hZ hj1 ?_ ?_
  ·unfold wV;rw[if_pos (by omega)]
   congr 1;omega
  ·intro i hi hne
   by_cases e:i=k
   ·subst e
    rw[if_pos rfl,wV,if_pos (by omega)]
    congr 1;omega
   ·rw[if_neg e]
    unfold wV
    by_cases h1:i<k∨l.length<=i+k
    ·rw[if_pos (by omega),if_pos h1]
    ·rw[if_neg (by omega),if_neg h1]
 simp only[go_sem,hlt]
 refine kL [(13,[0]),(15,[0])] [] (pf:=[]) (mf:=[]) mixed ae b0 fQ (il [0,1,2,3,4,5,6,7,8,9,10,11,12,13,14,15]) (by kernel_rfl) ?_
 simp only[go_sem,hk0,hk1,aby,hj0,hj1,abz,hgk,hgj,hs1,bV,gQ]
 refine⟨ac.2 (by omega),ac.2 (by omega),k+1,by omega,by omega,?_⟩
 rw[show (j:Int) - 1=(l.length:Int) - 1 - (k+1:Nat) by omega]
 exact a7 (by simp only[go_sem,Int.natCast_add,Int.cast_ofNat_Int])
theorem E3{s:PSys}{x:PSt}(hV:Valid s x){g:Gr}{ab nx:List (List Nat)}(h:ib s x=some (g,ab,nx)):FrOk g.st.length ab nx:=by
 obtain⟨hG,hcl,hab,hnx⟩:=nA hV h
 have h24:∀z∈g.st,(ik s z).length<=24:=fun z hz=>by
  have h1:=sy s z z.length
  have h2:=(hG.ok.val z hz).l24
  unfold ik;omega
 refine⟨hG.ok.le,by rw[hab,List.length_map],by rw[hnx,List.length_map],fun l hl=>?_,fun l hl=>?_⟩
 ·rw[hab]at hl
  obtain⟨z,hz,rfl⟩:=List.mem_map.1 hl
  exact h24 z hz
 ·rw[hnx]at hl
  obtain⟨z,hz,rfl⟩:=List.mem_map.1 hl
  refine⟨by unfold uI;rw[List.length_map];exact h24 z hz,fun v hv=>?_⟩
  unfold uI at hv
  obtain⟨w,hw,rfl⟩:=List.mem_map.1 hv
  obtain⟨i,hi⟩:=ta (hcl z hz w hw)
  rw[hi,Option.getD_some]
  exact(Br hi).1
def dN(n:Nat)(B:Nat->Nat->Bool):Nat->Int×Nat
 | 0=>(n,0)
 | m+1=>if 0<=dF false 0 (kV n (B m))/\dF false 0 (kV n (B m))<(dN n B m).1 then (dF false 0 (kV n (B m)),m) else dN n B m
theorem sJ(n:Nat)(B:Nat->Nat->Bool):∀m,0<=(dN n B m).1/\(dN n B m).1<=n
 | 0=>⟨Int.natCast_nonneg n,Int.le_refl _⟩
 | m+1=>by
  have ih:=sJ n B m
  unfold dN
  split
  ·rename_i h;exact⟨h.1,by simp only;omega⟩
  ·exact ih
def dx(g:Gr):Nat->Nat->List Int
 | 0,_=>[]
 | f+1,i=>if i=0 then [] else g.who.getD i 0 :: dx g f (g.frm.getD i 0).toNat
theorem lC(g:Gr):∀f i,(dx g f i).length<=f
 | 0,_=>Nat.le_refl _
 | f+1,i=>by
  unfold dx
  split
  ·exact Nat.zero_le _
  ·rw[List.length_cons];have:=lC g f (g.frm.getD i 0).toNat;omega
def lq(s:PSys)(B:Nat->Nat->Bool):List Int×Int×Int:=if aT s≠0 then ([],0,aT s) else match ib s (mF s) with
 | none=>([],0,9)
 | some (g,_,_)=>if (dN g.st.length B (mF s).length).1=g.st.length then ([],0,6) else ((dx g 5000 (dN g.st.length B (mF s).length).1.toNat).reverse,(dN g.st.length B (mF s).length).2,0)
def QB(s:PSys)(x:PSt)(B:Nat->Nat->Bool):Prop:=∀g ab nx,ib s x=some (g,ab,nx)->∀w i,i<g.st.length->(B w i=true↔Fre ab nx w i)
def rt(ds:List D)(v:AV):Prop:=∃(s:PSys) (B:Nat->Nat->Bool),ds=[aY s]/\s.fit/\QB s (mF s) B/\v=.tup [.dat (.sl none (aA (lq s B).1)),.dat (.int .i64 (lq s B).2.1),.dat (.int .i64 (lq s B).2.2)]
abbrev Cz:List (Nat×a8):=[(25,au vH),(26,au Cc),(28,cr Hg),(27,au E6),(29,cr Un)]
theorem mX:OkG Tryz.prog (tbl Cz):=ai BW (ai Df (ai JH (ai EM (ai zH ae))))
theorem mj:OkF Tryz.prog 9 (au rt):=by
 refine az Tryz.func9 rfl (by decide) ?_
 rintro ds v ⟨s,B,rfl,hf,hB,rfl⟩
 generalize hv:lq s B=V
 unfold lq at hv
 refine a6 (Γ:=tbl Cz) mX _ _ _ ?_
 simp only[go_sem,Tryz.ntmps9,aY]
 refine ah vH (by simp) [aY s] _ rfl ⟨s,rfl,hf,rfl⟩ (.inl rfl) ?_
 by_cases he:aT s=0
 case neg =>
  rw[if_pos he]at hv
  subst hv
  simp only[go_sem,he,stD]
  refine aZ (.inl rfl) [.tmp 2,.tmp 3,.tmp 4] rfl ?_
  simp only[go_sem,List.map_nil]
  exact bp (by simp only[go_sem]) (by simp only[go_sem])
 have hV:=lN he
 rw[if_neg (by rw[he];decide)]at hv
 rw[if_pos he,he]
 generalize mF s=x at *
 have aao:=hV.l24
 have sS:(aG x).length=x.length:=by simp
 simp only[go_sem,stD]
 refine ah Cc (by simp) [aY s,stD x] _ rfl ⟨s,x,rfl,hV,rfl⟩ (.inl rfl) ?_
 cases hr:ib s x with
 | none =>
  rw[hr]at hv
  subst hv
  simp only[qt,hr]
  simp only[go_sem]
  refine aZ (.inl rfl) [.tmp 2,.tmp 3,.tmp 4] rfl ?_
  simp only[go_sem,List.map_nil]
  exact bp (by simp only[go_sem]) (by simp only[go_sem])
 | some r =>
 obtain⟨g,ab,nx⟩:=r
 rw[hr]at hv
 simp only at hv
 have hF:=E3 hV hr
 have hG:=(nA hV hr).1
 have hB:=hB g ab nx hr
 have hn4:=hF.n4
 simp only[qt,hr,grD]
 simp only[go_sem,iO,sS]
 generalize hGD:D.agg [D.sl (some 1) (vw g.st),D.sl none (bg ab),D.sl none (bg nx),D.sl none (aA g.frm),D.sl none (aA g.who)]=GD
 refine ap (fun k:Nat=>⟨an 87 [(7,.rptr (some 5) GD),(9,.dat (.int .i64 (dN g.st.length B k).1)),(10,.dat (.int .i64 (dN g.st.length B k).2)),(38,.dat (.int .i64 x.length)),(39,.dat (.int .i64 k))],[jO s,stO x],0,[]⟩)
  (fun k=>k<=x.length) (fun k=>x.length - k) 0 (Nat.zero_le _) ?_ ?_
 ·exact a7 (by simp only[go_sem,Int.natCast_zero,dN])
 rintro k hk
 refine a6 (Γ:=tbl Cz) mX _ _ _ ?_
 rcases Nat.lt_or_ge k x.length with hlt|hge
 ·have hk2:(k:Int)<x.length:=by omega
  have hbl:=sJ g.st.length B k
  simp only[go_sem,hk2]
  have hfr:Hg [.rptr (some 5) GD,.dat (.int .i64 k)] [] (.dat (.sl none (b6 (kV g.st.length (B k))))) [] [] []:=⟨g,ab,nx,k,B k,by rw[← hGD];rfl,hF,by omega,fun i hi=>hB k i hi,rfl,rfl,rfl,rfl,rfl⟩
  refine bC Hg (by simp) [] hfr List.nodup_nil (by simp) rfl rfl rfl (by simp only[AV.unders,AV.under,and_self]) (by simp) (by simp) ?_
  simp only[go_sem]
  refine ah E6 (by simp) [.sl none (b6 (kV g.st.length (B k))),.bool false] _ rfl ⟨_,false,rfl,by rw[kh];omega,rfl⟩ (.inl rfl) ?_
  generalize hat:dF false 0 (kV g.st.length (B k))=a
  by_cases h1:0<=a
  ·by_cases h2:a<(dN g.st.length B k).1
   ·have hb:dN g.st.length B (k+1)=(a,k):=by rw[dN,hat,if_pos ⟨h1,h2⟩]
    simp only[go_sem,h1,h2]
    refine⟨ac.2 (by omega),k+1,by omega,by omega,?_⟩
    rw[hb]
    exact a7 (by simp only[go_sem,Int.natCast_add,Int.cast_ofNat_Int])
   ·have hb:dN g.st.length B (k+1)=dN g.st.length B k:=by rw[dN,hat,if_neg (by omega)]
    simp only[go_sem,h1,h2]
    refine⟨ac.2 (by omega),k+1,by omega,by omega,?_⟩
    rw[hb]
    exact a7 (by simp only[go_sem,Int.natCast_add,Int.cast_ofNat_Int])
  ·have hb:dN g.st.length B (k+1)=dN g.st.length B k:=by rw[dN,hat,if_neg (by omega)]
   simp only[go_sem,h1]
   refine⟨ac.2 (by omega),k+1,by omega,by omega,?_⟩
   rw[hb]
   exact a7 (by simp only[go_sem,Int.natCast_add,Int.cast_ofNat_Int])
 obtain rfl:k=x.length:=by omega
 have hk2:¬(x.length:Int)<x.length:=by omega
 have hbl:=sJ g.st.length B x.length
 generalize dN g.st.length B x.length=b at *
 obtain⟨b,who⟩:=b
 simp only at hv hbl
 by_cases hbn:b=g.st.length
 ·rw[if_pos hbn]at hv
  subst hv
  subst hbn
  simp only[go_sem,hk2,← hGD,iO]
  refine aZ (.inl rfl) [.tmp 2,.tmp 3,.tmp 4] rfl ?_
  simp only[go_sem,List.map_nil]
  exact bp (by simp only[go_sem]) (by simp only[go_sem])
 rw[if_neg hbn]at hv
 simp only[go_sem,hk2,← hGD,iO,hbn]
 obtain⟨b,rfl⟩:∃q:Nat,b=q:=⟨b.toNat,by omega⟩
 rw[Int.toNat_natCast]at hv
 have hg1:=hG.ok.l1
 have hg2:=hG.ok.l2
 refine av (cQ 13 none rfl (Nat.zero_le _)) ?_
 rw[hGD]
 simp only[go_sem]
 refine ap (fun p:List Int×Nat×Nat=>⟨an 87 [(7,.rptr (some 5) GD),(10,.dat (.int .i64 who)),(13,.sl 2 0 p.1.length),(14,.dat (.int .i64 p.2.1))],[jO s,stO x,.row none (aA p.1)],0,[]⟩)
  (fun p=>p.2.1<g.st.length/\p.1++dx g p.2.2 p.2.1=dx g 5000 b/\p.2.1<p.2.2/\p.1.length+p.2.2<=5000) (fun p=>p.2.1) ([],b,5000) ⟨by simp only;omega,rfl,by simp only;omega,by simp only[List.length_nil];omega⟩ ?_ ?_
 ·exact a7 (by simp only[go_sem])
 rintro ⟨l,i,f⟩ ⟨hi,hch,hif,hlf⟩
 simp only at hi hch hif hlf ⊢
 obtain⟨f,rfl⟩:∃f',f=f'+1:=⟨f - 1,by omega⟩
 rw[dx]at hch
 by_cases h0:i=0
 ·subst h0
  rw[if_pos rfl,List.append_nil]at hch
  subst hch
  subst hv
  have hz:¬(0:Int)<0:=by omega
  refine a6 (Γ:=tbl Cz) mX _ _ _ ?_
  simp only[go_sem,Int.natCast_zero,hz]
  have hrv:Un [.sl 0 0 (dx g 5000 b).length] [.row none (aA (dx g 5000 b))] (.tup []) [.row none (aA (dx g 5000 b).reverse)] [] []:=⟨_,rfl,rfl,by have:=lC g 5000 b;omega,rfl,rfl,rfl,rfl⟩
  refine bC Un (by simp) [2] hrv (by simp) (by simp) rfl rfl rfl (by simp only[AV.unders,AV.under,List.length_cons,List.length_nil];exact⟨by omega,trivial⟩) (by simp[Obj.under]) (fun j hj=>by
   have:j=0:=by simp only[List.length_cons,List.length_nil]at hj;omega
   subst this;rfl) ?_
  simp only[go_sem]
  have h1:List.take (dx g 5000 b).length (aA (dx g 5000 b).reverse)=aA (dx g 5000 b).reverse:=List.take_of_length_le (by simp)
  have h2:(dx g 5000 b).length<=(aA (dx g 5000 b).reverse).length:=by simp
  refine aZ (.inl rfl) [.tmp 2,.tmp 3,.tmp 4] rfl ?_
  simp only[go_sem]
  refine Le.trans (aq 2 (ag:=none) rfl (Nat.zero_le _)) ?_
  simp only[go_sem,h1,h2,bV,List.drop_zero,List.length_reverse,Nat.le_refl,wc,if_true]
  exact bp (by simp only[go_sem]) (by simp only[go_sem])
 ·rw[if_neg h0]at hch
  obtain⟨a,w,e1,e2,e3,_,_,_⟩:=hG.prov i (by omega) hi
  rw[e1,e2,Int.toNat_natCast]at hch
  have hi1:(0:Int)<i:=by omega
  have hi0:(0:Int)<=i:=by omega
  have hi2:(i:Int)<g.st.length:=by omega
  have hw1:D.nth (aA g.who) i=.int .i64 w:=(D.nth_map (f:=D.int .i64) (by omega)).trans (by rw[show (default:Int)=0 from rfl,e2])
  have hf1:D.nth (aA g.frm) i=.int .i64 a:=(D.nth_map (f:=D.int .i64) (by omega)).trans (by rw[show (default:Int)=0 from rfl,e1])
  have abA:List.take l.length (aA l)=aA l:=dS
  refine a6 (Γ:=tbl Cz) mX _ _ _ ?_
  simp only[go_sem,hi1,hi0,hi2,hi,← hGD,hw1,hf1,bV,hg1,hg2,abA,Nat.le_refl]
  refine⟨by omega,by omega,(l++[(w:Int)],a,f),⟨by simp only;omega,by simp only[List.append_assoc,List.cons_append,List.nil_append];exact hch,by simp only;omega,by simp only[List.length_append,List.length_cons,List.length_nil];omega⟩,by simp only;omega,?_⟩
  have hla:aA (l++[(w:Int)])=aA l++[D.int .i64 w]:=by simp
  simp only[hla,List.length_append,List.length_cons,List.length_nil]
  refine aP (own:=[_,_,_]) (ex:=[_]) (Nat.zero_le _) ?_ ?_ ?_
  ·simp only[go_sem,Int.natCast_add,Int.cast_ofNat_Int]
  ·simp only[go_sem]
  ·simp only[go_sem,Obj.allUnder,Obj.under,AV.unders,AV.under]
structure RgFit (g:Gr):Prop where
 l1:g.frm.length=g.st.length
 l2:g.who.length=g.st.length
 le:g.st.length<=5000
 nd:g.st.Nodup
 kf:∀x∈g.st,KFit x
def ZL(g:Gr)(t:PSt)(a w:Int):Gr×Nat:=match jR g.st t with
 | some i=>(g,i)
 | none=>(⟨g.st++[t],g.frm++[a],g.who++[w]⟩,g.st.length)
structure RInv (s:PSys) (n:Nat) (g:Gr):Prop where
 l1:g.frm.length=g.st.length
 l2:g.who.length=g.st.length
 nd:g.st.Nodup
 val:∀x∈g.st,Valid s x/\x.length=n
theorem RInv.fit{s:PSys}{n:Nat}{g:Gr}(h:RInv s n g)(hl:g.st.length<=5000):RgFit g:=⟨h.l1,h.l2,hl,h.nd,fun x hx=>n6 (h.val x hx).1⟩
theorem RInv.put{s:PSys}{n:Nat}{g:Gr}(h:RInv s n g){t:PSt}(ht:Valid s t)(hn:t.length=n)(a w:Int):RInv s n (ZL g t a w).1:=by
 unfold ZL
 cases hi:jR g.st t with
 | some i=>exact h
 | none =>
  refine⟨by simp[h.l1],by simp[h.l2],?_,?_⟩
  ·simp only
   rw[List.nodup_append]
   refine⟨h.nd,by simp,fun a ha b hb=>?_⟩
   rw[List.mem_singleton]at hb
   subst hb
   rintro rfl
   exact kP.1 hi ha
  ·intro y hy
   rcases List.mem_append.1 hy with hy|hy
   ·exact h.val y hy
   ·rw[List.mem_singleton.1 hy];exact⟨ht,hn⟩
structure NOk (n m:Nat) (ab nx:List (List Nat)) (N:List (List Int)):Prop where
 len:N.length=n
 row:∀i,i<n->(N.getD i []).length=m
 ent:∀i u,i<n->u<m->-1<=(N.getD i []).getD u 0/\(N.getD i []).getD u 0<n
 abl:∀i w,i<n->w<m->(0<=(N.getD i []).getD w 0↔w∈ab.getD i [])
 nxt:∀i (j:Nat),i<n->((∃u,u<m/\(N.getD i []).getD u 0=j)↔j∈nx.getD i [])
theorem xv{α β:Type}{f:α->β}{l:List α}{i:Nat}{d:β}{e:α}(h:i<l.length):(l.map f).getD i d=f (l.getD i e):=by
 simp[List.getD_eq_getElem?_getD,List.getElem?_eq_getElem h]
structure Rnd (n m:Nat) (ab nx:List (List Nat)) (N:List (List Int)) (w:Nat) (B:Nat->Bool):Prop where
 snd:∀i,B i=true->i<n/\Fre ab nx w i
 able:∀i,i<n->w∈ab.getD i []->B i=true
theorem Rnd.done{n m:Nat}{ab nx:List (List Nat)}{N:List (List Int)}{w:Nat}{B:Nat->Bool}(hN:NOk n m ab nx N)(h:Rnd n m ab nx N w B)(hc:∀i,i<n->∀j,j∈nx.getD i []->B j=true->B i=true)(abB:∀i,n<=i->ab.getD i []=[])(abC:∀i,n<=i->nx.getD i []=[])(i:Nat):B i=true↔Fre ab nx w i:=by
 refine⟨fun hi=>(h.snd i hi).2,fun hf=>?_⟩
 induction hf with
 | @here i hw =>
  rcases Nat.lt_or_ge i n with h1|h1
  ·exact h.able i h1 hw
  ·rw[abB i h1]at hw;cases hw
 | @next i j hj _ ih =>
  rcases Nat.lt_or_ge i n with h1|h1
  ·exact hc i h1 j hj ih
  ·rw[abC i h1]at hj;cases hj
def jw(nx:List (List Nat))(B:List Bool):List Bool:=List.zipWith (fun b l=>b || l.any fun j=>B.getD j false) B nx
def sX(ab nx:List (List Nat))(w:Nat):Nat->List Bool
 | 0=>ab.map (·.contains w)
 | n+1=>jw nx (sX ab nx w n)
theorem kQ{ab nx:List (List Nat)}{w:Nat}(h:ab.length=nx.length):∀n,(sX ab nx w n).length=ab.length
 | 0=>by simp[sX]
 | n+1=>by unfold sX jw;rw[List.length_zipWith,kQ h n,h,Nat.min_self]
theorem rj{B:List Bool}{nx:List (List Nat)}{i:Nat}(h1:i<B.length)(h2:i<nx.length):(jw nx B).getD i false=(B.getD i false || (nx.getD i []).any fun j=>B.getD j false):=by
 unfold jw
 rw[List.getD_eq_getElem?_getD,List.getElem?_zipWith,List.getElem?_eq_getElem h1,List.getElem?_eq_getElem h2]
 simp[List.getD_eq_getElem?_getD,List.getElem?_eq_getElem h1,List.getElem?_eq_getElem h2]
theorem lA{α:Type}{l:List α}{d:α}{i:Nat}(h:l.length<=i):l.getD i d=d:=by
 rw[List.getD_eq_getElem?_getD,List.getElem?_eq_none h];rfl
theorem lr{ab nx:List (List Nat)}{w:Nat}(h:ab.length=nx.length):∀n i,(sX ab nx w n).getD i false=true->Fre ab nx w i
 | 0,i,hi=>by
  unfold sX at hi
  rcases Nat.lt_or_ge i ab.length with h1|h1
  ·rw[xv (e:=[]) h1]at hi
   exact .here (by simpa using hi)
  ·rw[lA (by simpa using h1)]at hi;cases hi
 | n+1,i,hi=>by
  unfold sX at hi
  rcases Nat.lt_or_ge i ab.length with h1|h1
  ·rw[rj (by rw[kQ h];exact h1) (by omega),Bool.or_eq_true]at hi
   rcases hi with hi|hi
   ·exact lr h n i hi
   ·obtain⟨j,hj,hb⟩:=List.any_eq_true.1 hi
    exact .next hj (lr h n j hb)
  ·rw[lA (by unfold jw;rw[List.length_zipWith,kQ h];omega)]at hi;cases hi
theorem vm{ab nx:List (List Nat)}{w:Nat}(h:ab.length=nx.length):∀n i,w∈ab.getD i []->(sX ab nx w n).getD i false=true
 | 0,i,hi=>by
  unfold sX
  rcases Nat.lt_or_ge i ab.length with h1|h1
  ·rw[xv (e:=[]) h1];simpa using hi
  ·rw[lA h1]at hi;cases hi
 | n+1,i,hi=>by
  unfold sX
  rcases Nat.lt_or_ge i ab.length with h1|h1
  ·rw[rj (by rw[kQ h];exact h1) (by omega),vm h n i hi];rfl
  ·rw[lA h1]at hi;cases hi
theorem DR{ab nx:List (List Nat)}{w n:Nat}(h:ab.length=nx.length)(hs:jw nx (sX ab nx w n)=sX ab nx w n)(i:Nat):(sX ab nx w n).getD i false=true↔Fre ab nx w i:=by
 refine⟨lr h n i,fun hf=>?_⟩
 induction hf with
 | here hw=>exact vm h n _ hw
 | @next i j hj _ ih =>
  rcases Nat.lt_or_ge i ab.length with h1|h1
  ·rw[← hs,rj (by rw[kQ h];exact h1) (by omega),Bool.or_eq_true]
   exact .inr (List.any_eq_true.2 ⟨j,hj,ih⟩)
  ·rw[lA (by omega)]at hj;cases hj
theorem o5{n:Nat}{B C:Nat->Nat->Bool}:∀m,(∀w,w<m->B w=C w)->dN n B m=dN n C m
 | 0,_=>rfl
 | m+1,h=>by
  unfold dN
  rw[o5 m (fun w hw=>h w (by omega)),h m (Nat.lt_succ_self m)]
def FT(s:PSys)(K:Nat):Option (List Int×Int×Int):=match ib s (mF s) with
 | none=>none
 | some (g,ab,nx)=>if (List.range (mF s).length).all (fun w=>decide (jw nx (sX ab nx w K)=sX ab nx w K)) then
   (let b:=dN g.st.length (fun w i=>(sX ab nx w K).getD i false) (mF s).length
   some (if b.1=g.st.length then ([],0,6) else ((dx g 5000 b.1.toNat).reverse,b.2,0))) else none
theorem xq{s:PSys}{K:Nat}{v:List Int×Int×Int}(hc:aT s=0)(h:FT s K=some v):rt [aY s] (.tup [.dat (.sl none (aA v.1)),.dat (.int .i64 v.2.1),.dat (.int .i64 v.2.2)]):=by
 have hV:=lN hc
 unfold FT at h
 cases hr:ib s (mF s) with
 | none=>rw[hr]at h;cases h
 | some r =>
  obtain⟨g,ab,nx⟩:=r
  rw[hr]at h
  simp only at h
  split at h
  ·rename_i hst
   have hF:=E3 hV hr
   have hl:ab.length=nx.length:=by rw[hF.la,hF.ln]
   let B:Nat->Nat->Bool:=fun w i=>if w<(mF s).length then (sX ab nx w K).getD i false else @decide (Fre ab nx w i) (Classical.propDecidable _)
   refine⟨s,B,rfl,⟨(eJ hc).small⟩,?_,?_⟩
   ·intro g' ab' nx' hr' w i _
    rw[hr]at hr'
    cases hr'
    simp only[B]
    split
    ·rename_i hw
     have:=List.all_eq_true.1 hst w (List.mem_range.2 hw)
     exact DR hl (by simpa using this) i
    ·simp
   ·have hb:dN g.st.length B (mF s).length=dN g.st.length (fun w i=>(sX ab nx w K).getD i false) (mF s).length:=o5 _ fun w hw=>by
     funext i;simp only[B,if_pos hw]
    have:lq s B=v:=by
     unfold lq
     rw[if_neg (by rw[hc];decide),hr]
     simp only
     rw[hb]
     simpa using h
    rw[this]
  ·cases h
theorem zQ(n:Int):(pY n).length<=4:=by
 unfold pY Utf8.encode
 simp only
 repeat' split
 all_goals simp
def zR(n k:Nat):Bool:=decide (n / 2 ^ k % 2=1)
def ql(n:Nat):List PStep:=((List.range 4).filter (zR n)).map (fun k:Nat=>(⟨3,k,0,false⟩:PStep))++(((List.range 4).map fun k=>if 128<=n then 3 - k else k).filter (zR n)).map (fun k:Nat=>(⟨4,k,0,false⟩:PStep))
def mO(n i:Nat):PCls:=⟨119 :: pY (48+i),((1+n / 16 % 2:Nat):Int),false,ql n⟩
abbrev Zc:List Str:=[[97],[98],[99],[100]]
def gT:Nat->List Nat->List PCls
 | _,[]=>[]
 | i,n :: r=>if n % 16=0 then gT (i+1) r else mO n i :: gT (i+1) r
def aaC(l:List Nat):PSys:=⟨[],Zc,gT 0 (l.take 3)⟩
theorem AO:∀(i:Nat) (l:List Nat),(gT i l).length<=l.length
 | _,[]=>by simp[gT]
 | i,n :: r=>by
  have:=AO (i+1) r
  unfold gT
  split
  ·simp only[List.length_cons];omega
  ·simp only[List.length_cons];omega
def ZA(n k:Nat):Bool:=decide (0<=Er .u8 n k/\Er .u8 n k<=255) && decide (mD .and .u8 (Er .u8 n k) 1=if zR n k then 1 else 0)
theorem Mc:((List.range 256).all fun n=>(List.range 4).all fun k=>ZA n k)=true:=by kernel_rfl
theorem D1{n k:Nat}(hn:n<256)(hk:k<4):inR .u8 (Er .u8 n k)/\mD .and .u8 (Er .u8 n k) 1=if zR n k then 1 else 0:=by
 have h1:=List.all_eq_true.1 (List.all_eq_true.1 Mc n (List.mem_range.2 hn)) k (List.mem_range.2 hk)
 rw[ZA,Bool.and_eq_true,decide_eq_true_iff,decide_eq_true_iff]at h1
 exact⟨E9.2 h1.1,h1.2⟩
def sZ(n k:Nat):List PStep:=((List.range k).filter (zR n)).map (fun k:Nat=>(⟨3,k,0,false⟩:PStep))
def Nh(n k:Nat):List PStep:=(((List.range k).map fun k=>if 128<=n then 3 - k else k).filter (zR n)).map (fun k:Nat=>(⟨4,k,0,false⟩:PStep))
theorem C5(n k:Nat):sZ n (k+1)=sZ n k++if zR n k then [⟨3,k,0,false⟩] else []:=by
 unfold sZ;rw[List.range_succ,List.filter_append,List.map_append,List.filter_cons]
 cases zR n k <;> rfl
theorem DB(n k:Nat):Nh n (k+1)=Nh n k++if zR n (if 128<=n then 3 - k else k) then [⟨4,((if 128<=n then 3 - k else k:Nat):Int),0,false⟩] else []:=by
 unfold Nh;rw[List.range_succ,List.map_append,List.filter_append,List.map_append,List.map_singleton,List.filter_cons]
 cases zR n (if 128<=n then 3 - k else k) <;> rfl
def pI(n k:Nat):List PStep:=sZ n 4++Nh n k
theorem Da(n k:Nat):pI n (k+1)=pI n k++if zR n (if 128<=n then 3 - k else k) then [⟨4,((if 128<=n then 3 - k else k:Nat):Int),0,false⟩] else []:=by
 rw[pI,pI,DB,List.append_assoc]
def Zn(n:Nat):Bool:=decide ((ql n).length=0↔n % 16=0)
theorem EK:((List.range 256).all Zn)=true:=by kernel_rfl
theorem Fp{n:Nat}(hn:n<256):(ql n).length=0↔n % 16=0:=by
 have:=List.all_eq_true.1 EK n (List.mem_range.2 hn)
 rwa [Zn,decide_eq_true_iff]at this
theorem AT(i:Nat)(l:List Nat)(n:Nat):gT i (l++[n])=gT i l++if n % 16=0 then [] else [mO n (i+l.length)]:=by
 induction l generalizing i with
 | nil=>simp only[List.nil_append,List.length_nil,Nat.add_zero,gT]
 | cons x r ih =>
  simp only[List.cons_append,gT,ih,List.length_cons]
  rw[show i+1+r.length=i+(r.length+1) by omega]
  by_cases hx:x % 16=0
  ·rw[if_pos hx,if_pos hx]
  ·rw[if_neg hx,if_neg hx];rfl
theorem zz(l:List Nat){i:Nat}(h:i<l.length):gT 0 (l.take (i+1))=gT 0 (l.take i)++if l.getD i 0 % 16=0 then [] else [mO (l.getD i 0) i]:=by
 rw[List.take_succ_eq_append_getElem h,List.getElem_eq_getD 0,AT,Nat.zero_add,List.length_take_of_le (Nat.le_of_lt h)]
abbrev JG(l:List Nat):List D:=l.map fun n:Nat=>.int .u8 (n:Int)
def OZ(c:PCls)(v:AV):List AV:=[.dat (.str c.name),.dat (.int .i64 c.workers),.dat (.bool c.server),v]
def IA(c:PCls):List D:=[.str c.name,.int .i64 c.workers,.bool c.server,bD c.steps]
def o33:Nat->List Obj
 | 0=>[.row (some 4) []]
 | 1=>[.row (some 4) [bf (mO 3 0)]]
 | _=>[.tab 4 ((IA (mO 3 0)).map .dat++OZ (mO 3 1) (.sl 6 0 4)),.dead,.row (some 4) ((ql 3).map ar)]
def xG(ds:List D)(v:AV)(ob:List Obj):Prop:=ds=[.sl none [.int .u8 3,.int .u8 3]]/\v=.agg [.sl 3 0 0,.sl 1 0 4,.sl 4 0 2] /\
 ob=[.box [.sl 3 0 0,.sl 1 0 4,.sl 4 0 2],.row none [.str [97],.str [98],.str [99],.str [100]],.box [.sl 3 0 0,.sl 1 0 4,.sl 4 0 2],.row (some 3) []]++o33 2
theorem Ds:OkF Tryz.prog 10 (fk xG):=by
 refine ec Tryz.func10 rfl (by decide) ?_
 rintro ds v ob ⟨rfl,rfl,rfl⟩
 have e33:[D.int .u8 3,D.int .u8 3]=JG [3,3]:=rfl
 rw[e33]
 generalize h33:[3,3]=l
 have hl:∀n∈l,n<256:=by subst h33;decide
 have hlen:l.length=2:=by subst h33;rfl
 refine al [2] (Γ:=tbl []) ae _ _ _ ?_
 simp only[go_sem,Tryz.ntmps10]
 refine av (d9 2 0 (some 3) rfl rfl (Nat.zero_le _)) ?_
 refine av (d9 2 2 (some 4) rfl rfl (Nat.zero_le _)) ?_
 refine a6 (Γ:=tbl []) ae _ _ _ ?_
 simp only[go_sem]
 refine ap (fun i:Nat=>⟨an 92 [(0,.dat (.sl none (JG l))),(2,.ptr 0 0 0),(3,.ptr 2 0 0),(4,.dat (.int .i64 i))],[.box [.nils,.nils,.nils],.row none [.str [97],.str [98],.str [99],.str [100]],.box [.sl 3 0 0,.sl 1 0 4,.sl 4 0 i],.row (some 3) []]++o33 i,0,[]⟩)
  (fun i=>i<=2) (fun i=>2 - i) 0 (Nat.zero_le _) ?_ ?_
 ·exact a7 (by simp only[go_sem,Int.natCast_zero])
 intro i hi
 have hcl:(gT 0 (l.take i)).length<=3:=by have:=AO 0 (l.take i);rw[List.length_take]at this;omega
 have ho8:(JG l).length=l.length:=List.length_map _
 by_cases re:i<2
 ·have hlt:i<l.length:=by omega
  have ho3:o33 i=[.row (some 4) ((gT 0 (l.take i)).map bf)]:=by
   subst h33
   match i,re with
   | 0,_=>rfl
   | 1,_=>rfl
  have YK:(gT 0 (l.take i)).length=i:=by
   subst h33
   match i,re with
   | 0,_=>rfl
   | 1,_=>rfl
  have abD:o33 (i+1)=if i=0 then [.row (some 4) ((gT 0 (l.take (i+1))).map bf)] else [.tab 4 ((IA (mO 3 0)).map .dat++OZ (mO 3 1) (.sl 6 0 4)),.dead,.row (some 4) ((ql 3).map ar)]:=by
   subst h33
   match i,re with
   | 0,_=>rfl
   | 1,_=>rfl
  have hn3:l.getD i 0=3:=by
   subst h33
   match i,re with
   | 0,_=>rfl
   | 1,_=>rfl
  rw[ho3]
  refine al [6,12,21,22,23] (Γ:=tbl []) ae _ _ _ ?_
  have hk2:(i:Int)<l.length:=by omega
  have hk3:(i:Int)<3:=by omega
  have hr4:=zQ (48+i)
  have pv:D.nth (JG l) i=.int .u8 (l.getD i 0:Nat):=by
   show (JG l).getD i default=_
   rw[List.getD_eq_getElem?_getD,List.getElem?_map,List.getD_eq_getElem?_getD,List.getElem?_eq_getElem hlt];rfl
  have hn:l.getD i 0<256:=by
   refine hl _ ?_
   rw[List.getD_eq_getElem?_getD,List.getElem?_eq_getElem hlt]
   exact List.getElem_mem hlt
  have hsc:=zz l hlt
  generalize l.getD i 0=n at hn pv hsc hn3
  have hq1:(n:Int).tdiv 16=(n / 16:Nat):=by rw[Int.tdiv_eq_ediv_of_nonneg (Int.natCast_nonneg n)];rfl
  have hq2:((n / 16:Nat):Int).tmod 2=(n / 16 % 2:Nat):=by rw[Int.tmod_eq_emod_of_nonneg (Int.natCast_nonneg _)];rfl
  have hq3:n / 16 % 2<2:=Nat.mod_lt _ (by decide)
  have hq4:n / 16<16:=by omega
  have hm4:5<=maxLen:=by decide
  simp only[List.cons_append,List.nil_append]
  simp only[go_sem,hk2,hk3,ho8,pv,hq1,hq2]
  refine⟨ac.2 (by omega),JZ.2 (by omega),by omega,ac.2 (by omega),ac.2 (by omega),ac.2 (by omega),ac.2 (by omega),?_⟩
  refine av (d9 5 3 (some 4) rfl rfl (Nat.zero_le _)) ?_
  refine al [12,21,22] (Γ:=tbl []) ae _ _ _ ?_
  simp only[go_sem]
  generalize hNM:D.str (119 :: pY (48+(i:Int)))=NM
  generalize hWK:D.int .i64 (1+((n / 16 % 2:Nat):Int))=WK
  generalize hCC:gT 0 (l.take i)=CC at hsc hcl YK
  have hAl:∀k,((sZ n k).map ar).length=(sZ n k).length:=fun k=>List.length_map _
  have hAt:∀k,List.take (sZ n k).length ((sZ n k).map ar)=(sZ n k).map ar:=fun k=>List.take_of_length_le (by rw[hAl];exact Nat.le_refl _)
  have hA4:∀k,(sZ n k).length<=k:=fun k=>by
   rw[sZ,List.length_map];exact Nat.le_trans (List.length_filter_le _ _) (by rw[List.length_range];exact Nat.le_refl _)
  refine ap (fun k:Nat=>⟨an 92 [(0,.dat (.sl none (JG l))),(2,.ptr 0 0 0),(3,.ptr 2 0 0),(4,.dat (.int .i64 i)),(5,.ptr 5 0 0),(35,.dat (.int .i64 k))],[.box [.nils,.nils,.nils],.row none [.str [97],.str [98],.str [99],.str [100]],.box [.sl 3 0 0,.sl 1 0 4,.sl 4 0 i],.row (some 3) [],.row (some 4) (CC.map bf),.box [.dat NM,.dat WK,.dat (.bool false),.sl 6 0 (sZ n k).length],.row (some 4) ((sZ n k).map ar)],0,[]⟩)
   (fun k=>k<=4) (fun k=>4 - k) 0 (Nat.zero_le _) ?_ ?_
  ·exact a7 (by simp only[go_sem,Int.natCast_zero])
  ·intro k hk
   refine al [12,21,22] (Γ:=tbl []) ae _ _ _ ?_
   rcases Nat.lt_or_ge k 4 with hk4|hk4
   ·have hkk:(k:Int)<4:=by omega
    obtain⟨hb1,hb2⟩:=D1 hn hk4
    have hAs:=C5 n k
    have acy:=hA4 k
    cases hb:zR n k with
    | false =>
     rw[hb,if_neg (by decide)]at hb2
     rw[hb,if_neg (by decide),List.append_nil]at hAs
     have hkl:¬((0:Int)=1):=by decide
     simp only[go_sem,hkk,ho8,hk2,pv,hb2,decide_false]
     refine⟨hb1,ac.2 (by omega),k+1,by omega,by omega,?_⟩
     rw[hAs]
     exact a7 (by simp only[go_sem,Int.natCast_add,Int.cast_ofNat_Int])
    | true =>
     rw[hb,if_pos rfl]at hb2
     rw[hb,if_pos rfl]at hAs
     have hAe:(sZ n k).map ar++[.agg [.int .i64 3,.int .i64 k,.int .i64 0,.bool false]]=(sZ n (k+1)).map ar:=by rw[hAs,List.map_append];rfl
     have hAn:(sZ n k).length+1=(sZ n (k+1)).length:=by rw[hAs,List.length_append];rfl
     simp only[go_sem,hkk,ho8,hk2,pv,hb2,decide_true,hAt,hAe,hAn]
     refine⟨hb1,by omega,by omega,ac.2 (by omega),k+1,by omega,by omega,?_⟩
     refine aP (own:=[_,_,_,_,_,_,_]) (ex:=[_]) (Nat.zero_le _) ?_ ?_ ?_
     ·simp only[go_sem,Int.natCast_add,Int.cast_ofNat_Int]
     ·simp only[go_sem]
     ·simp only[go_sem,Obj.under,AV.unders,AV.under]
   obtain rfl:k=4:=by omega
   have hkk:¬((4:Nat):Int)<4:=by decide
   simp only[go_sem,hkk]
   refine al [21,22] (Γ:=tbl []) ae _ _ _ ?_
   simp only[go_sem]
   have hBl:∀k,((pI n k).map ar).length=(pI n k).length:=fun k=>List.length_map _
   have hBt:∀k,List.take (pI n k).length ((pI n k).map ar)=(pI n k).map ar:=fun k=>List.take_of_length_le (by rw[hBl];exact Nat.le_refl _)
   have hB4:∀k,(pI n k).length<=4+k:=fun k=>by
    have:=hA4 4
    have:(Nh n k).length<=k:=by
     rw[Nh,List.length_map];exact Nat.le_trans (List.length_filter_le _ _) (by rw[List.length_map,List.length_range];exact Nat.le_refl _)
    rw[pI,List.length_append];omega
   have hB0:pI n 0=sZ n 4:=List.append_nil _
   refine ap (fun k:Nat=>⟨an 92 [(0,.dat (.sl none (JG l))),(2,.ptr 0 0 0),(3,.ptr 2 0 0),(4,.dat (.int .i64 i)),(5,.ptr 5 0 0),(54,.dat (.int .i64 k))],[.box [.nils,.nils,.nils],.row none [.str [97],.str [98],.str [99],.str [100]],.box [.sl 3 0 0,.sl 1 0 4,.sl 4 0 i],.row (some 3) [],.row (some 4) (CC.map bf),.box [.dat NM,.dat WK,.dat (.bool false),.sl 6 0 (pI n k).length],.row (some 4) ((pI n k).map ar)],0,[]⟩)
    (fun k=>k<=4) (fun k=>4 - k) 0 (Nat.zero_le _) ?_ ?_
   ·rw[hB0]
    exact a7 (by simp only[go_sem,Int.natCast_zero])
   intro k hk
   refine al [21,22] (Γ:=tbl []) ae _ _ _ ?_
   rcases Nat.lt_or_ge k 4 with hk4|hk4
   ·have hkk:(k:Int)<4:=by omega
    have hBs:=Da n k
    have acz:=hB4 k
    by_cases hn8:128<=n
    case' pos =>
     have hj:((if 128<=n then 3 - k else k:Nat):Int)=3 - k:=by rw[if_pos hn8];omega
    case' neg =>
     have hj:((if 128<=n then 3 - k else k:Nat):Int)=k:=by rw[if_neg hn8]
    all_goals have abE:(128<=(n:Int))=(128<=n):=propext (by omega)
    all_goals have hj4:(if 128<=n then 3 - k else k)<4:=by split <;> omega
    all_goals generalize (if 128<=n then 3 - k else k)=j at hj hj4 hBs
    all_goals obtain⟨hb1,hb2⟩:=D1 hn hj4
    all_goals rw[hj]at hb1 hb2
    all_goals rw[hj]at hBs
    all_goals cases hb:zR n j
    all_goals rw[hb]at hb2 hBs
    all_goals first|rw[if_neg (by decide)]at hb2|rw[if_pos rfl]at hb2
    all_goals first|rw[if_neg (by decide),List.append_nil]at hBs|rw[if_pos rfl]at hBs
    all_goals simp only[go_sem,hkk,ho8,hk2,pv,hb2,hn8,abE,decide_true,decide_false,hBt]
    case pos.false =>
     refine⟨ac.2 (by omega),by omega,hb1,ac.2 (by omega),k+1,by omega,by omega,?_⟩
     rw[hBs]
     exact a7 (by simp only[go_sem,Int.natCast_add,Int.cast_ofNat_Int])
    case neg.false =>
     refine⟨hb1,ac.2 (by omega),k+1,by omega,by omega,?_⟩
     rw[hBs]
     exact a7 (by simp only[go_sem,Int.natCast_add,Int.cast_ofNat_Int])
    all_goals have hBn:(pI n k).length+1=(pI n (k+1)).length:=by rw[hBs,List.length_append];rfl
    case' pos.true =>
     have hBe:(pI n k).map ar++[.agg [.int .i64 4,.int .i64 (3 - k),.int .i64 0,.bool false]]=(pI n (k+1)).map ar:=by rw[hBs,List.map_append];rfl
    case' neg.true =>
     have hBe:(pI n k).map ar++[.agg [.int .i64 4,.int .i64 k,.int .i64 0,.bool false]]=(pI n (k+1)).map ar:=by rw[hBs,List.map_append];rfl
    all_goals simp only[hBe,hBn]
    case pos.true =>
     refine⟨ac.2 (by omega),by omega,hb1,by omega,by omega,ac.2 (by omega),k+1,by omega,by omega,?_⟩
     refine aP (own:=[_,_,_,_,_,_,_]) (ex:=[_]) (Nat.zero_le _) ?_ ?_ ?_
     ·simp only[go_sem,Int.natCast_add,Int.cast_ofNat_Int]
     ·simp only[go_sem]
     ·simp only[go_sem,Obj.under,AV.unders,AV.under]
    case neg.true =>
     refine⟨hb1,by omega,by omega,ac.2 (by omega),k+1,by omega,by omega,?_⟩
     refine aP (own:=[_,_,_,_,_,_,_]) (ex:=[_]) (Nat.zero_le _) ?_ ?_ ?_
     ·simp only[go_sem,Int.natCast_add,Int.cast_ofNat_Int]
     ·simp only[go_sem]
     ·simp only[go_sem,Obj.under,AV.unders,AV.under]
   obtain rfl:k=4:=by omega
   have hkk:¬((4:Nat):Int)<4:=by decide
   simp only[go_sem,hkk]
   have hQ4:pI n 4=ql n:=rfl
   rw[hQ4]
   refine al [22] (Γ:=tbl []) ae _ _ _ ?_
   by_cases hz:(ql n).length=0
   ·exfalso;subst hn3;revert hz;decide
   ·have abF:¬n % 16=0:=fun h=>hz ((Fp hn).2 h)
    rw[if_neg abF]at hsc
    have hz0:(0:Int)<((ql n).length:Nat):=by omega
    simp only[go_sem,hz0]
    by_cases hi0:i=0
    ·refine av (aq 6 (ag:=some 4) rfl (Nat.zero_le _)) ?_
     refine al [] (Γ:=tbl []) ae _ _ _ ?_
     have hSl:((ql n).map ar).length=(ql n).length:=List.length_map _
     have hSt:List.take (ql n).length ((ql n).map ar)=(ql n).map ar:=List.take_of_length_le (by rw[hSl];exact Nat.le_refl _)
     have hCl:(CC.map bf).length=CC.length:=List.length_map _
     have hCt:List.take i (CC.map bf)=CC.map bf:=List.take_of_length_le (by rw[hCl,YK];exact Nat.le_refl _)
     have hCn:i+1=(gT 0 (l.take (i+1))).length:=by rw[hsc,List.length_append,YK];rfl
     have hCe:CC.map bf++[.agg [NM,WK,.bool false,.sl (some 4) ((ql n).map ar)]]=(gT 0 (l.take (i+1))).map bf:=by
      rw[hsc,List.map_append,← hNM,← hWK]
      rfl
     simp only[go_sem,hSl,hSt,hCl,hCt,hCe,Nat.le_refl]
     refine⟨by omega,by omega,by omega,ac.2 (by omega),i+1,by omega,by omega,?_⟩
     rw[abD,if_pos hi0]
     refine aP (own:=[_,_,_,_,_]) (ex:=[_,_,_]) (Nat.zero_le _) ?_ ?_ ?_
     ·simp only[go_sem,Int.natCast_add,Int.cast_ofNat_Int]
     ·simp only[go_sem]
     ·simp only[go_sem,Obj.under,AV.unders,AV.under]
    ·have hi1:i=1:=by omega
     have abG:CC.map bf=[IA (mO 3 0)].map D.agg:=by rw[← hCC,← h33,hi1];rfl
     have hSl:(ql n).length=4:=by rw[hn3];rfl
     rw[abG]
     refine av (IG 4 (k:=4) (M:=[IA (mO 3 0)]) (by decide) (by intro r hr;simp only[List.mem_singleton]at hr;subst hr;rfl) rfl) ?_
     refine al [] (Γ:=tbl []) ae _ _ _ ?_
     have hfl:List.map AV.dat [IA (mO 3 0)].flatten=[.dat (.str (mO 3 0).name),.dat (.int .i64 (mO 3 0).workers),.dat (.bool (mO 3 0).server),.dat (bD (mO 3 0).steps)]:=rfl
     subst hi1
     simp only[go_sem,hfl,hSl]
     refine⟨ac.2 (by omega),2,by omega,by omega,?_⟩
     have e2:o33 2=[.tab 4 [.dat (.str (mO 3 0).name),.dat (.int .i64 (mO 3 0).workers),.dat (.bool (mO 3 0).server),.dat (bD (mO 3 0).steps),.dat NM,.dat WK,.dat (.bool false),.sl 6 0 4],.dead,.row (some 4) ((ql n).map ar)]:=by rw[← hNM,← hWK,hn3];rfl
     rw[e2]
     refine Le.trans (jI 5) ?_
     refine aP (own:=[_,_,_,_,_,_,_]) (ex:=[_]) (Nat.zero_le _) ?_ ?_ ?_
     ·simp only[go_sem,Int.natCast_add,Int.cast_ofNat_Int]
     ·simp only[go_sem]
     ·simp only[go_sem,Obj.under,AV.unders,AV.under]
 obtain rfl:i=2:=by omega
 have e2:o33 2=[.tab 4 ((IA (mO 3 0)).map .dat++OZ (mO 3 1) (.sl 6 0 4)),.dead,.row (some 4) ((ql 3).map ar)]:=rfl
 rw[e2]
 simp only[List.cons_append,List.nil_append]
 refine al [] (Γ:=tbl []) ae _ _ _ ?_
 have hk2:¬((2:Int)<l.length):=by omega
 simp only[go_sem,hk2,ho8,decide_false]
 refine aH (.inl rfl) [.cell 2 26] rfl (fun _ h=>h) ?_
 simp only[go_sem]
 exact Le.refl _
end Go.AM

