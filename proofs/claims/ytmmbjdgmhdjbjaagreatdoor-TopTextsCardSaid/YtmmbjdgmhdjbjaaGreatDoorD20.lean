/- Own work over the model of the kit. -/
import Derived.Test.YtmmbjdgmhdjbjaaGreatDoorD19
import Derived.Test.YtmmbjdgmhdjbjaaGreatDoorD13
import Derived.Test.YtmmbjdgmhdjbjaaGreatDoorD15
set_option linter.unnecessarySimpa false
set_option linter.unusedSimpArgs false
set_option linter.unusedVariables false
set_option maxHeartbeats 4000000
set_option maxRecDepth 8000
namespace Go.AM
open Go Go.Proofs
theorem C9:∀{l m:List PFr} {A B:List Nat},l.length=m.length->(∀f∈l,0<=f.c/\0<=f.a)->(∀f∈m,0<=f.c/\0<=f.a)->l.flatMap kfr++A=m.flatMap kfr++B->l=m/\A=B
 | [],[],A,B,_,_,_,h=>⟨rfl,by simpa using h⟩
 | f :: l,g :: m,A,B,hl,h1,h2,h=>by
  simp only[List.flatMap_cons,kfr,List.cons_append,List.nil_append,List.cons.injEq]at h
  obtain⟨e1,e2,e3⟩:=h
  have hf:=h1 f (by simp)
  have hg:=h2 g (by simp)
  obtain⟨r1,r2⟩:=C9 (by simpa using hl) (fun q hq=>h1 q (by simp[hq])) (fun q hq=>h2 q (by simp[hq])) e3
  refine⟨?_,r2⟩
  obtain⟨a,b⟩:=f
  obtain⟨c,d⟩:=g
  simp only at e1 e2 hf hg
  have:a=c:=by omega
  have:b=d:=by omega
  subst_vars
  rfl
theorem IW:∀{x y:PSt},(∀l∈x,∀f∈l,0<=f.c/\0<=f.a)->(∀l∈y,∀f∈l,0<=f.c/\0<=f.a)->kX x=kX y->x=y
 | [],[],_,_,_=>rfl
 | [],m :: y,_,_,h=>by simp[kX,kst]at h
 | l :: x,[],_,_,h=>by simp[kX,kst]at h
 | l :: x,m :: y,h1,h2,h=>by
  have e:∀(l:List PFr) (x:PSt),kX (l :: x)=l.length :: (l.flatMap kfr++kX x):=fun l x=>by simp[kX,kst]
  rw[e,e,List.cons.injEq]at h
  obtain⟨r1,r2⟩:=C9 h.1 (h1 l (by simp)) (h2 m (by simp)) h.2
  rw[r1,IW (fun q hq=>h1 q (by simp[hq])) (fun q hq=>h2 q (by simp[hq])) r2]
theorem J9:∀{a b:List Nat},(∀n∈a,n<256)->(∀n∈b,n<256)->fL (qT a)=fL (qT b)->a=b
 | [],[],_,_,_=>rfl
 | [],_ :: _,_,_,h=>by simp[fL]at h
 | _ :: _,[],_,_,h=>by simp[fL]at h
 | n :: a,m :: b,h1,h2,h=>by
  simp only[fL,qT,List.map_cons,List.cons.injEq]at h
  have hn:=h1 n (by simp)
  have hm:=h2 m (by simp)
  have e:n=m:=by
   have:=congrArg UInt8.toNat h.1
   simp only[Int.toNat_natCast,UInt8.toNat_ofNat']at this
   omega
  rw[e,J9 (fun q hq=>h1 q (by simp[hq])) (fun q hq=>h2 q (by simp[hq])) h.2]
theorem PJ{x:PSt}(hx:KFit x):∀n∈kX x,n<256:=by
 intro n hn
 unfold kX at hn
 obtain⟨l,hl,hn⟩:=List.mem_flatMap.1 hn
 have h25:=hx.stk l hl
 unfold kst at hn
 rcases List.mem_cons.1 hn with rfl|hn
 ·omega
 ·obtain⟨f,hf,hn⟩:=List.mem_flatMap.1 hn
  have:=hx.fr l hl f hf
  unfold kfr at hn
  simp only[List.mem_cons,List.not_mem_nil,or_false]at hn
  rcases hn with rfl|rfl <;> omega
theorem xe{x y:PSt}(hx:KFit x)(hy:KFit y)(h:wb x=wb y):x=y :=
 IW (fun l hl f hf=>by have:=hx.fr l hl f hf;omega) (fun l hl f hf=>by have:=hy.fr l hl f hf;omega) (J9 (PJ hx) (PJ hy) h)
def Qs(h:Int)(b:UInt8):Int:=(h*31+b.toNat).tmod 1021
structure Gr where
 st:List PSt
 frm:List Int
 who:List Int
deriving Inhabited
def jR(S:List PSt)(t:PSt):Option Nat:=S.findIdx? fun y=>decide (y=t)
def inG(s:PSys)(at':Nat)(x:PSt):List Nat->Gr->List Nat->Option (Gr×List Nat)
 | [],g,nx=>some (g,nx)
 | w :: ws,g,nx=>match jR g.st (cS s x w) with
  | some i=>inG s at' x ws g (nx++[i])
  | none=>if g.st.length=4096 then none else inG s at' x ws ⟨g.st++[cS s x w],g.frm++[(at':Int)],g.who++[(w:Int)]⟩ (nx++[g.st.length])
def NA(s:PSys):Nat->Nat->Gr->List (List Nat)->List (List Nat)->Option (Gr×List (List Nat)×List (List Nat))
 | 0,_,g,ab,nx=>some (g,ab,nx)
 | n+1,k,g,ab,nx=>if k<g.st.length then
   (match inG s k (g.st.getD k []) (ik s (g.st.getD k [])) g [] with
   | none=>none
   | some (g',l)=>NA s n (k+1) g' (ab++[ik s (g.st.getD k [])]) (nx++[l]))
  else some (g,ab,nx)
def g0(x:PSt):Gr:=⟨[x],[-1],[-1]⟩
def ib(s:PSys)(x:PSt):Option (Gr×List (List Nat)×List (List Nat)):=NA s 4097 0 (g0 x) [] []
def mpF:Nat->List PSt->List (D×D)
 | _,[]=>[]
 | i,x :: r=>(.str (wb x),.int .i64 i) :: mpF (i+1) r
theorem y8:∀{S:List PSt} {i:Nat} {t:PSt},mpF i (S++[t])=mpF i S++[(.str (wb t),.int .i64 (i+S.length:Nat))]
 | [],i,t=>by simp[mpF]
 | x :: S,i,t=>by
  rw[List.cons_append,mpF,y8,mpF]
  simp[Nat.add_assoc,Nat.add_comm 1]
theorem tU{t:PSt}(ht:KFit t):∀{S:List PSt} {i:Nat} {n:Nat},(∀x∈S,KFit x)->bi (.str (wb t)) (mpF i S) n=(jR S t).map fun j=>(n+j,.int .i64 (i+j:Nat))
 | [],_,_,_=>rfl
 | x :: S,i,n,h=>by
  rw[mpF,bi]
  by_cases e:x=t
  ·subst e
   simp[D.keyEq,jR,List.findIdx?_cons]
  ·have hne:wb t≠wb x:=fun he=>e (xe (h x (by simp)) ht he.symm)
   have ih:=tU ht (S:=S) (i:=i+1) (n:=n+1) fun y hy=>h y (by simp[hy])
   rw[if_neg (by simpa [D.keyEq] using hne),ih]
   simp only[jR,List.findIdx?_cons,e,decide_false,Bool.false_eq_true,if_false]
   cases List.findIdx? (fun y=>decide (y=t)) S with
   | none=>rfl
   | some j=>simp[Nat.add_assoc,Nat.add_comm 1]
theorem GK{t:PSt}(ht:KFit t){S:List PSt}(h:∀x∈S,KFit x):eI (.str (wb t)) (mpF 0 S)=(jR S t).map fun j=>.int .i64 (j:Nat):=by
 unfold eI
 rw[tU ht h]
 cases jR S t <;> simp
theorem AU{t:PSt}(ht:KFit t):∀{S:List PSt} {i:Nat} {v:D},(∀x∈S,KFit x)->jR S t=none->fG (.str (wb t)) v (mpF i S)=mpF i S++[(.str (wb t),v)]
 | [],_,_,_,_=>rfl
 | x :: S,i,v,h,hn=>by
  simp only[jR,List.findIdx?_cons]at hn
  by_cases e:x=t
  ·simp[e]at hn
  ·have hne:wb t≠wb x:=fun he=>e (xe (h x (by simp)) ht he.symm)
   have hn2:jR S t=none:=by
    unfold jR
    simp only[e,decide_false,Bool.false_eq_true,if_false]at hn
    simpa using hn
   rw[mpF,fG,if_neg (by simpa [D.keyEq] using hne),AU ht (fun y hy=>h y (by simp[hy])) hn2]
   rfl
abbrev vw(S:List PSt):List D:=S.map stD
abbrev lI(l:List Nat):D:=.sl none (aF l)
abbrev bg(L:List (List Nat)):List D:=L.map lI
def grD(g:Gr)(ab nx:List (List Nat)):D:=.agg [.sl (some 1) (vw g.st),.sl none (bg ab),.sl none (bg nx),.sl none (aA g.frm),.sl none (aA g.who)]
structure GrOk (s:PSys) (g:Gr):Prop where
 l1:g.frm.length=g.st.length
 l2:g.who.length=g.st.length
 le:g.st.length<=4096
 val:∀x∈g.st,Valid s x
theorem ym{s:PSys}{x:PSt}{w:Nat}:w∈ik s x↔w<x.length/\eR s x w=true:=by
 unfold ik;rw[List.mem_filter,List.mem_range]
theorem y7{s:PSys}{g:Gr}(h:GrOk s g){t:PSt}(ht:Valid s t)(hl:g.st.length≠4096)(a w:Int):GrOk s ⟨g.st++[t],g.frm++[a],g.who++[w]⟩:=by
 have h1:=h.l1;have h2:=h.l2;have h3:=h.le
 refine⟨by simp[h1],by simp[h2],by simp;omega,fun x hx=>?_⟩
 rcases List.mem_append.1 hx with hx|hx
 ·exact h.val x hx
 ·rw[List.mem_singleton.1 hx];exact ht
theorem yK{P:Program}{t:TypeId}:∀{S:List PSt} {i:Nat},(mpF i S).all (fun x=>D.isKeyP P t .string x.1)=true
 | [],_=>rfl
 | x :: S,i=>by rw[mpF,List.all_cons,yK];simp[D.isKeyP,D.isKey]
theorem iO{S:List PSt}:(vw S).length=S.length:=by simp
theorem xV{S:List PSt}:List.take S.length (vw S)=vw S:=List.take_of_length_le (by simp)
theorem gr{S:List (List Nat)}:(bg S).length=S.length:=by simp
theorem r8{S:List (List Nat)}:List.take S.length (bg S)=bg S:=List.take_of_length_le (by simp)
theorem DA{s:PSys}{x:PSt}(hV:Valid s x):PStFit x:=(xD hV).fit (by decide)
abbrev oG:List (Nat×a8):=[(55,au V9),(56,au LJ),(57,au Kl)]
theorem d7:OkG Tryz.prog (tbl oG):=ai Qo (ai yU (ai Lq ae))
theorem Is:aQ (tbl oG) [55,56,57]:=by
 refine xX fun g C hm hg=>?_
 simp only[List.mem_cons,List.not_mem_nil,or_false,Prod.mk.injEq]at hm
 rcases hm with⟨_,rfl⟩|⟨_,rfl⟩|⟨_,rfl⟩ <;> exact .inl ⟨_,rfl⟩
def qt(s:PSys)(x:PSt):AV:=match ib s x with
 | none=>.tup [.top,.dat (.bool false)]
 | some (g,ab,nx)=>.tup [.rptr (some 5) (grD g ab nx),.dat (.bool true)]
def Cc(ds:List D)(v:AV):Prop:=∃(s:PSys) (x:PSt),ds=[aY s,stD x]/\Valid s x/\v=qt s x
abbrev grB(n k:Nat):Obj:=.box [.sl 2 0 n,.sl 7 0 k,.sl 8 0 k,.sl 3 0 n,.sl 4 0 n]
abbrev Oc(s:PSys)(x:PSt)(g:Gr)(ab nx:List (List Nat))(k:Nat):List Obj:=[jO s,stO x,.row (some 1) (vw g.st),.row none (aA g.frm),.row none (aA g.who),grB g.st.length k,.map (mpF 0 g.st),.row none (bg ab),.row none (bg nx)]
theorem Df:OkF Tryz.prog 26 (au Cc):=by
 refine az Tryz.func26 rfl (by decide) ?_
 rintro ds v ⟨s,x,rfl,hV,rfl⟩
 refine al [3] (Γ:=tbl oG) d7 _ _ _ ?_
 simp only[go_sem,Tryz.ntmps26,aY,stD]
 refine ah V9 (by simp) [stD x] _ rfl ⟨x,rfl,n6 hV,rfl⟩ (.inl rfl) ?_
 simp only[go_sem]
 refine av (d9 5 1 none rfl rfl (Nat.zero_le _)) ?_
 refine av (d9 5 2 none rfl rfl (Nat.zero_le _)) ?_
 refine a6 (Γ:=tbl oG) d7 _ _ _ ?_
 simp only[go_sem]
 generalize hRV:qt s x=V
 refine ap (fun p:Nat×Gr×List (List Nat)×List (List Nat)=>⟨an 141 [(2,.ptr 0 0 0),(3,.ptr 1 0 0),(6,.ptr 5 0 0),(7,.map 6),(8,.dat (.int .i64 p.1))],Oc s x p.2.1 p.2.2.1 p.2.2.2 p.1,0,[]⟩)
  (fun p=>GrOk s p.2.1/\p.1<=p.2.1.st.length/\p.2.2.1.length=p.1/\p.2.2.2.length=p.1/\NA s (4097 - p.1) p.1 p.2.1 p.2.2.1 p.2.2.2=ib s x) (fun p=>4097 - p.1) (0,g0 x,[],[]) ⟨⟨rfl,rfl,by simp[g0],by simpa [g0] using hV⟩,Nat.zero_le _,rfl,rfl,rfl⟩ ?_ ?_
 ·exact a7 (by simp only[go_sem,Int.natCast_zero])
 rintro ⟨k,g,ab,nx⟩ ⟨hG,hk,hab,hnx,my⟩
 simp only at hG hk hab hnx my ⊢
 have g1:=hG.l1
 have g2:=hG.l2
 have g3:=hG.le
 have hk0:(0:Int)<=k:=Int.natCast_nonneg k
 obtain⟨m,hm⟩:∃m,4097 - k=m+1:=⟨4096 - k,by omega⟩
 rw[hm,NA]at my
 rcases Nat.lt_or_ge k g.st.length with hlt|hge
 case inr =>
  obtain rfl:k=g.st.length:=by omega
  rw[if_neg (by omega)]at my
  have hk2:¬(g.st.length:Int)<g.st.length:=by omega
  have hV2:V=.tup [.rptr (some 5) (grD g ab nx),.dat (.bool true)]:=by rw[← hRV];unfold qt;rw[← my]
  subst hV2
  have t1:List.take g.st.length (vw g.st)=vw g.st:=xV
  have t2:List.take g.st.length (aA g.frm)=aA g.frm:=List.take_of_length_le (by simp[g1])
  have t3:List.take g.st.length (aA g.who)=aA g.who:=List.take_of_length_le (by simp[g2])
  have t4:List.take g.st.length (bg ab)=bg ab:=List.take_of_length_le (by simp[hab])
  have t5:List.take g.st.length (bg nx)=bg nx:=List.take_of_length_le (by simp[hnx])
  refine av (aq 2 (ag:=some 1) rfl (Nat.zero_le _)) ?_
  simp only[go_sem,iO,Nat.le_refl,t1]
  refine av (aq 3 (ag:=none) rfl (Nat.zero_le _)) ?_
  simp only[go_sem,bV,g1,Nat.le_refl,t2]
  refine av (aq 4 (ag:=none) rfl (Nat.zero_le _)) ?_
  simp only[go_sem,bV,g2,Nat.le_refl,t3]
  refine av (aq 7 (ag:=none) rfl (Nat.zero_le _)) ?_
  simp only[go_sem,gr,hab,Nat.le_refl,t4]
  refine av (aq 8 (ag:=none) rfl (Nat.zero_le _)) ?_
  simp only[go_sem,gr,hnx,Nat.le_refl,t5]
  refine av (zi 5 (ds:=[.sl (some 1) (vw g.st),.sl none (bg ab),.sl none (bg nx),.sl none (aA g.frm),.sl none (aA g.who)]) rfl (Nat.zero_le _)) ?_
  simp only[go_sem]
  refine a6 (Γ:=tbl oG) d7 _ _ _ ?_
  simp only[go_sem,hk2]
  exact am (.inl rfl) [4,5] rfl (by simp only[AV.under,AV.unders,and_self]) rfl
 rw[if_pos hlt]at my
 have hk2:(k:Int)<g.st.length:=by omega
 refine al [8,23] (Γ:=tbl oG) d7 _ _ _ ?_
 simp only[go_sem,hk2]
 generalize hy:g.st.getD k []=y at *
 have hVy:Valid s y:=hG.val y (by rw[← hy,List.getD_eq_getElem?_getD,List.getElem?_eq_getElem hlt];exact List.getElem_mem _)
 have hyn:D.nth (vw g.st) k=stD y:=by rw[← hy];exact D.nth_map hlt
 have hyf:=DA hVy
 have acu:=hVy.l24
 have hal:(ik s y).length<=y.length:=sy s y y.length
 refine cW [] [] (pf:=[55,56,57]) (mf:=[]) mixed d7 Is fQ (il [0,1,2,3,4,5,6,7,8,9]) (by kernel_rfl) ?_
 simp only[go_sem,hk0,hlt,hk2,iO,hyn,stD]
 refine ah LJ (by simp) [aY s,stD y] _ rfl ⟨s,y,rfl,hVy,hyf,rfl⟩ (.inl rfl) ?_
 simp only[go_sem]
 refine av (cQ 10 none rfl (Nat.zero_le _)) ?_
 refine al [23] (Γ:=tbl oG) d7 _ _ _ ?_
 have hA:∀w∈ik s y,w<y.length/\eR s y w=true:=fun w hw=>ym.1 hw
 generalize ik s y=A at *
 simp only[go_sem,ba]
 generalize hin:inG s k y A g []=R at my
 refine ap (fun p:Nat×Gr×List Nat=>⟨an 141 [(2,.ptr 0 0 0),(3,.ptr 1 0 0),(6,.ptr 5 0 0),(7,.map 6),(8,.dat (.int .i64 k)),(9,.dat (.sl none (aF A))),(10,.sl 9 0 p.2.2.length),(45,.dat (.sl none (aF A))),(46,.dat (.int .i64 A.length)),(47,.dat (.int .i64 p.1))],Oc s x p.2.1 ab nx k++[.row none (aF p.2.2)],0,[]⟩)
  (fun p=>GrOk s p.2.1/\k<p.2.1.st.length/\p.2.1.st.getD k []=y/\p.1<=A.length/\p.2.2.length=p.1/\inG s k y (A.drop p.1) p.2.1 p.2.2=R) (fun p=>A.length - p.1) (0,g,[]) ⟨hG,hlt,hy,Nat.zero_le _,rfl,by rw[List.drop_zero];exact hin⟩ ?_ ?_
 ·exact a7 (by simp only[go_sem,Int.natCast_zero])
 clear hin
 clear hG hlt hy hk2 hk g1 g2 g3
 rintro ⟨j,g,l⟩ ⟨hG,hlt,hy,hj,hl,hin⟩
 simp only at hG hlt hy hj hl hin ⊢
 have g1:=hG.l1
 have g2:=hG.l2
 have g3:=hG.le
 have hk2:(k:Int)<g.st.length:=by omega
 have hyn:D.nth (vw g.st) k=stD y:=by rw[← hy];exact D.nth_map hlt
 cases hd:A.drop j with
 | nil =>
  obtain rfl:j=A.length:=aj hd hj
  have hj2:¬(A.length:Int)<A.length:=by omega
  rw[hd,inG]at hin
  subst hin
  simp only at my
  refine al [23] (Γ:=tbl oG) d7 _ _ _ ?_
  simp only[go_sem,hj2]
  refine av (aq 9 (ag:=none) rfl (Nat.zero_le _)) ?_
  have q1:List.take l.length (aF l)=aF l:=cF
  simp only[go_sem,ba,Nat.le_refl,q1]
  refine av (σ':=⟨an 141 [(2,.ptr 0 0 0),(3,.ptr 1 0 0),(6,.ptr 5 0 0),(7,.map 6),(8,.dat (.int .i64 k)),(9,.dat (.sl none (aF A))),(10,.dat (.sl none (aF l)))],Oc s x g ab nx k,0,[]⟩) ?_ ?_
  ·refine aP (own:=[_,_,_,_,_,_,_,_,_]) (ex:=[_]) (Nat.zero_le _) ?_ ?_ ?_
   ·simp only[go_sem]
   ·simp only[go_sem]
   ·simp only[go_sem,Obj.allUnder,Obj.under,AV.unders,AV.under]
  have q2:List.take k (bg ab)=bg ab:=by rw[← hab];exact r8
  have q3:List.take k (bg nx)=bg nx:=by rw[← hnx];exact r8
  have q4:(bg ab).length=k:=by simp[hab]
  have q5:(bg nx).length=k:=by simp[hnx]
  have q6:bg (ab++[A])=bg ab++[lI A]:=by simp
  have q7:bg (nx++[l])=bg nx++[lI l]:=by simp
  refine kL [(18,[5]),(21,[5])] [(8,[7]),(15,[8]),(0,[7]),(0,[8]),(1,[7]),(1,[8]),(2,[7]),(2,[8]),(3,[7]),(3,[8]),(4,[7]),(4,[8]),(5,[8]),(6,[7]),(6,[8]),(9,[7]),(9,[8]),(10,[7]),(10,[8]),(11,[7]),(11,[8]),(12,[7]),(13,[7]),(13,[8])] (pf:=[]) (mf:=[]) mixed d7 b0 fQ (.one 0 (.one 1 (.one 2 (.one 3 (.one 4 (.one 5 (.one 6 (.one 9 (.one 10 (.one 11 (.one 12 (.one 13 (.alt 7 (.alt 8 (.alt 14 (.one 15 (.one 16 (.one 17 (.one 18 (.one 19 (.one 20 (.one 21 .fin))))))) .stop) (.alt 14 (.one 8 (.one 15 (.one 16 (.one 17 (.one 18 (.one 19 (.one 20 (.one 21 .fin)))))))) .stop)) (.alt 14 (.alt 7 (.one 8 (.one 15 (.one 16 (.one 17 (.one 18 (.one 19 (.one 20 (.one 21 .fin)))))))) .stop) .stop)))))))))))))) (by kernel_rfl) ?_
  simp only[go_sem,q2,q3,q4,q5,Nat.le_refl]
  refine⟨?_,?_⟩ <;>
  ·refine⟨by omega,by omega,by omega,by omega,ac.2 (by omega),(k+1,g,ab++[A],nx++[l]),⟨hG,by simp only;omega,by simp[hab],by simp[hnx],?_⟩,by simp only;omega,?_⟩
   ·simp only
    rw[show 4097 - (k+1)=m by omega]
    exact my
   ·simp only[Oc,q6,q7]
    refine aP (own:=[_,_,_,_,_,_,_,_,_]) (ex:=[_,_]) (Nat.zero_le _) ?_ ?_ ?_
    ·simp only[go_sem,Int.natCast_add,Int.cast_ofNat_Int]
    ·simp only[go_sem]
    ·simp only[go_sem,Obj.allUnder,Obj.under,AV.unders,AV.under]
 | cons w r =>
 have Jv:=ao hd
 have hj2:(j:Int)<A.length:=by omega
 have hj0:(0:Int)<=j:=Int.natCast_nonneg j
 have hwn:D.nth (aF A) j=.int .i64 w:=ak hd
 obtain⟨hw,hwa⟩:=hA w (aN hd)
 have hVt:=sm hVy hw hwa
 rw[hd,inG]at hin
 generalize ht:cS s y w=t at *
 have hsn:mpF 0 (g.st++[t])=mpF 0 g.st++[(.str (wb t),.int .i64 (g.st.length:Nat))]:=by rw[y8,Nat.zero_add]
 have hKt:=n6 hVt
 have hKS:∀z∈g.st,KFit z:=fun z hz=>n6 (hG.val z hz)
 have HS:=GK hKt hKS
 have Aa:∀τ:TypeId,((mpF 0 g.st).all fun x=>D.isKeyP Tryz.prog τ .string x.1)=true:=fun τ=>yK
 refine al [11,12] (Γ:=tbl oG) d7 _ _ _ ?_
 simp only[go_sem,hj2,hj0,Jv,hwn,ba]
 refine cW [(11,[10])] [] (pf:=[55,56,57]) (mf:=[]) mixed d7 Is fQ (.one 0 (.one 1 (.one 2 (.one 3 (.one 4 (.one 5 (.one 6 (.one 7 (.one 8 (.alt 9 (.one 10 (.one 11 .fin)) (.alt 10 (.one 9 (.one 11 .fin)) .stop))))))))))) (by kernel_rfl) ?_
 generalize hK:fc [11,12] Tryz.prog (tbl oG) _ _=Q
 have hcl:∀σ σ',Le σ σ'->Q .normal σ'->Q .normal σ:=by
  subst hK
  intro σ σ' h1 h2
  exact av h1 h2
 suffices hQ1:Q .normal ⟨an 141 [(2,.ptr 0 0 0),(3,.ptr 1 0 0),(6,.ptr 5 0 0),(7,.map 6),(8,.dat (.int .i64 k)),(9,.dat (.sl none (aF A))),(10,.sl 9 0 l.length),(12,.dat (.int .i64 w)),(13,.ptr 10 0 0),(45,.dat (.sl none (aF A))),(46,.dat (.int .i64 A.length)),(47,.dat (.int .i64 j))],Oc s x g ab nx k++[.row none (aF l),stO t],0,[]⟩ by
  simp only[go_sem,hk0,hlt,hk2,iO,hyn,stD]
  refine⟨?_,?_⟩ <;>
  ·refine ah Kl (by simp) [aY s,stD y,.int .i64 w] _ rfl ⟨s,y,w,rfl,hVy,hyf,hw,rfl⟩ (.inl rfl) ?_
   simp only[go_sem,ht,stD]
   exact hcl _ _ (a7 (by simp only[go_sem])) hQ1
 subst hK
 clear hcl
 refine a6 (Γ:=tbl oG) d7 _ _ _ ?_
 simp only[go_sem]
 refine ah V9 (by simp) [stD t] _ rfl ⟨t,rfl,hKt,rfl⟩ (.inl rfl) ?_
 cases hix:jR g.st t with
 | some i =>
  rw[hix]at hin HS
  simp only at hin
  simp only[go_sem,Aa,HS,Option.map_some]
  refine⟨by omega,by omega,ac.2 (by omega),(j+1,g,l++[i]),⟨hG,hlt,hy,by simp only;omega,by simp[hl],?_⟩,by simp only;omega,?_⟩
  ·simp only
   rw[aE hd]
   exact hin
  ·have q1:aF (l++[i])=aF l++[D.int .i64 i]:=by simp
   have q2:List.take l.length (aF l)=aF l:=cF
   simp only[q1,q2,List.length_append,List.length_cons,List.length_nil]
   refine aP (own:=[_,_,_,_,_,_,_,_,_,_]) (ex:=[_,_]) (Nat.zero_le _) ?_ ?_ ?_
   ·simp only[go_sem,Int.natCast_add,Int.cast_ofNat_Int]
   ·simp only[go_sem]
   ·simp only[go_sem,Obj.allUnder,Obj.under,AV.unders,AV.under]
 | none =>
  rw[hix]at hin HS
  simp only at hin
  simp only[go_sem,Aa,HS,Option.map_none]
  by_cases h4:g.st.length=4096
  ·rw[if_pos h4]at hin
   have h4i:(g.st.length:Int)=4096:=by omega
   subst hin
   simp only at my
   have hV2:V=.tup [.top,.dat (.bool false)]:=by rw[← hRV];unfold qt;rw[← my]
   subst hV2
   simp only[go_sem,h4i]
   exact am (.inl rfl) [4,5] rfl (by simp only[AV.under,AV.unders,and_self]) rfl
  rw[if_neg h4]at hin
  have h4i:¬(g.st.length:Int)=4096:=by omega
  have dB:fG (.str (wb t)) (.int .i64 (g.st.length:Nat)) (mpF 0 g.st)=mpF 0 (g.st++[t]):=by rw[AU hKt hKS hix,hsn]
  have q1:List.take g.st.length (vw g.st)=vw g.st:=xV
  have q2:List.take g.st.length (aA g.frm)=aA g.frm:=by rw[← g1];exact dS
  have q3:List.take g.st.length (aA g.who)=aA g.who:=by rw[← g2];exact dS
  have q4:vw (g.st++[t])=vw g.st++[D.agg [.sl none (aG t)]]:=by simp[stD]
  have q5:aA (g.frm++[(k:Int)])=aA g.frm++[D.int .i64 k]:=by simp
  have q6:aA (g.who++[(w:Int)])=aA g.who++[D.int .i64 w]:=by simp
  have q7:aF (l++[g.st.length])=aF l++[D.int .i64 g.st.length]:=by simp
  have q8:List.take l.length (aF l)=aF l:=cF
  simp only[go_sem,h4i,Aa,dB]
  refine kL [(10,[5])] [(7,[2]),(0,[2]),(1,[2]),(2,[2]),(3,[2]),(5,[2])] (pf:=[]) (mf:=[]) mixed d7 b0 fQ (.one 0 (.one 1 (.one 2 (.one 3 (.one 4 (.one 5 (.one 6 (.one 7 (.one 8 (.one 9 (.one 10 .fin))))))))))) (by kernel_rfl) ?_
  simp only[go_sem,iO,q1,Nat.le_refl]
  refine⟨by omega,by omega,?_⟩
  refine kL [(18,[5]),(21,[5])] [(8,[3]),(15,[4]),(0,[3]),(0,[4]),(1,[3]),(1,[4]),(2,[3]),(2,[4]),(3,[3]),(3,[4]),(4,[3]),(4,[4]),(5,[4]),(6,[3]),(6,[4]),(9,[3]),(9,[4]),(10,[3]),(10,[4]),(11,[3]),(11,[4]),(12,[3]),(13,[3]),(13,[4])] (pf:=[]) (mf:=[]) mixed d7 b0 fQ (.one 0 (.one 1 (.one 2 (.one 3 (.one 4 (.one 5 (.one 6 (.one 9 (.one 10 (.one 11 (.one 12 (.one 13 (.alt 7 (.alt 8 (.alt 14 (.one 15 (.one 16 (.one 17 (.one 18 (.one 19 (.one 20 (.one 21 .fin))))))) .stop) (.alt 14 (.one 8 (.one 15 (.one 16 (.one 17 (.one 18 (.one 19 (.one 20 (.one 21 .fin)))))))) .stop)) (.alt 14 (.alt 7 (.one 8 (.one 15 (.one 16 (.one 17 (.one 18 (.one 19 (.one 20 (.one 21 .fin)))))))) .stop) .stop)))))))))))))) (by kernel_rfl) ?_
  simp only[go_sem,bV,q2,q3,g1,g2,Nat.le_refl,ba,q8]
  refine⟨?_,?_⟩ <;>
  ·refine⟨by omega,by omega,by omega,by omega,by omega,by omega,ac.2 (by omega),(j+1,⟨g.st++[t],g.frm++[(k:Int)],g.who++[(w:Int)]⟩,l++[g.st.length]),⟨y7 hG hVt h4 _ _,by simp only[List.length_append];omega,?_,by simp only;omega,by simp[hl],?_⟩,by simp only;omega,?_⟩
   ·simp only
    rw[List.getD_eq_getElem?_getD,List.getElem?_append_left hlt,← List.getD_eq_getElem?_getD]
    exact hy
   ·simp only
    rw[aE hd]
    exact hin
   ·simp only[q4,q5,q6,q7,Oc,List.length_append,List.length_cons,List.length_nil]
    refine aP (own:=[_,_,_,_,_,_,_,_,_,_]) (ex:=[_,_,_,_,_]) (Nat.zero_le _) ?_ ?_ ?_
    ·simp only[go_sem,Int.natCast_add,Int.cast_ofNat_Int]
    ·simp only[go_sem]
    ·simp only[go_sem,Obj.allUnder,Obj.under,AV.unders,AV.under]
inductive Rch (s:PSys) (x:PSt):PSt->Prop
 | refl:Rch s x x
 | step {y:PSt} {w:Nat}:Rch s x y->w<y.length->eR s y w=true->Rch s x (cS s y w)
theorem Rch.trans{s:PSys}{x y z:PSt}(h:Rch s x y)(k:Rch s y z):Rch s x z:=by
 induction k with
 | refl=>exact h
 | step _ h1 h2 ih=>exact .step ih h1 h2
theorem Rch.val{s:PSys}{x y:PSt}(h:Rch s x y)(hV:Valid s x):Valid s y:=by
 induction h with
 | refl=>exact hV
 | step _ h1 h2 ih=>exact sm ih h1 h2
theorem Rch.len{s:PSys}{x y:PSt}(h:Rch s x y):y.length=x.length:=by
 induction h with
 | refl=>rfl
 | step _ h1 h2 ih=>rw[nY];exact ih
theorem Br{S:List PSt}{t:PSt}{i:Nat}(h:jR S t=some i):∃hi:i<S.length,S[i]=t:=by
 unfold jR at h
 rw[List.findIdx?_eq_some_iff_getElem]at h
 obtain⟨hi,h1,_⟩:=h
 exact⟨hi,by simpa using h1⟩
theorem Gb{S:List PSt}{t:PSt}{i:Nat}(h:jR S t=some i):t∈S:=by
 obtain⟨hi,rfl⟩:=Br h
 exact List.getElem_mem hi
theorem kP{S:List PSt}{t:PSt}:jR S t=none↔t∉S:=by
 unfold jR
 rw[List.findIdx?_eq_none_iff]
 constructor
 ·intro h hm;simpa using h t hm
 ·intro h y hy
  simp only[decide_eq_false_iff_not]
  rintro rfl;exact h hy
theorem ta{S:List PSt}{t:PSt}(h:t∈S):∃i,jR S t=some i:=by
 cases e:jR S t with
 | none=>exact absurd h (kP.1 e)
 | some i=>exact⟨i,rfl⟩
theorem sD{S T:List PSt}{t:PSt}{i:Nat}(h:jR S t=some i):jR (S++T) t=some i:=by
 unfold jR at h ⊢
 rw[List.findIdx?_append,h];rfl
theorem Fr{S:List PSt}{t:PSt}(h:jR S t=none):jR (S++[t]) t=some S.length:=by
 unfold jR at h ⊢
 rw[List.findIdx?_append,h]
 simp[List.findIdx?_cons]
def uI(s:PSys)(S:List PSt)(y:PSt):List Nat:=(ik s y).map fun w=>(jR S (cS s y w)).getD 0
def Closed1(s:PSys)(S:List PSt)(y:PSt):Prop:=∀w∈ik s y,cS s y w∈S
theorem Closed1.app{s:PSys}{S T:List PSt}{y:PSt}(h:Closed1 s S y):Closed1 s (S++T) y:=fun w hw=>List.mem_append_left _ (h w hw)
theorem AD{s:PSys}{S T:List PSt}{y:PSt}(h:Closed1 s S y):uI s (S++T) y=uI s S y:=by
 unfold uI
 refine List.map_congr_left fun w hw=>?_
 obtain⟨i,hi⟩:=ta (h w hw)
 rw[sD hi,hi]
structure GInv (s:PSys) (x:PSt) (g:Gr):Prop where
 ok:GrOk s g
 hd:∃T,g.st=x :: T
 nd:g.st.Nodup
 rch:∀y∈g.st,Rch s x y
 prov:∀i,0<i->i<g.st.length->∃a w:Nat,g.frm.getD i 0=a/\g.who.getD i 0=w/\a<i/\w<(g.st.getD a []).length/\eR s (g.st.getD a []) w=true/\g.st.getD i []=cS s (g.st.getD a []) w
 hd2:g.frm.getD 0 0=-1/\g.who.getD 0 0=-1
theorem VA{s:PSys}{x:PSt}(hV:Valid s x):GInv s x (g0 x) where
 ok:=⟨rfl,rfl,by simp[g0],by simpa [g0] using hV⟩
 hd:=⟨[],rfl⟩
 nd:=by simp[g0]
 rch:=by simp only[g0,List.mem_singleton];rintro y rfl;exact .refl
 prov:=by simp only[g0,List.length_singleton];intro i h1 h2;omega
 hd2:=⟨rfl,rfl⟩
theorem fS{α:Type}{S:List α}{d t:α}{i:Nat}(h:i<S.length):(S++[t]).getD i d=S.getD i d:=by
 rw[List.getD_eq_getElem?_getD,List.getElem?_append_left h,← List.getD_eq_getElem?_getD]
theorem rS{α:Type}{S:List α}{d t:α}:(S++[t]).getD S.length d=t:=by
 rw[List.getD_eq_getElem?_getD,List.getElem?_append_right (Nat.le_refl _)];simp
theorem ep{S:List PSt}{i:Nat}(h:i<S.length):S.getD i []∈S:=by
 rw[List.getD_eq_getElem?_getD,List.getElem?_eq_getElem h];exact List.getElem_mem h
theorem GInv.push{s:PSys}{x:PSt}{g:Gr}(h:GInv s x g){k w:Nat}(hk:k<g.st.length)(hw:w<(g.st.getD k []).length)(ha:eR s (g.st.getD k []) w=true)
  (hn:jR g.st (cS s (g.st.getD k []) w)=none) (hl:g.st.length≠4096):GInv s x ⟨g.st++[cS s (g.st.getD k []) w],g.frm++[(k:Int)],g.who++[(w:Int)]⟩:=by
 have hVk:=h.ok.val _ (ep hk)
 refine⟨y7 h.ok (sm hVk hw ha) hl _ _,?_,?_,?_,?_,?_⟩
 ·obtain⟨T,hT⟩:=h.hd
  exact⟨T++[cS s (g.st.getD k []) w],by simp only[hT,List.cons_append]⟩
 ·simp only
  rw[List.nodup_append]
  refine⟨h.nd,by simp,fun a ha b hb=>?_⟩
  rw[List.mem_singleton]at hb
  subst hb
  rintro rfl
  exact kP.1 hn ha
 ·intro y hy
  rcases List.mem_append.1 hy with hy|hy
  ·exact h.rch y hy
  ·rw[List.mem_singleton.1 hy]
   exact .step (h.rch _ (ep hk)) hw ha
 ·intro i h0 hi
  simp only[List.length_append,List.length_singleton]at hi ⊢
  rcases Nat.lt_or_ge i g.st.length with hlt|hge
  ·obtain⟨a,v,e1,e2,e3,e4,e5,e6⟩:=h.prov i h0 hlt
   refine⟨a,v,?_,?_,e3,?_⟩
   ·rw[fS (by rw[h.ok.l1];exact hlt)];exact e1
   ·rw[fS (by rw[h.ok.l2];exact hlt)];exact e2
   ·rw[fS (i:=a) (by omega),fS hlt];exact⟨e4,e5,e6⟩
  ·obtain rfl:i=g.st.length:=by omega
   refine⟨k,w,?_,?_,hk,?_⟩
   ·rw[← h.ok.l1];exact rS
   ·rw[← h.ok.l2];exact rS
   ·rw[fS hk,rS];exact⟨hw,ha,rfl⟩
 ·have hp:0<g.st.length:=by omega
  have h1:=h.ok.l1
  have h2:=h.ok.l2
  simp only
  rw[fS (by omega),fS (by omega)]
  exact h.hd2
theorem Dw{s:PSys}{x:PSt}{k:Nat}{y:PSt}:∀(ws:List Nat) (g:Gr) (nx:List Nat),(∀w∈ws,w<y.length/\eR s y w=true)->GInv s x g->k<g.st.length->g.st.getD k []=y ->
  match inG s k y ws g nx with
  | some (g',nx')=>GInv s x g'/\(∃T,g'.st=g.st++T)/\(∀w∈ws,cS s y w∈g'.st)/\nx'=nx++ws.map fun w=>(jR g'.st (cS s y w)).getD 0
  | none=>∃L:List PSt,L.length=4097/\L.Nodup/\∀z∈L,Rch s x z
 | [],g,nx,_,hG,_,_=>by
  simp only[inG]
  exact⟨hG,⟨[],by simp⟩,by simp,by simp⟩
 | w :: ws,g,nx,hws,hG,hk,hy=>by
  obtain⟨hw,ha⟩:=hws w (by simp)
  have aas:∀v∈ws,v<y.length/\eR s y v=true:=fun v hv=>hws v (by simp[hv])
  simp only[inG]
  cases hi:jR g.st (cS s y w) with
  | some i =>
   simp only
   have ih:=Dw ws g (nx++[i]) aas hG hk hy
   revert ih
   cases inG s k y ws g (nx++[i]) with
   | none=>exact id
   | some p =>
    obtain⟨g',nx'⟩:=p
    simp only
    rintro ⟨h1,⟨T,hT⟩,h3,h4⟩
    refine⟨h1,⟨T,hT⟩,?_,?_⟩
    ·intro v hv
     rcases List.mem_cons.1 hv with rfl|hv
     ·rw[hT];exact List.mem_append_left _ (Gb hi)
     ·exact h3 v hv
    ·rw[h4,List.map_cons,hT,sD hi];simp
  | none =>
   simp only
   subst hy
   by_cases h4:g.st.length=4096
   ·rw[if_pos h4]
    refine⟨g.st++[cS s (g.st.getD k []) w],by simp[h4],?_,?_⟩
    ·rw[List.nodup_append]
     refine⟨hG.nd,by simp,fun a ha b hb=>?_⟩
     rw[List.mem_singleton]at hb
     subst hb
     rintro rfl
     exact kP.1 hi ha
    ·intro z hz
     rcases List.mem_append.1 hz with hz|hz
     ·exact hG.rch z hz
     ·rw[List.mem_singleton.1 hz]
      exact .step (hG.rch _ (ep hk)) hw ha
   ·rw[if_neg h4]
    have hG':=hG.push hk hw ha hi h4
    have ih:=Dw (y:=g.st.getD k []) ws _ (nx++[g.st.length]) aas hG' (show k<(g.st++[cS s (g.st.getD k []) w]).length by rw[List.length_append];omega) (by simp only;exact fS hk)
    revert ih
    cases inG s k (g.st.getD k []) ws ⟨g.st++[cS s (g.st.getD k []) w],g.frm++[(k:Int)],g.who++[(w:Int)]⟩ (nx++[g.st.length]) with
    | none=>exact id
    | some p =>
     obtain⟨g',nx'⟩:=p
     simp only
     rintro ⟨h1,⟨T,hT⟩,h3,h5⟩
     refine⟨h1,⟨cS s (g.st.getD k []) w :: T,by rw[hT];simp only[List.append_assoc,List.cons_append,List.nil_append]⟩,?_,?_⟩
     ·intro v hv
      rcases List.mem_cons.1 hv with rfl|hv
      ·rw[hT];simp
      ·exact h3 v hv
     ·rw[h5,List.map_cons,hT,sD (Fr hi)];simp
theorem gi{S:List PSt}{k:Nat}(h:k<S.length):S.take (k+1)=S.take k++[S.getD k []]:=by
 rw[List.take_add_one,List.getElem?_eq_getElem h,List.getD_eq_getElem?_getD,List.getElem?_eq_getElem h];rfl
theorem CJ{s:PSys}{x:PSt}:∀(n k:Nat) (g:Gr) (ab nx:List (List Nat)),n+k=4097->GInv s x g->k<=g.st.length->ab=(g.st.take k).map (ik s)->nx=(g.st.take k).map (uI s g.st)->(∀y∈g.st.take k,Closed1 s g.st y) ->
  match NA s n k g ab nx with
  | some (g',ab',nx')=>GInv s x g'/\(∀y∈g'.st,Closed1 s g'.st y)/\ab'=g'.st.map (ik s)/\nx'=g'.st.map (uI s g'.st)
  | none=>∃L:List PSt,L.length=4097/\L.Nodup/\∀z∈L,Rch s x z
 | 0,k,g,ab,nx,hn,hG,hk,_,_,_=>by
  have:=hG.ok.le
  omega
 | n+1,k,g,ab,nx,hn,hG,hk,hab,hnx,hcl=>by
  simp only[NA]
  by_cases hlt:k<g.st.length
  ·rw[if_pos hlt]
   have h1:=Dw (s:=s) (x:=x) (k:=k) (y:=g.st.getD k []) (ik s (g.st.getD k [])) g [] (fun w hw=>ym.1 hw) hG hlt rfl
   revert h1
   cases inG s k (g.st.getD k []) (ik s (g.st.getD k [])) g [] with
   | none=>exact id
   | some p =>
    obtain⟨g',l⟩:=p
    simp only
    rintro ⟨h1,⟨T,hT⟩,h3,h4⟩
    have eH:k<g'.st.length:=by rw[hT,List.length_append];omega
    have htk:g'.st.take k=g.st.take k:=by rw[hT,List.take_append_of_le_length hk]
    have hgd:g'.st.getD k []=g.st.getD k []:=by rw[hT,List.getD_eq_getElem?_getD,List.getElem?_append_left hlt,← List.getD_eq_getElem?_getD]
    refine CJ n (k+1) g' _ _ (by omega) h1 eH ?_ ?_ ?_
    ·rw[gi eH,htk,hgd,List.map_append,hab];rfl
    ·rw[gi eH,htk,hgd,List.map_append,hnx,h4]
     congr 1
     refine List.map_congr_left fun y hy=>?_
     rw[hT];exact(AD (hcl y hy)).symm
    ·rw[gi eH,htk,hgd]
     intro y hy
     rcases List.mem_append.1 hy with hy|hy
     ·rw[hT];exact(hcl y hy).app
     ·rw[List.mem_singleton.1 hy];exact h3
  ·rw[if_neg hlt]
   have e:g.st.take k=g.st:=List.take_of_length_le (by omega)
   rw[e]at hab hnx hcl
   simp only
   exact⟨hG,hcl,hab,hnx⟩
theorem nA{s:PSys}{x:PSt}(hV:Valid s x){g:Gr}{ab nx:List (List Nat)}(h:ib s x=some (g,ab,nx)):GInv s x g/\(∀y∈g.st,Closed1 s g.st y)/\ab=g.st.map (ik s)/\nx=g.st.map (uI s g.st):=by
 have:=CJ (s:=s) (x:=x) 4097 0 (g0 x) [] [] rfl (VA hV) (Nat.zero_le _) rfl rfl (by simp)
 unfold ib at h
 rw[h]at this
 exact this
theorem lN{s:PSys}(h:aT s=0):Valid s (mF s):=AP (eJ h)
theorem kc{l:List Bool}:(b6 l).length=l.length:=by simp
abbrev kV(n:Nat)(g:Nat->Bool):List Bool:=(List.range n).map g
theorem kh{n:Nat}{g:Nat->Bool}:(kV n g).length=n:=by simp
theorem Gm{n i:Nat}{g:Nat->Bool}(h:i<n):D.nth (b6 (kV n g)) i=.bool (g i):=by
 simp[D.nth,List.getD_eq_getElem?_getD,h]
theorem Fb{n i:Nat}{g g':Nat->Bool}{v:Bool}(h:i<n)(hv:g' i=v)(ho:∀j,j<n->j≠i->g' j=g j):(b6 (kV n g)).set i (.bool v)=b6 (kV n g'):=by
 refine List.ext_getElem (by simp) fun j h1 h2=>?_
 simp only[List.length_map,List.length_range]at h2
 rw[List.getElem_set]
 split
 ·rename_i e;subst e;simp[hv]
 ·rename_i e;simp[ho j h2 (fun e'=>e e'.symm)]
theorem A6{n:Nat}{g g':Nat->Bool}(h:∀j,j<n->g' j=g j):kV n g'=kV n g:=List.map_congr_left fun j hj=>h j (List.mem_range.1 hj)
theorem Gf{n:Nat}:List.replicate n (D.bool false)=b6 (kV n fun _=>false):=by
 simp[kV,List.map_const']
inductive Fre (ab nx:List (List Nat)) (w:Nat):Nat->Prop
 | here {i:Nat}:w∈ab.getD i []->Fre ab nx w i
 | next {i j:Nat}:j∈nx.getD i []->Fre ab nx w j->Fre ab nx w i
def Ae(n:Nat)(B:Nat->Bool):Nat:=(List.range n).countP fun i=>!B i
def rc(B:Nat->Bool)(a:Nat):Nat->Bool:=fun i=>if i=a then true else B i
theorem ss:∀{n:Nat} {B:Nat->Bool} {a:Nat},a<n->B a=false->Ae n (rc B a)+1=Ae n B
 | 0,B,a,h,_=>by omega
 | n+1,B,a,h,hb=>by
  unfold Ae
  rw[List.range_succ,List.countP_append,List.countP_append]
  have hs:∀m,m<=a->(List.range m).countP (fun i=>!rc B a i)=(List.range m).countP (fun i=>!B i):=by
   intro m hm
   refine List.countP_congr fun i hi=>?_
   have:=List.mem_range.1 hi
   simp only[rc,if_neg (show ¬i=a by omega)]
  by_cases e:a=n
  ·subst e
   rw[hs a (Nat.le_refl a)]
   simp[rc,hb]
  ·have ih:=ss (n:=n) (B:=B) (a:=a) (by omega) hb
   unfold Ae at ih
   have:rc B a n=B n:=by unfold rc;rw[if_neg (fun h=>e h.symm)]
   simp only[List.countP_singleton,this]
   omega
theorem Mb(n:Nat)(B:Nat->Bool):Ae n B<=n:=by
 have:=List.countP_le_length (p:=fun i=>!B i) (l:=List.range n)
 simpa [Ae] using this
structure FrOk (n:Nat) (ab nx:List (List Nat)):Prop where
 n4:n<=4096
 la:ab.length=n
 ln:nx.length=n
 ra:∀l∈ab,l.length<=24
 rn:∀l∈nx,l.length<=24/\∀v∈l,v<n
structure BefOk (n:Nat) (nx:List (List Nat)) (k:Nat) (l':List Nat) (M:List (List Nat)):Prop where
 len:M.length=n
 mem:∀v i,v<n->(i∈M.getD v []↔(i<k/\v∈nx.getD i [])∨(i=k/\v∈l'))
 bnd:∀v,(M.getD v []).length<=24*k+l'.length
theorem tc{M:List (List Nat)}{v u:Nat}{l:List Nat}(hv:v<M.length):(M.set v l).getD u []=if v=u then l else M.getD u []:=by
 rw[List.getD_eq_getElem?_getD,List.getElem?_set]
 by_cases e:v=u
 ·subst e;simp[hv]
 ·simp[e,List.getD_eq_getElem?_getD]
theorem BefOk.push{n:Nat}{nx:List (List Nat)}{k:Nat}{l':List Nat}{M:List (List Nat)}(h:BefOk n nx k l' M){v:Nat}(hv:v<n):BefOk n nx k (l'++[v]) (M.set v (M.getD v []++[k])):=by
 have hvl:v<M.length:=by rw[h.len];exact hv
 refine⟨by rw[List.length_set];exact h.len,fun u i hu=>?_,fun u=>?_⟩
 ·rw[tc hvl]
  by_cases e:v=u
  ·subst e
   rw[if_pos rfl,List.mem_append,h.mem v i hu]
   simp only[List.mem_singleton,List.mem_append,or_true,and_true]
   constructor
   ·rintro ((h1|h1)|h1)
    ·exact .inl h1
    ·exact .inr h1.1
    ·exact .inr h1
   ·rintro (h1|h1)
    ·exact .inl (.inl h1)
    ·exact .inr h1
  ·rw[if_neg e,h.mem u i hu]
   simp only[List.mem_append,List.mem_singleton]
   constructor
   ·rintro (h1|h1)
    ·exact .inl h1
    ·exact .inr ⟨h1.1,.inl h1.2⟩
   ·rintro (h1|⟨h1,h2|h2⟩)
    ·exact .inl h1
    ·exact .inr ⟨h1,h2⟩
    ·exact absurd h2.symm e
 ·rw[tc hvl]
  have h1:=h.bnd v
  have h2:=h.bnd u
  split
  ·simp only[List.length_append,List.length_singleton];omega
  ·simp only[List.length_append,List.length_singleton];omega
theorem BefOk.next{n:Nat}{nx:List (List Nat)}{k:Nat}{l:List Nat}{M:List (List Nat)}(h:BefOk n nx k l M)(hl:nx.getD k []=l)(h24:l.length<=24):BefOk n nx (k+1) [] M:=by
 refine⟨h.len,fun v i hv=>?_,fun v=>?_⟩
 ·rw[h.mem v i hv]
  simp only[List.not_mem_nil,and_false,or_false]
  constructor
  ·rintro (⟨h1,h2⟩|⟨rfl,h2⟩)
   ·exact⟨by omega,h2⟩
   ·exact⟨by omega,by rw[hl];exact h2⟩
  ·rintro ⟨h1,h2⟩
   by_cases e:i=k
   ·subst e;rw[hl]at h2;exact .inr ⟨rfl,h2⟩
   ·exact .inl ⟨by omega,h2⟩
 ·have:=h.bnd v
  simp only[List.length_nil]
  omega
theorem aaO{n:Nat}{nx:List (List Nat)}:BefOk n nx 0 [] (List.replicate n []):=by
 refine⟨by simp,fun v i hv=>?_,fun v=>?_⟩
 ·simp[List.getD_eq_getElem?_getD,hv]
 ·rw[List.getD_eq_getElem?_getD,List.getElem?_replicate]
  split <;> simp
structure Fst (n k:Nat) (ab:List (List Nat)) (w:Nat) (B:Nat->Bool) (q:List Nat):Prop where
 b:∀i,B i=true↔i<k/\w∈ab.getD i []
 qm:∀i,i∈q↔i<k/\w∈ab.getD i []
 cnt:2*Ae n B+q.length<=2*n
theorem aaN{n:Nat}{ab:List (List Nat)}{w:Nat}:Fst n 0 ab w (fun _=>false) []:=by
 refine⟨by simp,by simp,?_⟩
 have:=Mb n fun _=>false
 simp only[List.length_nil];omega
theorem Fst.yes{n k:Nat}{ab:List (List Nat)}{w:Nat}{B:Nat->Bool}{q:List Nat}(h:Fst n k ab w B q)(hk:k<n)(hw:w∈ab.getD k []):Fst n (k+1) ab w (rc B k) (q++[k]):=by
 refine⟨fun i=>?_,fun i=>?_,?_⟩
 ·unfold rc
  split
  ·rename_i e;subst e
   exact⟨fun _=>⟨Nat.lt_succ_self _,hw⟩,fun _=>rfl⟩
  ·rename_i e
   rw[h.b]
   constructor
   ·rintro ⟨h1,h2⟩;exact⟨by omega,h2⟩
   ·rintro ⟨h1,h2⟩;exact⟨by omega,h2⟩
 ·rw[List.mem_append,h.qm,List.mem_singleton]
  constructor
  ·rintro (⟨h1,h2⟩|rfl)
   ·exact⟨by omega,h2⟩
   ·exact⟨by omega,hw⟩
  ·rintro ⟨h1,h2⟩
   by_cases e:i=k
   ·exact .inr e
   ·exact .inl ⟨by omega,h2⟩
 ·have hf:B k=false:=by
   cases hb:B k with
   | false=>rfl
   | true=>have:=((h.b k).1 hb).1;omega
  have:=ss hk hf
  have h3:=h.cnt
  simp only[List.length_append,List.length_singleton];omega
theorem Fst.no{n k:Nat}{ab:List (List Nat)}{w:Nat}{B:Nat->Bool}{q:List Nat}(h:Fst n k ab w B q)(hw:¬w∈ab.getD k []):Fst n (k+1) ab w B q:=by
 have key:∀i,(i<k/\w∈ab.getD i [])↔(i<k+1/\w∈ab.getD i []):=by
  intro i
  constructor
  ·rintro ⟨h1,h2⟩;exact⟨by omega,h2⟩
  ·rintro ⟨h1,h2⟩
   by_cases e:i=k
   ·subst e;exact absurd h2 hw
   ·exact⟨by omega,h2⟩
 exact⟨fun i=>(h.b i).trans (key i),fun i=>(h.qm i).trans (key i),h.cnt⟩
structure Snd (n:Nat) (ab nx:List (List Nat)) (w:Nat) (B:Nat->Bool) (q:List Nat) (v:Option Nat) (done:List Nat):Prop where
 snd:∀i,B i=true->i<n/\Fre ab nx w i
 able:∀i,w∈ab.getD i []->B i=true
 qm:∀i∈q,B i=true
 cl:∀u,B u=true->u∈q∨v=some u∨∀i,u∈nx.getD i []->B i=true
 cv:∀u,v=some u->B u=true/\∀i∈done,B i=true
theorem Fst.fin{n:Nat}{ab nx:List (List Nat)}{w:Nat}{B:Nat->Bool}{q:List Nat}(h:Fst n n ab w B q)(ha:ab.length=n):Snd n ab nx w B q none []:=by
 refine⟨fun i hi=>?_,fun i hi=>?_,fun i hi=>?_,fun u hu=>.inl ?_,by simp⟩
 ·obtain⟨h1,h2⟩:=(h.b i).1 hi
  exact⟨h1,.here h2⟩
 ·refine(h.b i).2 ⟨?_,hi⟩
  rcases Nat.lt_or_ge i n with h1|h1
  ·exact h1
  ·rw[List.getD_eq_getElem?_getD,List.getElem?_eq_none (by omega)]at hi
   simp at hi
 ·exact(h.b i).2 ((h.qm i).1 hi)
 ·exact(h.qm u).2 ((h.b u).1 hu)
theorem Snd.start{n:Nat}{ab nx:List (List Nat)}{w:Nat}{B:Nat->Bool}{v:Nat}{q:List Nat}(h:Snd n ab nx w B (v :: q) none []):Snd n ab nx w B q (some v) []:=by
 refine⟨h.snd,h.able,fun i hi=>h.qm i (by simp[hi]),fun u hu=>?_,fun u hu=>?_⟩
 ·rcases h.cl u hu with h1|h1|h1
  ·rcases List.mem_cons.1 h1 with rfl|h1
   ·exact .inr (.inl rfl)
   ·exact .inl h1
  ·cases h1
  ·exact .inr (.inr h1)
 ·cases hu
  exact⟨h.qm v (by simp),by simp⟩
theorem Snd.old{n:Nat}{ab nx:List (List Nat)}{w:Nat}{B:Nat->Bool}{v:Nat}{q done:List Nat}(h:Snd n ab nx w B q (some v) done){i:Nat}(hi:B i=true):Snd n ab nx w B q (some v) (done++[i]):=by
 refine⟨h.snd,h.able,h.qm,h.cl,fun u hu=>⟨(h.cv u hu).1,fun k hk=>?_⟩⟩
 rcases List.mem_append.1 hk with hk|hk
 ·exact(h.cv u hu).2 k hk
 ·rw[List.mem_singleton.1 hk];exact hi
theorem iG{B:Nat->Bool}{a i:Nat}(h:B i=true):rc B a i=true:=by
 unfold rc;split
 ·rfl
 ·exact h
theorem Snd.new{n:Nat}{ab nx:List (List Nat)}{w:Nat}{B:Nat->Bool}{v:Nat}{q done:List Nat}(h:Snd n ab nx w B q (some v) done){i:Nat}(hi:v∈nx.getD i [])(hin:i<n):Snd n ab nx w (rc B i) (q++[i]) (some v) (done++[i]):=by
 have jM:rc B i i=true:=by unfold rc;rw[if_pos rfl]
 have hv:=(h.cv v rfl).1
 refine⟨fun k hk=>?_,fun k hk=>iG (h.able k hk),fun k hk=>?_,fun u hu=>?_,fun u hu=>⟨iG (h.cv u hu).1,fun k hk=>?_⟩⟩
 ·unfold rc at hk
  split at hk
  ·rename_i e;subst e
   exact⟨hin,.next hi (h.snd v hv).2⟩
  ·exact h.snd k hk
 ·rcases List.mem_append.1 hk with hk|hk
  ·exact iG (h.qm k hk)
  ·rw[List.mem_singleton.1 hk];exact jM
 ·by_cases e:u=i
  ·subst e;exact .inl (by simp)
  ·have hu':B u=true:=by
    unfold rc at hu
    rw[if_neg e]at hu
    exact hu
   rcases h.cl u hu' with h1|h1|h1
   ·exact .inl (List.mem_append_left _ h1)
   ·exact .inr (.inl h1)
   ·exact .inr (.inr fun k hk=>iG (h1 k hk))
 ·rcases List.mem_append.1 hk with hk|hk
  ·exact iG ((h.cv u hu).2 k hk)
  ·rw[List.mem_singleton.1 hk];exact jM
theorem Snd.stop{n:Nat}{ab nx:List (List Nat)}{w:Nat}{B:Nat->Bool}{v:Nat}{q done:List Nat}(h:Snd n ab nx w B q (some v) done)(hd:∀i,v∈nx.getD i []->i∈done):Snd n ab nx w B q none []:=by
 refine⟨h.snd,h.able,h.qm,fun u hu=>?_,by simp⟩
 rcases h.cl u hu with h1|h1|h1
 ·exact .inl h1
 ·cases h1
  exact .inr (.inr fun i hi=>(h.cv v rfl).2 i (hd i hi))
 ·exact .inr (.inr h1)
theorem Snd.done{n:Nat}{ab nx:List (List Nat)}{w:Nat}{B:Nat->Bool}(h:Snd n ab nx w B [] none [])(i:Nat):B i=true↔Fre ab nx w i:=by
 refine⟨fun hi=>(h.snd i hi).2,fun hf=>?_⟩
 induction hf with
 | here hw=>exact h.able _ hw
 | next hj _ ih =>
  rcases h.cl _ ih with h1|h1|h1
  ·cases h1
  ·cases h1
  ·exact h1 _ hj
theorem xT{n:Nat}{B:Nat->Bool}{a:Nat}(h:a<n):(b6 (kV n B)).set a (.bool true)=b6 (kV n (rc B a)):=by
 refine Fb h (by simp[rc]) fun j _ hne=>by simp[rc,hne]
def La(ds:List D)(v:AV):Prop:=∃(l:List Int) (x:Int),ds=[.sl none (l.map (.int .i64)),.int .i64 x]/\l.length<4611686018427387904/\v=.dat (.int .i64 (dF x 0 l))
theorem L5:OkF Tryz.prog 78 (au La):=by
 refine az Tryz.func78 rfl (by decide) ?_
 rintro ds v ⟨l,x,rfl,hl,rfl⟩
 generalize hv:dF x 0 l=V
 refine a6 (Γ:=tbl []) ae _ _ _ ?_
 have fin:∀s own (b c:Int),b=c->s.getD 4 .top=.dat (.int .i64 b)->post Tryz.prog Tryz.f78 (.dat (.int .i64 c)) [] [] .ret ⟨s,own,0,[]⟩:=fun s own b c e h=>by
  subst e
  exact am (.inl rfl) [4] rfl trivial (by simp only[cM,h];rfl)
 simp only[go_sem,Tryz.ntmps78]
 refine ap (fun k:Nat=>⟨an 19 [(0,.dat (.sl none (l.map (.int .i64)))),(1,.dat (.int .i64 x)),(4,.dat (.int .i64 0)),(7,.dat (.int .i64 l.length)),(8,.dat (.int .i64 k))],[],0,[]⟩)
  (fun k=>k<=l.length/\dF x k (l.drop k)=V) (fun k=>l.length - k) 0 ⟨Nat.zero_le _,hv⟩ ?_ ?_
 ·exact a7 (by simp only[go_sem,Int.natCast_zero])
 ·rintro k ⟨hk,hI⟩
  refine a6 (Γ:=tbl []) ae _ _ _ ?_
  cases hd:l.drop k with
  | nil =>
   have:=aj hd hk
   have hk2:¬(k:Int)<l.length:=by omega
   simp only[go_sem,hk2]
   refine fin _ _ _ _ ?_ rfl
   rw[← hI,hd];rfl
  | cons c q =>
   have hlt:=ao hd
   have hk2:(k:Int)<l.length:=by omega
   have hk0:(0:Int)<=k:=Int.natCast_nonneg k
   have hn:=ak (f:=.int .i64) hd
   rw[hd,dF]at hI
   by_cases he:x=c
   ·simp only[go_sem,hk2,hk0,hn,he]
    rw[if_pos he]at hI
    exact fin _ _ _ _ hI rfl
   ·simp only[go_sem,hk2,hk0,hn,he]
    rw[if_neg he]at hI
    refine⟨ac.2 (by omega),k+1,⟨by omega,by rw[aE hd];exact hI⟩,by omega,?_⟩
    exact a7 (by simp only[go_sem,Int.natCast_add,Int.cast_ofNat_Int])
end Go.AM

