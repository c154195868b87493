/- Own work over the model of the kit. -/
import Derived.Test.YtmmbjdgmhdjbjaaGreatDoorD8
import Derived.Test.YtmmbjdgmhdjbjaaGreatDoorD9
set_option linter.unnecessarySimpa false
set_option linter.unusedSimpArgs false
set_option linter.unusedVariables false
namespace Go.AM
open Go
theorem zX{s:List AV}{own:List Obj}{n0:Nat}{mv:List Nat}(o j:Nat)(ag:Option Nat){cs:List AV}(ho:own[o]?=some (.vec cs))(hj:cs.getD j .top=.nils)(h0:n0<=own.length) :
  Le ⟨s,own,n0,mv⟩ ⟨s,own.set o (.vec (cs.set j (.sl own.length 0 0)))++[.row ag []],n0,mv⟩:=by
 rintro c a w ⟨hd,hn,F,φ,h2,h3,h4⟩
 let L:Loc:=⟨true,0,0,0,es ag⟩
 have gM:=dO h3 L
 have h4':=AV.Rs_mono (fun _ h=>h) (Same.refl F w) gM _ _ h4
 have h5:=h3.new (L:=L) (obj:=Obj.row ag []) (Nat.le_refl _) (fun _ _=>rfl) (fun hn'=>by cases hn') (by simp only[ObjR];exact⟨rfl,.inl ⟨rfl,trivial⟩⟩)
 refine⟨hd,hn,F,ext φ own.length L,⟨h2.sub,h2.ext,fun o L' hlt hm h=>gM o L' (h2.keep o L' hlt hm h),h2.rest,fun o L' ho' hn'=>?_,h2.frsh⟩,?_,h4'⟩
 ·unfold ext at ho'
  split at ho'
  ·cases ho';cases hn'
  ·exact h2.orig o L' ho' hn'
 ·have pt:o<own.length:=by
   rcases Nat.lt_or_ge o own.length with h|h
   ·exact h
   ·rw[List.getElem?_eq_none h]at ho;cases ho
  refine⟨h5.fb,h5.live,h5.inj,fun o' obj ho'=>?_,fun o' ho'=>h5.out o' (by simpa using ho'),h5.glob⟩
  have dB:own.set o (.vec (cs.set j (.sl own.length 0 0)))++[Obj.row ag []]=(own++[Obj.row ag []]).set o (Obj.vec (cs.set j (.sl own.length 0 0))):=by rw[List.set_append_left _ _ pt]
  simp only at ho'
  rw[dB,List.getElem?_set]at ho'
  by_cases e:o=o'
  ·subst e
   simp only[if_true,List.length_append,List.length_cons,List.length_nil,show o<own.length+(0+1) by omega,Option.some.injEq]at ho'
   subst ho'
   have hr:=h5.rep o (.vec cs) (by rw[List.getElem?_append_left pt];exact ho)
   cases hl:ext φ own.length L o with
   | none=>rw[hl]at hr;simp only[ObjR]at hr
   | some L' =>
    rw[hl]at hr
    simp only[ObjR]at hr ⊢
    obtain⟨q1,q2⟩:=hr
    refine⟨q1,?_⟩
    rcases q2 with⟨q2,rfl⟩|⟨q2,arr,ty,q3,q4,q5,vs,q6,q7⟩
    ·exact .inl ⟨q2,rfl⟩
    refine .inr ⟨q2,arr,ty,q3,q4,by simpa using q5,vs,?_,by simpa using q7⟩
    have jt:=AV.Rs_get (AV.Ra_iff.1 q6).1 j
    rw[hj]at jt
    have hv:=cR.1 jt
    have key:=AV.Ra_set q6 j (.sl own.length 0 0) (.slice none 0 0) rfl (by
     simp only[AV.R]
     exact⟨L,aM _ _ _,.inl ⟨rfl,by simp⟩⟩)
    have jM:vs.set j (.slice none 0 0)=vs:=by
     apply List.ext_getElem?
     intro k
     rw[List.getElem?_set]
     split
     ·rename_i hk
      subst hk
      split
      ·rename_i hlt
       rw[← hv]
       simp[List.getD_eq_getElem?_getD,List.getElem?_eq_getElem hlt]
      ·rename_i hge
       rw[List.getElem?_eq_none (by omega)]
     ·rfl
    rw[jM]at key
    exact key
  ·simp only[e,if_false]at ho'
   exact h5.rep o' obj ho'
theorem yM{s:List AV}{pre:List Obj}{n0:Nat}{mv:List Nat}(o:Nat)(ag:Option Nat)(n:Nat)(ho:pre[o]?=some (.vec (List.replicate n AV.nils)))(h0:n0<=pre.length) :
  Le ⟨s,pre,n0,mv⟩ ⟨s,pre.set o (.vec (fv pre.length (List.replicate n [])))++dT ag (List.replicate n []),n0,mv⟩:=by
 have hlt:o<pre.length:=(List.getElem?_eq_some_iff.1 ho).1
 have key:∀k,k<=n->Le ⟨s,pre,n0,mv⟩ ⟨s,pre.set o (.vec (fv pre.length (List.replicate k [])++List.replicate (n - k) AV.nils))++dT ag (List.replicate k []),n0,mv⟩:=by
  intro k
  induction k with
  | zero =>
   intro _
   have e:pre.set o (.vec (List.replicate n AV.nils))=pre:=by
    obtain⟨h1,h2⟩:=List.getElem?_eq_some_iff.1 ho
    rw[← h2];simp
   simp only[List.replicate_zero,fv,List.nil_append,Nat.sub_zero,dT,List.map_nil,List.append_nil,e]
   exact Le.refl _
  | succ k ih =>
   intro hk
   refine Le.trans (ih (by omega)) ?_
   have hl:(pre.set o (.vec (fv pre.length (List.replicate k [])++List.replicate (n - k) AV.nils))++dT ag (List.replicate k [])).length=pre.length+k:=by simp[dT]
   have h:=zX (s:=s) (own:=pre.set o (.vec (fv pre.length (List.replicate k [])++List.replicate (n - k) AV.nils))++dT ag (List.replicate k [])) (n0:=n0) (mv:=mv) o k ag (cs:=fv pre.length (List.replicate k [])++List.replicate (n - k) AV.nils)
    (by rw[List.getElem?_append_left (by simpa using hlt),List.getElem?_set];simp[hlt])
    (by rw[List.getD_eq_getElem?_getD,List.getElem?_append_right (by simp[cC])];simp[cC,List.getElem?_replicate,show 0<n - k by omega])
    (by rw[hl];omega)
   rw[hl]at h
   have e1:(fv pre.length (List.replicate k [])++List.replicate (n - k) AV.nils).set k (.sl (pre.length+k) 0 0)=fv pre.length (List.replicate (k+1) [])++List.replicate (n - (k+1)) AV.nils:=by
    rw[List.set_append_right _ _ (by simp[cC]),List.replicate_succ',tY,cC]
    simp only[List.length_replicate,Nat.sub_self,List.append_assoc,List.cons_append,List.nil_append,List.length_nil]
    congr 1
    obtain⟨m,hm⟩:∃m,n - k=m+1:=⟨n - k - 1,by omega⟩
    rw[hm,List.replicate_succ,List.set_cons_zero,show n - (k+1)=m by omega]
   rw[e1,List.set_append_left _ _ (by simpa using hlt),List.set_set,List.append_assoc]at h
   have e2:dT ag (List.replicate k [])++[.row ag []]=dT ag (List.replicate (k+1) []):=by rw[← Cf,← List.replicate_succ']
   rw[e2]at h
   exact h
 have:=key n (Nat.le_refl _)
 simpa using this
theorem Bq{b:Nat}{M:List (List D)}{i:Nat}(h:i<M.length):(fv b M).getD i .top=.sl (i+b) 0 (M.getD i []).length:=by rw[sb b M i h,Nat.add_comm]
theorem r9{b:Nat}{M:List (List D)}{i:Nat}(h:i<M.length):AV.kills (i+b) (fv b M)=(fv b M).set i .top:=by rw[Nat.add_comm];exact mm b M i h
theorem uC{b:Nat}{M:List (List D)}{i:Nat}{l:List D}{n:Nat}(hn:n=l.length):(fv b M).set i (.sl (i+b) 0 n)=fv b (M.set i l):=by rw[hn,Nat.add_comm];exact yH b M i l
theorem uV{ag:Option Nat}{M:List (List D)}{i:Nat}{l:List D}(h:i<M.length):(dT ag M).set i (.row ag l)=dT ag (M.set i l):=C7 h l
theorem tu{ag:Option Nat}{M:List (List D)}{i:Nat}{t:List Obj}(h:i<M.length):(dT ag M++t).getD i .dead=.row ag (M.getD i []):=yE h
theorem up{ag:Option Nat}{M:List (List D)}{i:Nat}{l:List D}{t:List Obj}(h:i<M.length):(dT ag M++t).set i (.row ag l)=dT ag (M.set i l)++t:=FZ h l
theorem lJ{ag:Option Nat}{M:List (List D)}{o:Nat}{t:List Obj}:(dT ag M++t).map (Obj.kill o)=dT ag M++t.map (Obj.kill o):=by rw[List.map_append,km]
section
variable {A t:List Obj} {x y z d:Obj}
theorem Fx:(A++x :: t).getD A.length d=x:=by simp[List.getD_eq_getElem?_getD]
theorem PW:(A++x :: y :: t).getD (A.length+1) d=y:=by
 rw[List.getD_eq_getElem?_getD,List.getElem?_append_right (by omega)];simp
theorem Kw:(A++x :: t).set A.length d=A++d :: t:=by rw[List.set_append_right _ _ (Nat.le_refl _)];simp
theorem JM:(A++[x]).length=A.length+1:=by simp
end
theorem uT{ag:Option Nat}{M:List (List D)}{s s':List AV}{pre pre':List Obj}{n0:Nat}{mv:List Nat}(o:Nat)(ho:pre[o]?=some (.vec (fv pre.length M)))(h0:n0<=o)
  (dG:((pre.map (gD ag pre.length M)).map (Obj.frz o none (M.map (.sl ag)))).set o .dead=pre') (hs:bZ (AV.frzs o none (M.map (.sl ag)) (i6 ag pre.length M s)) s')
  (hu:AV.unders pre.length s') (hou:Obj.allUnder pre.length pre'):Le ⟨s,pre++dT ag M,n0,mv⟩ ⟨s',pre',n0,mv⟩:=by
 have hlt:o<pre.length:=(List.getElem?_eq_some_iff.1 ho).1
 have h1:=uz (ag:=ag) M (s:=s) (pre:=pre) (post:=[]) (n0:=n0) (mv:=mv) (by omega)
 simp only[List.append_nil,List.map_nil]at h1
 refine Le.trans h1 ?_
 have ho2:(pre.map (gD ag pre.length M)++List.replicate M.length Obj.dead)[o]?=some (.vec (M.map fun l=>.dat (.sl ag l))):=by
  rw[List.getElem?_append_left (by simpa using hlt),List.getElem?_map,ho]
  simp only[Option.map_some,gD,A8]
 have h2:=gz (s:=i6 ag pre.length M s) (n0:=n0) (mv:=mv) o (ds:=M.map (.sl ag)) ho2 (by simp[List.map_map,AV.norm1,AV.pure,Function.comp_def]) h0
 refine Le.trans h2 ?_
 have e:(List.map (Obj.frz o none (M.map (.sl ag))) ((pre.map (gD ag pre.length M)++List.replicate M.length Obj.dead).set o (.row none (M.map (.sl ag))))).set o .dead=pre'++List.replicate M.length .dead:=by
  rw[← dG,List.map_set,List.set_set,List.map_append,List.set_append_left _ _ (by simpa using hlt)]
  simp[Obj.frz]
 rw[e]
 have hl:pre'.length=pre.length:=by rw[← dG];simp
 exact aP (by omega) hs (by rw[hl];exact hu) (by rw[hl];exact hou)
mutual
theorem AV.under_mono{n m:Nat}(h:n<=m):∀(a:AV),a.under n->a.under m
 | .dat _,_=>by simp only[AV.under]
 | .nils,_=>by simp only[AV.under]
 | .nilm,_=>by simp only[AV.under]
 | .sl o _ _,k=>by simp only[AV.under]at k ⊢;omega
 | .ptr o _ _,k=>by simp only[AV.under]at k ⊢;omega
 | .map o,k=>by simp only[AV.under]at k ⊢;omega
 | .yld o,k=>by simp only[AV.under]at k ⊢;omega
 | .rptr _ _,_=>by simp only[AV.under]
 | .agg vs,k=>by simp only[AV.under]at k ⊢;exact AV.unders_mono h vs k
 | .tup vs,k=>by simp only[AV.under]at k ⊢;exact AV.unders_mono h vs k
 | .fn _ vs,k=>by simp only[AV.under]at k ⊢;exact AV.unders_mono h vs k
 | .top,_=>by simp only[AV.under]
theorem AV.unders_mono{n m:Nat}(h:n<=m):∀(as:List AV),AV.unders n as->AV.unders m as
 | [],_=>by simp only[AV.unders]
 | a :: as,k=>by simp only[AV.unders]at k ⊢;exact⟨AV.under_mono h a k.1,AV.unders_mono h as k.2⟩
end
theorem wT{ag:Option Nat}{M:List (List D)}{s s':List AV}{pre ex:List Obj}{n0:Nat}{mv:List Nat}(h0:n0<=pre.length)(hs:bZ s s')(hu:AV.unders pre.length s')(hp:Obj.allUnder (pre.length+M.length) pre) :
  Le ⟨s,pre++(dT ag M++ex),n0,mv⟩ ⟨s',pre++dT ag M,n0,mv⟩:=by
 rw[← List.append_assoc]
 have hl:(pre++dT ag M).length=pre.length+M.length:=by simp[dT]
 exact aP (by omega) hs (by rw[hl];exact AV.unders_mono (by omega) _ hu) (by rw[hl];exact m8 hp (qD _ _ _))
def q9(C:a8):a8:=fun args own v own' mv=>C args own v own' mv/\own'=own/\mv=[]
theorem qi{P:Program}{g:Nat}{C:a8}(h:OkF P g C):OkF P g (q9 C):=fun args own v own' mv hC=>h args own v own' mv hC.1
theorem xX{l:List (Nat×a8)}{pf:List Nat}(h:∀g C,(g,C)∈l->g∈pf->(∃R,C=au R)∨∃C',C=q9 C'):aQ (tbl l) pf:=by
 rintro g args own v own' mv hg ⟨C,hm,hC⟩
 rcases h g C hm hg with⟨R,rfl⟩|⟨C',rfl⟩
 ·obtain⟨_,_,_,h1,h2,_⟩:=hC
  exact⟨h1,h2⟩
 ·exact hC.2
theorem qV{l:List (Nat×a8)}{g:Nat}(R:List AV->List Obj->AV->List Obj->List Obj->List Nat->Prop)(hm:(g,q9 (cr R))∈l){args:List AV}{own:List Obj}{K:AV->List Obj->List Nat->Prop}(os:List Nat){as:List AV}{obs:List Obj}{v0:AV}
  (hR:R as obs v0 obs [] []) (hnd:os.Nodup) (hlt:∀o∈os,o<own.length) (h1:obs.length=os.length) (c5:args=AV.rens (emb os own.length) as) (hun:AV.unders os.length as) (hob:∀x∈obs,x.under os.length)
  (yN:∀j,j<os.length->own[os.getD j 0]?=some ((obs.getD j .dead).ren (emb os own.length))) (hK:K (v0.ren (emb os own.length)) own []):eB (tbl l) (.fn g []) args own K:=by
 have hk:own.map (Obj.killAll [])=own:=by rw[show Obj.killAll []=id from funext Obj.killAll_nil,List.map_id]
 have dB:∀(os:List Nat) (xs:List Obj),(∀j,j<os.length->own[os.getD j 0]?=xs[j]?)->dv own os xs=own:=by
  intro os
  induction os with
  | nil=>intro xs _;simp only[dv]
  | cons o os ih =>
   intro xs h
   cases xs with
   | nil=>rfl
   | cons x xs =>
    have h0:=h 0 (by simp)
    simp only[List.getD_cons_zero,List.getElem?_cons_zero]at h0
    have e:own.set o x=own:=by
     apply List.ext_getElem?
     intro k
     rw[List.getElem?_set]
     split
     ·rename_i hk;subst hk
      split
      ·exact h0.symm
      ·rename_i hge;rw[List.getElem?_eq_none (by omega)]
     ·rfl
    simp only[dv,e]
    exact ih xs (fun j hj=>by simpa using h (j+1) (by simpa using hj))
 have hown':dv (own.map (Obj.killAll ([].map (emb os own.length)))) os (obs.map (Obj.ren (emb os own.length)))++([]:List Obj).map (Obj.ren (emb os own.length))=own:=by
  simp only[List.map_nil,List.append_nil,hk]
  refine dB os _ fun j hj=>?_
  rw[yN j hj,List.getElem?_map,List.getD_eq_getElem?_getD,List.getElem?_eq_getElem (by omega)]
  rfl
 refine jv (q9 (cr R)) hm _ own [] ⟨⟨os,as,obs,v0,obs,[],[],hnd,hlt,h1,h1,c5,hun,hob,yN,hR,rfl,hown'.symm,rfl⟩,rfl,rfl⟩ hK
theorem yZ{Γ:Nat->a8}{g:Nat}{caps args:List AV}{own:List Obj}{K:AV->List Obj->List Nat->Prop}(h:eB Γ (.fn g []) (args++caps) own K):eB Γ (.fn g caps) args own K:=by
 simpa only[eB,List.append_nil] using h
theorem ur{π:Nat->Nat}:∀(n:Nat),AV.rens π (List.replicate n .nils)=List.replicate n .nils
 | 0=>rfl
 | n+1=>by simp only[List.replicate_succ,AV.rens,AV.ren,ur n]
theorem D.Cr_pre{F:Nat->Prop}{w:World}{ag:Option Nat}{b:Nat}:∀{off:Nat} {xs ys:List D},D.Cr F w ag b off (xs++ys)->D.Cr F w ag b off xs
 | _,[],_,_=>by simp only[D.Cr]
 | off,x :: xs,ys,h=>by
  simp only[List.cons_append,D.Cr]at h ⊢
  exact⟨h.1,D.Cr_pre h.2⟩
theorem II{s:List AV}{own:List Obj}{n0:Nat}{mv:List Nat}(o:Nat){ag:Option Nat}{xs ys:List D}(ho:own[o]?=some (.row ag (xs++ys))):Le ⟨s,own,n0,mv⟩ ⟨s,own.set o (.row ag xs),n0,mv⟩:=by
 rintro c a w ⟨hd,hn,F,φ,h2,h3,h4⟩
 refine⟨hd,hn,F,φ,h2,⟨h3.fb,h3.live,h3.inj,fun o' obj ho'=>?_,fun o' ho'=>h3.out o' (by simpa using ho'),h3.glob⟩,h4⟩
 simp only at ho'
 rw[List.getElem?_set]at ho'
 by_cases e:o=o'
 ·subst e
  split at ho'
  ·split at ho'
   ·cases ho'
    have hr:=h3.rep o _ ho
    cases hl:φ o with
    | none=>rw[hl]at hr;simp only[ObjR]at hr
    | some L =>
     rw[hl]at hr
     simp only[ObjR]at hr ⊢
     obtain⟨q1,q2⟩:=hr
     refine⟨q1,?_⟩
     rcases q2 with⟨q2,q3⟩|⟨q2,q3,q4,q5⟩
     ·exact .inl ⟨q2,(List.append_eq_nil_iff.1 q3).1⟩
     ·refine .inr ⟨q2,q3,?_,D.Cr_pre q5⟩
      rw[List.length_append,Nat.add_mul]at q4
      omega
   ·cases ho'
  ·rename_i hh;exact(hh rfl).elim
 ·simp only[e,if_false]at ho'
  exact h3.rep o' obj ho'
@[go_sem] theorem EB {ob:Nat} {dst:Option Tmp} {x:Operand} {ty:TypeId} {pos:String} {af:Array Edge} {gd:Option (Nat×Bool)} {st:List AV}:cA ob ⟨dst,.nilCheck x,ty,pos,af,gd⟩ st=((ev st x).refs ob=false):=by simp[cA,Op.operands]
def il:List Nat->DT
 | []=>.fin
 | p :: r=>.one p (il r)
section
variable {P:Program} {Γ:Nat->a8} {all:Array Oper} {Q:Exit->S->Prop} {p ob ko:Nat} {r ms ks:List Nat} {t u:DT} {σ:S} {s:List AV} {own:List Obj} {n:Nat} {m:List Nat}
@[go_sem] theorem JN:chT P Γ all ob ko ms ks Q (il []) σ=Q .normal σ:=Eq.trans rfl rfl
@[go_sem] theorem J3:chT P Γ all ob ko ms ks Q (il (p :: r)) ⟨s,own,n,m⟩=(match all[p]? with|some o=>((ms.contains p=true->cA ob o s)/\(ks.contains p=true->lk ko o s))/\opg P Γ all o (chT P Γ all ob ko ms ks Q (il r)) ⟨s,own,n,m⟩|none=>False):=Eq.trans rfl rfl
@[go_sem] theorem X5:chT P Γ all ob ko ms ks Q .fin σ=Q .normal σ:=Eq.trans rfl rfl
@[go_sem] theorem TT:chT P Γ all ob ko ms ks Q .stop σ=True:=Eq.trans rfl rfl
@[go_sem] theorem WB:chT P Γ all ob ko ms ks Q (.one p t) ⟨s,own,n,m⟩=(match all[p]? with|some o=>((ms.contains p=true->cA ob o s)/\(ks.contains p=true->lk ko o s))/\opg P Γ all o (chT P Γ all ob ko ms ks Q t) ⟨s,own,n,m⟩|none=>False):=Eq.trans rfl rfl
@[go_sem] theorem Yo:chT P Γ all ob ko ms ks Q (.alt p t u) ⟨s,own,n,m⟩=((match all[p]? with|some o=>((ms.contains p=true->cA ob o s)/\(ks.contains p=true->lk ko o s))/\opg P Γ all o (chT P Γ all ob ko ms ks Q t) ⟨s,own,n,m⟩|none=>False)/\chT P Γ all ob ko ms ks Q u ⟨s,own,n,m⟩):=Eq.trans rfl rfl
end
end Go.AM

