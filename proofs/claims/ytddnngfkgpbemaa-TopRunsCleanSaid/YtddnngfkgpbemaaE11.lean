/- Own work over the model of the kit. -/
import Derived.Test.YtddnngfkgpbemaaE7
import Derived.Test.YtddnngfkgpbemaaE8
set_option linter.unnecessarySimpa false
set_option linter.unusedSimpArgs false
set_option linter.unusedVariables false
namespace Go.AM
open Go
section
variable {A t:List Obj} {x y z d:Obj}
end
mutual
theorem AV.under_mono{n m:Nat}(h:n<=m):∀(a:AV),a.under n->a.under m
 | .dat _,_=>by simp only[AV.under]
 | .nils,_=>by simp only[AV.under]
 | .nilm,_=>by simp only[AV.under]
 | .sl o _ _,k=>by simp only[AV.under]at k ⊢;omega
 | .ptr o _ _,k=>by simp only[AV.under]at k ⊢;omega
 | .map o,k=>by simp only[AV.under]at k ⊢;omega
 | .yld o,k=>by simp only[AV.under]at k ⊢;omega
 | .rptr _ _,_=>by simp only[AV.under]
 | .agg vs,k=>by simp only[AV.under]at k ⊢;exact AV.unders_mono h vs k
 | .tup vs,k=>by simp only[AV.under]at k ⊢;exact AV.unders_mono h vs k
 | .fn _ vs,k=>by simp only[AV.under]at k ⊢;exact AV.unders_mono h vs k
 | .top,_=>by simp only[AV.under]
theorem AV.unders_mono{n m:Nat}(h:n<=m):∀(as:List AV),AV.unders n as->AV.unders m as
 | [],_=>by simp only[AV.unders]
 | a :: as,k=>by simp only[AV.unders]at k ⊢;exact⟨AV.under_mono h a k.1,AV.unders_mono h as k.2⟩
end
def pureOf(C:Contract):Contract:=fun args own v own' mv=>C args own v own' mv/\own'=own/\mv=[]
theorem okF_pureOf{P:Program}{g:Nat}{C:Contract}(h:OkF P g C):OkF P g (pureOf C):=fun args own v own' mv hC=>h args own v own' mv hC.1
theorem pure_of2{l:List (Nat×Contract)}{pf:List Nat}(h:∀g C,(g,C)∈l->g∈pf->(∃R,C=dataC R)∨∃C',C=pureOf C'):PureFns (tbl l) pf:=by
 rintro g args own v own' mv hg ⟨C,hm,hC⟩
 rcases h g C hm hg with⟨R,rfl⟩|⟨C',rfl⟩
 ·obtain⟨_,_,_,h1,h2,_⟩:=hC
  exact⟨h1,h2⟩
 ·exact hC.2
theorem call_lentP{l:List (Nat×Contract)}{g:Nat}(R:List AV->List Obj->AV->List Obj->List Obj->List Nat->Prop)(hm:(g,pureOf (lentC R))∈l){args:List AV}{own:List Obj}{K:AV->List Obj->List Nat->Prop}(os:List Nat){as:List AV}{obs:List Obj}{v0:AV}
  (hR:R as obs v0 obs [] []) (hnd:os.Nodup) (hlt:∀o∈os,o<own.length) (h1:obs.length=os.length) (hargs:args=AV.rens (emb os own.length) as) (hun:AV.unders os.length as) (hob:∀x∈obs,x.under os.length)
  (hown:∀j,j<os.length->own[os.getD j 0]?=some ((obs.getD j .dead).ren (emb os own.length))) (hK:K (v0.ren (emb os own.length)) own []):callw (tbl l) (.fn g []) args own K:=by
 have hk:own.map (Obj.killAll [])=own:=by rw[show Obj.killAll []=id from funext Obj.killAll_nil,List.map_id]
 have hset:∀(os:List Nat) (xs:List Obj),(∀j,j<os.length->own[os.getD j 0]?=xs[j]?)->setAll own os xs=own:=by
  intro os
  induction os with
  | nil=>intro xs _;simp only[setAll]
  | cons o os ih =>
   intro xs h
   cases xs with
   | nil=>rfl
   | cons x xs =>
    have h0:=h 0 (by simp)
    simp only[List.getD_cons_zero,List.getElem?_cons_zero]at h0
    have e:own.set o x=own:=by
     apply List.ext_getElem?
     intro k
     rw[List.getElem?_set]
     split
     ·rename_i hk;subst hk
      split
      ·exact h0.symm
      ·rename_i hge;rw[List.getElem?_eq_none (by omega)]
     ·rfl
    simp only[setAll,e]
    exact ih xs (fun j hj=>by simpa using h (j+1) (by simpa using hj))
 have hown':setAll (own.map (Obj.killAll ([].map (emb os own.length)))) os (obs.map (Obj.ren (emb os own.length)))++([]:List Obj).map (Obj.ren (emb os own.length))=own:=by
  simp only[List.map_nil,List.append_nil,hk]
  refine hset os _ fun j hj=>?_
  rw[hown j hj,List.getElem?_map,List.getD_eq_getElem?_getD,List.getElem?_eq_getElem (by omega)]
  rfl
 refine call_by (pureOf (lentC R)) hm _ own [] ⟨⟨os,as,obs,v0,obs,[],[],hnd,hlt,h1,h1,hargs,hun,hob,hown,hR,rfl,hown'.symm,rfl⟩,rfl,rfl⟩ hK
@[go_sem] theorem condM_nilCheck {ob:Nat} {dst:Option Tmp} {x:Operand} {ty:TypeId} {pos:String} {af:Array Edge} {gd:Option (Nat×Bool)} {st:List AV}:condM ob ⟨dst,.nilCheck x,ty,pos,af,gd⟩ st=((ev st x).refs ob=false):=by simp[condM,Op.operands]
def ones:List Nat->DT
 | []=>.fin
 | p :: r=>.one p (ones r)
section
variable {P:Program} {Γ:Nat->Contract} {all:Array Oper} {Q:Exit->S->Prop} {p ob ko:Nat} {r ms ks:List Nat} {t u:DT} {σ:S} {s:List AV} {own:List Obj} {n:Nat} {m:List Nat}
@[go_sem] theorem chT_onesNil:chT P Γ all ob ko ms ks Q (ones []) σ=Q .normal σ:=Eq.trans rfl rfl
@[go_sem] theorem chT_onesCons:chT P Γ all ob ko ms ks Q (ones (p :: r)) ⟨s,own,n,m⟩=(match all[p]? with|some o=>((ms.contains p=true->condM ob o s)/\(ks.contains p=true->condX ko o s))/\opg P Γ all o (chT P Γ all ob ko ms ks Q (ones r)) ⟨s,own,n,m⟩|none=>False):=Eq.trans rfl rfl
@[go_sem] theorem chT_fin:chT P Γ all ob ko ms ks Q .fin σ=Q .normal σ:=Eq.trans rfl rfl
@[go_sem] theorem chT_stop:chT P Γ all ob ko ms ks Q .stop σ=True:=Eq.trans rfl rfl
@[go_sem] theorem chT_one:chT P Γ all ob ko ms ks Q (.one p t) ⟨s,own,n,m⟩=(match all[p]? with|some o=>((ms.contains p=true->condM ob o s)/\(ks.contains p=true->condX ko o s))/\opg P Γ all o (chT P Γ all ob ko ms ks Q t) ⟨s,own,n,m⟩|none=>False):=Eq.trans rfl rfl
@[go_sem] theorem chT_alt:chT P Γ all ob ko ms ks Q (.alt p t u) ⟨s,own,n,m⟩=((match all[p]? with|some o=>((ms.contains p=true->condM ob o s)/\(ks.contains p=true->condX ko o s))/\opg P Γ all o (chT P Γ all ob ko ms ks Q t) ⟨s,own,n,m⟩|none=>False)/\chT P Γ all ob ko ms ks Q u ⟨s,own,n,m⟩):=Eq.trans rfl rfl
end
end Go.AM

