/- Own work over the model of the kit. -/
import Derived.Test.YtjfoclncfhiffaaD4
set_option linter.unnecessarySimpa false
set_option linter.unusedSimpArgs false
set_option linter.unusedVariables false
namespace Go.AM
open Go
def AV.norm1(x:AV):AV:=match x.pure with|some d=>.dat d|none=>x
def AV.norm:AV->AV
 | .tup vs=>.tup (vs.map AV.norm1)
 | x=>x.norm1
section
variable {P:Program} {fn:Func} {F:Nat->Prop} {φ:Nat->Option Loc} {w:World}
theorem R_norm1{x:AV}{c:Value}(h:AV.R F φ w x c):AV.R F φ w x.norm1 c:=by
 unfold AV.norm1
 split
 ·rename_i d hd
  simp only[AV.R]
  exact pure_R hd h
 ·exact h
theorem Rs_norm1:∀{vs:List AV} {us:List Value},AV.Rs F φ w vs us->AV.Rs F φ w (vs.map AV.norm1) us
 | [],us,h=>by simpa only[List.map_nil,AV.Rs] using h
 | v :: vs,us,h=>by
  simp only[AV.Rs]at h
  obtain⟨u,us',rfl,h1,h2⟩:=h
  simp only[List.map_cons,AV.Rs]
  exact⟨u,us',rfl,R_norm1 h1,Rs_norm1 h2⟩
theorem R_norm{x:AV}{c:Value}(h:AV.R F φ w x c):AV.R F φ w x.norm c:=by
 unfold AV.norm
 split
 ·simp only[AV.R]at h ⊢
  obtain⟨arr,h1,h2⟩:=h
  exact⟨arr,h1,Rs_norm1 h2⟩
 ·exact R_norm1 h
theorem le_norm{s:List AV}{own:List Obj}{n0:Nat}{mv:List Nat}:Le ⟨s,own,n0,mv⟩ ⟨s.map AV.norm,own,n0,mv⟩:=by
 rintro c a w ⟨hd,hn,F,φ,h2,h3,h4⟩
 refine⟨hd,hn,F,φ,h2,h3,?_⟩
 have:∀{vs:List AV} {us:List Value},AV.Rs F φ w vs us->AV.Rs F φ w (vs.map AV.norm) us:=by
  intro vs
  induction vs with
  | nil=>intro us h;simpa only[List.map_nil,AV.Rs] using h
  | cons v vs ih =>
   intro us h
   simp only[AV.Rs]at h
   obtain⟨u,us',rfl,h1,h2⟩:=h
   simp only[List.map_cons,AV.Rs]
   exact⟨u,us',rfl,R_norm h1,ih h2⟩
 exact this h4
theorem post_res{v:AV}{s:List AV}{own:List Obj}{mv:List Nat}{e:Exit}(he:e=.ret∨e=.normal)(rs:List ResultVar)(hrs:fn.results.toList=rs)
  (h:resL P rs ⟨s,own,0,mv⟩ (fun vs=>Le ⟨[resV vs],own,0,mv⟩ ⟨[v],[],0,[]⟩)):post P fn v [] [] e ⟨s,own,0,mv⟩:=by
 refine⟨by rcases he with rfl|rfl <;> trivial,?_⟩
 rw[hrs]
 have key:∀(rs:List ResultVar) (K K':List AV->Prop),(∀vs,K vs->K' vs)->resL P rs ⟨s,own,0,mv⟩ K->resL P rs ⟨s,own,0,mv⟩ K':=by
  intro rs
  induction rs with
  | nil=>intro K K' hk h;exact hk _ h
  | cons r rs ih =>
   intro K K' hk h
   cases r with
   | tmp t=>simp only[resL]at h ⊢;exact ih _ _ (fun vs hv=>hk _ hv) h
   | cell a t =>
    simp only[resL]at h ⊢
    obtain⟨v,hv,hall⟩:=loadw_det _ _ _ h
    exact hall _ (ih _ _ (fun vs hv=>hk _ hv) hv)
 exact key rs _ _ (fun vs hv=>⟨[],hv,fun _ h=>h⟩) h
theorem le_fin{v v':AV}{own:List Obj}{mv:List Nat}(hn:v.norm=v')(hu:v'.under 0):Le ⟨[v],own,0,mv⟩ ⟨[v'],[],0,[]⟩:=by
 refine Le.trans le_norm ?_
 simp only[List.map_cons,List.map_nil,hn]
 exact le_data hu
@[go_sem] theorem frzs_dats {o:Nat} {ag:Option Nat} {xs:List D}:∀(ds:List D),AV.frzs o ag xs (ds.map .dat)=ds.map .dat
 | []=>rfl
 | d :: ds=>by simp only[List.map_cons,AV.frzs,AV.frz,frzs_dats ds]
@[go_sem] theorem unders_dats {n:Nat}:∀(ds:List D),AV.unders n (ds.map .dat)=True
 | []=>by simp[AV.unders]
 | d :: ds=>by simp[AV.unders,AV.under,unders_dats ds]
section
variable {ob:Nat} {dst:Option Tmp} {ty:TypeId} {pos:String} {af:Array Edge} {gd:Option (Nat×Bool)} {st:List AV} {x y a:Operand} {t:TypeId} {f:Nat}
@[go_sem] theorem condM_store:condM ob ⟨dst,.store t a x,ty,pos,af,gd⟩ st=∃i j,ev st a=.ptr ob i j:=Eq.trans rfl rfl
@[go_sem] theorem condM_load:condM ob ⟨dst,.load t x,ty,pos,af,gd⟩ st=((ev st x).refs ob=false):=by simp[condM,Op.operands]
@[go_sem] theorem condM_move:condM ob ⟨dst,.move x,ty,pos,af,gd⟩ st=((ev st x).refs ob=false):=by simp[condM,Op.operands]
@[go_sem] theorem condM_indexAddr:condM ob ⟨dst,.indexAddr t x y,ty,pos,af,gd⟩ st=((ev st x).refs ob=false/\(ev st y).refs ob=false):=by simp[condM,Op.operands]
@[go_sem] theorem condM_fieldAddr:condM ob ⟨dst,.fieldAddr t x f,ty,pos,af,gd⟩ st=((ev st x).refs ob=false):=by simp[condM,Op.operands]
@[go_sem] theorem ex_ptr {i j:Nat}:(∃i' j',AV.ptr ob i j=.ptr ob i' j')=True:=eq_true ⟨i,j,rfl⟩
end
attribute [go_sem] opm AV.refs List.contains_cons List.contains_nil Nat.reduceBEq Bool.false_or Bool.or_false Bool.true_or Bool.or_true
attribute [go_sem] Obj.under Nat.reduceEqDiff Nat.reduceSub Nat.reduceMul Int.reduceLT Int.reduceEq Int.reduceAdd Int.reduceSub Int.reduceMul
@[go_sem] theorem resV_one {v:AV}:resV [v]=v:=Eq.trans rfl rfl
@[go_sem] theorem resV_more {a b:AV} {l:List AV}:resV (a :: b :: l)=.tup (a :: b :: l):=Eq.trans rfl rfl
attribute [go_sem] resL AV.frzs AV.frz Obj.frz AV.norm AV.norm1 AV.under AV.unders
end
end Go.AM

