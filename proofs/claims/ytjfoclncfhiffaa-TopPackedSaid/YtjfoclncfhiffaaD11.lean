/- Own work over the model of the kit. -/
import Derived.Test.YtjfoclncfhiffaaD8
import Derived.Test.YtjfoclncfhiffaaD9
set_option linter.unnecessarySimpa false
set_option linter.unusedSimpArgs false
set_option linter.unusedVariables false
namespace Go.AM
open Go
section
variable {A t:List Obj} {x y z d:Obj}
end
mutual
theorem AV.under_mono{n m:Nat}(h:n<=m):∀(a:AV),a.under n->a.under m
 | .dat _,_=>by simp only[AV.under]
 | .nils,_=>by simp only[AV.under]
 | .nilm,_=>by simp only[AV.under]
 | .sl o _ _,k=>by simp only[AV.under]at k ⊢;omega
 | .ptr o _ _,k=>by simp only[AV.under]at k ⊢;omega
 | .map o,k=>by simp only[AV.under]at k ⊢;omega
 | .yld o,k=>by simp only[AV.under]at k ⊢;omega
 | .rptr _ _,_=>by simp only[AV.under]
 | .agg vs,k=>by simp only[AV.under]at k ⊢;exact AV.unders_mono h vs k
 | .tup vs,k=>by simp only[AV.under]at k ⊢;exact AV.unders_mono h vs k
 | .fn _ vs,k=>by simp only[AV.under]at k ⊢;exact AV.unders_mono h vs k
 | .top,_=>by simp only[AV.under]
theorem AV.unders_mono{n m:Nat}(h:n<=m):∀(as:List AV),AV.unders n as->AV.unders m as
 | [],_=>by simp only[AV.unders]
 | a :: as,k=>by simp only[AV.unders]at k ⊢;exact⟨AV.under_mono h a k.1,AV.unders_mono h as k.2⟩
end
def pureOf(C:Contract):Contract:=fun args own v own' mv=>C args own v own' mv/\own'=own/\mv=[]
theorem callw_caps{Γ:Nat->Contract}{g:Nat}{caps args:List AV}{own:List Obj}{K:AV->List Obj->List Nat->Prop}(h:callw Γ (.fn g []) (args++caps) own K):callw Γ (.fn g caps) args own K:=by
 simpa only[callw,List.append_nil] using h
@[go_sem] theorem condM_nilCheck {ob:Nat} {dst:Option Tmp} {x:Operand} {ty:TypeId} {pos:String} {af:Array Edge} {gd:Option (Nat×Bool)} {st:List AV}:condM ob ⟨dst,.nilCheck x,ty,pos,af,gd⟩ st=((ev st x).refs ob=false):=by simp[condM,Op.operands]
def ones:List Nat->DT
 | []=>.fin
 | p :: r=>.one p (ones r)
section
variable {P:Program} {Γ:Nat->Contract} {all:Array Oper} {Q:Exit->S->Prop} {p ob ko:Nat} {r ms ks:List Nat} {t u:DT} {σ:S} {s:List AV} {own:List Obj} {n:Nat} {m:List Nat}
@[go_sem] theorem chT_onesNil:chT P Γ all ob ko ms ks Q (ones []) σ=Q .normal σ:=Eq.trans rfl rfl
@[go_sem] theorem chT_onesCons:chT P Γ all ob ko ms ks Q (ones (p :: r)) ⟨s,own,n,m⟩=(match all[p]? with|some o=>((ms.contains p=true->condM ob o s)/\(ks.contains p=true->condX ko o s))/\opg P Γ all o (chT P Γ all ob ko ms ks Q (ones r)) ⟨s,own,n,m⟩|none=>False):=Eq.trans rfl rfl
@[go_sem] theorem chT_fin:chT P Γ all ob ko ms ks Q .fin σ=Q .normal σ:=Eq.trans rfl rfl
@[go_sem] theorem chT_stop:chT P Γ all ob ko ms ks Q .stop σ=True:=Eq.trans rfl rfl
@[go_sem] theorem chT_one:chT P Γ all ob ko ms ks Q (.one p t) ⟨s,own,n,m⟩=(match all[p]? with|some o=>((ms.contains p=true->condM ob o s)/\(ks.contains p=true->condX ko o s))/\opg P Γ all o (chT P Γ all ob ko ms ks Q t) ⟨s,own,n,m⟩|none=>False):=Eq.trans rfl rfl
@[go_sem] theorem chT_alt:chT P Γ all ob ko ms ks Q (.alt p t u) ⟨s,own,n,m⟩=((match all[p]? with|some o=>((ms.contains p=true->condM ob o s)/\(ks.contains p=true->condX ko o s))/\opg P Γ all o (chT P Γ all ob ko ms ks Q t) ⟨s,own,n,m⟩|none=>False)/\chT P Γ all ob ko ms ks Q u ⟨s,own,n,m⟩):=Eq.trans rfl rfl
end
end Go.AM

