/- Own work over the model of the kit. -/
import Derived.Test.YtaecgpgkfajfjaaGreatDoorD11
set_option linter.unnecessarySimpa false
set_option linter.unusedSimpArgs false
set_option linter.unusedVariables false
namespace Go.AM
open Go
section
variable {P:Program}
def litR(v v0:Value):Prop:=v=v0∨∃q n n0,v=.int q n/\v0=.int q n0/\inR q n
def litsR(cs cs0:List Value):Prop:=cs.length=cs0.length/\∀(i:Nat) (v v0:Value),cs[i]?=some v->cs0[i]?=some v0->litR v v0
theorem mapM_mono{α β:Type}{f g:α->Option β}:∀{l:List α},(∀x∈l,(f x).isSome=true->(g x).isSome=true)->(l.mapM f).isSome=true->(l.mapM g).isSome=true
 | [],_,_=>rfl
 | x :: l,h,hf=>by
  rw[List.mapM_cons]at hf ⊢
  cases e:f x with
  | none=>rw[e]at hf;cases hf
  | some y =>
   have hg:=h x (List.mem_cons_self ..) (by rw[e];rfl)
   rw[e]at hf
   cases e2:l.mapM f with
   | none=>rw[e2]at hf;cases hf
   | some ys =>
    have ih:=mapM_mono (f:=f) (g:=g) (fun x hx=>h x (List.mem_cons_of_mem _ hx)) (by rw[e2];rfl)
    cases e3:g x with
    | none=>rw[e3]at hg;cases hg
    | some z =>
     cases e4:l.mapM g with
     | none=>rw[e4]at ih;cases ih
     | some zs=>rfl
def numsD:List D->List D->Prop
 | [],[]=>True
 | .int q n :: r,.int q0 n0 :: r0=>q=q0/\inR q n/\numsD r r0
 | _,_=>False
end
end Go.AM

