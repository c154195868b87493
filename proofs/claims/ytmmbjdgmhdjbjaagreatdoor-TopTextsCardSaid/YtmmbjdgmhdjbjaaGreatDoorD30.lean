/- Own work over the model of the kit. -/
import Derived.Test.YtmmbjdgmhdjbjaaGreatDoorD14
import Derived.Test.YtmmbjdgmhdjbjaaGreatDoorD29
set_option linter.unnecessarySimpa false
set_option linter.unusedSimpArgs false
set_option linter.unusedVariables false
set_option maxRecDepth 100000
namespace Go.AM
open Go Go.Proofs
theorem tz{P:Program}{w:World}{n:String}{d:DataW Unit}{laid:List (String×DataW Unit)}{ps:List MemPlace}(h:DataW.LaidVars P w ((n,d) :: laid) ps):∃ps',DataW.LaidVars P w laid ps':=by
 obtain⟨g0,t0,cs0,f0,p0,q0,_,_,_,_,hrest,_⟩:=h
 exact⟨_,hrest⟩
theorem Lb {w : World} {n1 n2 : String} {d1 d2 : DataW Unit} {laid : List (String × DataW Unit)} {ps : List MemPlace} {d : DataW Unit} (hd : d = .agg (Lib.pow10Tab.map fun z => .lit (.int .u64 z))) (h : DataW.LaidVars Tryz.prog w ((n1, d1) :: (n2, d2) :: ("internal/strconv.uint64pow10", d) :: laid) ps) : GlobOk (fun b => b < w.heap.size) w := by
 obtain⟨_,h⟩:=tz h
 obtain⟨_,h⟩:=tz h
 obtain⟨⟨cs,h1,h2,h3,h4⟩,_⟩:=z7 (g:=0) (t:=170) (e:=161) (n:=20) (k:=.u64) (ns:=Lib.pow10Tab) h hd (by kernel_rfl) (by kernel_rfl) (by kernel_rfl) (by kernel_rfl) (by kernel_rfl) (by kernel_rfl) (by decide)
 intro g ag d' hg
 unfold KU at hg
 split at hg
 ·simp only[Option.some.injEq,Prod.mk.injEq]at hg
  obtain⟨rfl,rfl⟩:=hg
  exact⟨cs,h1,h2,h3,rfl,h4⟩
 ·cases hg
end Go.AM

