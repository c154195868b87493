/- Own work over the model of the kit. -/
import Derived.Test.YtmmbjdgmhdjbjaaGreatDoorD30
import Derived.Test.YtmmbjdgmhdjbjaaGreatDoorTie
import Derived.Test.YtmmbjdgmhdjbjaaGreatDoorCards
import Derived.Lay
set_option linter.unnecessarySimpa false
set_option linter.unusedVariables false
set_option maxRecDepth 100000
namespace Go.Proofs.YtmmbjdgmhdjbjaaGreatDoor
open Go Go.AM Go.ChangeShapes Go.WideShapes Go.ChangeAt Go.RowKit
theorem own:ownKnob Tryz.prog.godebug=none:=by kernel_rfl
theorem vM:laidOutB Tryz.prog=true:=by kernel_rfl
abbrev oR : List (String × DataW Unit) := [("math/bits.deBruijn32tab", Rows.laid_math_bits_deBruijn32tab), ("math/bits.deBruijn64tab", Rows.laid_math_bits_deBruijn64tab), ("internal/strconv.uint64pow10", Rows.laid_internal_strconv_uint64pow10), ("unicode/utf8.acceptRanges", Rows.laid_unicode_utf8_acceptRanges), ("unicode/utf8.first", Rows.laid_unicode_utf8_first)]
theorem CH:(Rows.laid_internal_strconv_uint64pow10:DataW Unit)=.agg (Lib.pow10Tab.map fun z=>.lit (.int .u64 z)):=by kernel_rfl
theorem Fz(w:World)(h:laidMetH Tryz.prog oR w):GlobOk (fun b=>b<w.heap.size) w:=by
 rw[MakeChecks.laidMetH_plain _ _ _ (by kernel_rfl)]at h
 obtain⟨ps,hl,_⟩:=h
 exact Lb CH hl
theorem E5(os:Os):(World.holding Tryz.prog os ⟨#[],#[],[]⟩).layFits Tryz.prog oR []=true:=by kernel_rfl
theorem vT(os:Os):(World.holding Tryz.prog os ⟨#[],#[],[]⟩).layIfaces Tryz.prog oR (World.laidAll Tryz.prog os oR)=true:=by kernel_rfl
theorem wh(os:Os):(World.laidAll Tryz.prog os oR).Shaped Tryz.prog:=World.shaped_of_ZipB (by kernel_rfl) (by kernel_rfl)
theorem GN(os:Os)(args:Array Value):laidMetH Tryz.prog oR ((World.laidAll Tryz.prog os oR).forCall (fun _ _=>0) ⟨#[],args,[]⟩).memory:=by
 rw[MakeChecks.laidMetH_plain _ _ _ (by kernel_rfl)]
 exact laidMet_laidAll _ (E5 os) (vT os)
end Go.Proofs.YtmmbjdgmhdjbjaaGreatDoor

