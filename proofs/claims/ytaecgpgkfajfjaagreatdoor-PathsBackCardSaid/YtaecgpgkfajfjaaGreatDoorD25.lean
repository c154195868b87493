/- Own work over the model of the kit. -/
import Derived.Test.YtaecgpgkfajfjaaGreatDoorD24
import Derived.Lib.UnsafeStr
import Derived.Test.YtaecgpgkfajfjaaGreatDoorD19
import Derived.Test.YtaecgpgkfajfjaaGreatDoorD22
import Derived.Test.YtaecgpgkfajfjaaGreatDoorD20
set_option linter.unnecessarySimpa false
set_option linter.unusedSimpArgs false
set_option linter.unusedVariables false
set_option maxHeartbeats 8000000
set_option maxRecDepth 100000
namespace Go.AM
private theorem eqk {α:Sort _} {a b:α} (h:a=b):a=b:=Eq.trans h (Eq.refl _)
open Go Go.Proofs Go.RowKit
theorem After.dead{F F':Nat->Prop}{φ φ':Nat->Option Loc}{w w':World}{own':List Obj}{mv:List Nat}(h:After F φ w F' φ' own' w' mv)(r:Nat):After F φ w F' φ' (own'.set r .dead) w' mv:=by
 obtain⟨a,b,c,d,e,f,g⟩:=h
 refine⟨a,b,⟨c.fb,c.live,c.inj,fun o obj ho=>?_,fun o ho=>c.out o (by simpa using ho),c.glob⟩,d,e,f,g⟩
 rw[List.getElem?_set]at ho
 by_cases e':r=o
 ·subst e'
  split at ho
  ·split at ho
   ·cases ho;simp only[ObjR]
   ·cases ho
  ·exact c.rep _ obj ho
 ·rw[if_neg e']at ho
  exact c.rep o obj ho
theorem builder_string(b g n cap:Nat)(p:Value)(l:List UInt8)(cur:Array Value)(w:World)(hn:n=l.length)(h0:l≠[])(hc:l.length<=cur.size)(hcap:cap≠0)(h63:l.length<=9223372036854775807)
  (hbk:w.heap[b]?=some (.cells #[p,.slice (some ⟨g,0,none⟩) n cap] 80 (0,0))) (hg:w.heap[g]?=some (.cells cur 5 (0,0))) (hcell:∀j,j<l.length->cur[j]?=(l[j]?).map fun b=>Value.int .u8 (b.toNat:Int)) :
  Calls Tryz.prog 55 #[.pointer (some ⟨b,0,none⟩)] w fun e w'=>e=.returned (.string ⟨l.toArray⟩)/\w'=w.drew.freeze ⟨g,0,none⟩ l.length:=by
 subst hn
 have c1:w.drew.cell? ⟨b,1,none⟩=some (.slice (some ⟨g,0,none⟩) l.length cap):=by
  have:w.drew.heap[b]?=some (.cells #[p,.slice (some ⟨g,0,none⟩) l.length cap] 80 (0,0)):=hbk
  rw[Lib.cell_of_heap this];rfl
 have hSD:(Builtin.unsafeSliceData_ #[78] 112 #[.slice (some ⟨g,0,none⟩) l.length cap]).run Tryz.prog w.drew=.ok (.pointer (some ⟨g,0,none⟩)) w.drew :=
  Lib.run_unsafeSliceData_row _ _ _ _ _ _ hcap
 have hUS:(Builtin.unsafeString_ #[112,3] 9 #[.pointer (some ⟨g,0,none⟩),.int .i64 l.length]).run Tryz.prog w.drew=.ok (.string ⟨l.toArray⟩) (w.drew.freeze ⟨g,0,none⟩ l.length):=by
  refine Lib.run_unsafeString_row w.drew 112 3 9 5 Tryz.underlying112 (by kernel_rfl) g cur.size (by have hg':w.drew.heap[g]?=some (.cells cur 5 (0,0)):=hg;simp[World.shape?,hg']) l h0 hc h63 ?_
  intro j x hx
  have hj:j<l.length:=by
   rcases Nat.lt_or_ge j l.length with h|h
   ·exact h
   ·rw[List.getElem?_eq_none h]at hx;cases hx
  have h1:=hcell j hj
  rw[hx]at h1
  rw[Addr.add_mk,Nat.zero_add]
  have hg':w.drew.heap[g]?=some (.cells cur 5 (0,0)):=hg
  rw[Lib.cell_of_heap hg']
  exact h1
 have mixed:Tryz.prog.follows .mixedOrders=true:=by kernel_rfl
 have u72:=run_underlying Tryz.underlying80
 have u70:=run_underlying Tryz.underlying77
 have u37:=run_underlying Tryz.underlying78
 have u127:=run_underlying Tryz.underlying112
 go_enter Tryz.func55,Tryz.ntmps55
 go_wp2
 go_region
 all_goals (go_wp2;go_ret;exact⟨rfl,rfl⟩)
theorem builder_string_nil(b:Nat)(p:Value)(w:World)(hbk:w.heap[b]?=some (.cells #[p,.slice none 0 0] 80 (0,0))) :
  Calls Tryz.prog 55 #[.pointer (some ⟨b,0,none⟩)] w fun e w'=>e=.returned (.string ⟨#[]⟩)/\w'=w.drew:=by
 have hUS:∀(W:World) (q:Option Addr),(Builtin.unsafeString_ #[112,3] 9 #[.pointer q,.int .i64 0]).run Tryz.prog W=.ok (.string .empty) W:=fun W q=>Lib.run_unsafeString_none W _ _ _ q
 have c1:w.drew.cell? ⟨b,1,none⟩=some (.slice none 0 0):=by
  have:w.drew.heap[b]?=some (.cells #[p,.slice none 0 0] 80 (0,0)):=hbk
  rw[Lib.cell_of_heap this];rfl
 have hSD:(Builtin.unsafeSliceData_ #[78] 112 #[.slice none 0 0]).run Tryz.prog w.drew=.ok (.pointer none) w.drew:=rfl
 have mixed:Tryz.prog.follows .mixedOrders=true:=by kernel_rfl
 have u72:=run_underlying Tryz.underlying80
 have u70:=run_underlying Tryz.underlying77
 have u37:=run_underlying Tryz.underlying78
 have u127:=run_underlying Tryz.underlying112
 go_enter Tryz.func55,Tryz.ntmps55
 go_wp2
 go_region
 all_goals (go_wp2;go_ret;exact⟨rfl,rfl⟩)
theorem builder_string_room(b g cap:Nat)(p:Value)(w:World)(hc0:cap≠0)(hbk:w.heap[b]?=some (.cells #[p,.slice (some ⟨g,0,none⟩) 0 cap] 80 (0,0))) :
  Calls Tryz.prog 55 #[.pointer (some ⟨b,0,none⟩)] w fun e w'=>e=.returned (.string ⟨#[]⟩)/\w'=w.drew:=by
 have hUS:∀(W:World) (q:Option Addr),(Builtin.unsafeString_ #[112,3] 9 #[.pointer q,.int .i64 0]).run Tryz.prog W=.ok (.string .empty) W:=fun W q=>Lib.run_unsafeString_none W _ _ _ q
 have c1:w.drew.cell? ⟨b,1,none⟩=some (.slice (some ⟨g,0,none⟩) 0 cap):=by
  have:w.drew.heap[b]?=some (.cells #[p,.slice (some ⟨g,0,none⟩) 0 cap] 80 (0,0)):=hbk
  rw[Lib.cell_of_heap this];rfl
 have hSD:(Builtin.unsafeSliceData_ #[78] 112 #[.slice (some ⟨g,0,none⟩) 0 cap]).run Tryz.prog w.drew=.ok (.pointer (some ⟨g,0,none⟩)) w.drew :=
  Lib.run_unsafeSliceData_row _ _ _ _ _ _ hc0
 clear hc0
 have mixed:Tryz.prog.follows .mixedOrders=true:=by kernel_rfl
 have u72:=run_underlying Tryz.underlying80
 have u70:=run_underlying Tryz.underlying77
 have u37:=run_underlying Tryz.underlying78
 have u127:=run_underlying Tryz.underlying112
 go_enter Tryz.func55,Tryz.ntmps55
 go_wp2
 go_region
 all_goals (go_wp2;go_ret;exact⟨rfl,rfl⟩)
theorem builder_string_noroom(b g c:Nat)(p:Value)(cur:Array Value)(w:World)(hbk:w.heap[b]?=some (.cells #[p,.slice (some ⟨g,c,none⟩) 0 0] 80 (0,0)))(hg:w.heap[g]?=some (.cells cur 5 (0,0))) :
  Calls Tryz.prog 55 #[.pointer (some ⟨b,0,none⟩)] w fun e w'=>e=.returned (.string ⟨#[]⟩)/\w'=w.drew.alloc (.view ⟨g,c,none⟩ 5):=by
 have hUS:∀(W:World) (q:Option Addr),(Builtin.unsafeString_ #[112,3] 9 #[.pointer q,.int .i64 0]).run Tryz.prog W=.ok (.string .empty) W:=fun W q=>Lib.run_unsafeString_none W _ _ _ q
 have hlt:b<w.heap.size:=by
  rcases Nat.lt_or_ge b w.heap.size with h'|h'
  ·exact h'
  ·simp[Array.getElem?_eq_none h']at hbk
 have c1:w.drew.cell? ⟨b,1,none⟩=some (.slice (some ⟨g,c,none⟩) 0 0):=by
  have:w.drew.heap[b]?=some (.cells #[p,.slice (some ⟨g,c,none⟩) 0 0] 80 (0,0)):=hbk
  rw[Lib.cell_of_heap this];rfl
 have hSD:(Builtin.unsafeSliceData_ #[78] 112 #[.slice (some ⟨g,c,none⟩) 0 0]).run Tryz.prog w.drew=.ok (.pointer (some ⟨w.drew.heap.size,0,none⟩)) (w.drew.alloc (.view ⟨g,c,none⟩ 5)) :=
  Lib.run_unsafeSliceData_zero w.drew _ _ 5 Tryz.underlying112 ⟨g,c,none⟩ 0 (5,cur.size) (by have hg':w.drew.heap[g]?=some (.cells cur 5 (0,0)):=hg;simp[World.shape?,hg'])
 have c2:(w.drew.alloc (.view ⟨g,c,none⟩ 5)).cell? ⟨b,1,none⟩=some (.slice (some ⟨g,c,none⟩) 0 0):=by
  have:(w.drew.alloc (.view ⟨g,c,none⟩ 5)).heap[b]?=_:=(Lib.alloc_old w.drew _ b hlt).trans hbk
  rw[Lib.cell_of_heap this];rfl
 have c3:(w.alloc (.view ⟨g,c,none⟩ 5)).drew.cell? ⟨b,1,none⟩=some (.slice (some ⟨g,c,none⟩) 0 0):=c2
 have c0:w.cell? ⟨b,1,none⟩=some (.slice (some ⟨g,c,none⟩) 0 0):=c1
 have mixed:Tryz.prog.follows .mixedOrders=true:=by kernel_rfl
 have u72:=run_underlying Tryz.underlying80
 have u70:=run_underlying Tryz.underlying77
 have u37:=run_underlying Tryz.underlying78
 have u127:=run_underlying Tryz.underlying112
 go_enter Tryz.func55,Tryz.ntmps55
 go_wp2
 go_region
 all_goals (go_wp2;go_ret;exact⟨rfl,rfl⟩)
def strC:Contract:=fun args own v own' mv=>∃(o:Nat) (u:Bool) (bs:List UInt8) (r:Nat),args=[.ptr o 0 0]/\own.getD o .dead=.bld 80 u [.sl r 0 bs.length]/\own.getD r .dead=.brow 5 bs/\bs.length<=140737488355328 /\
 v=.dat (.str bs)/\own'=own.set r .dead/\mv=[]
theorem string_ok:OkF Tryz.prog 55 strC:=by
 rintro args own v own' mv ⟨o,u,bs,r,rfl,hobj,hrow,hlen,rfl,rfl,rfl⟩
 refine⟨⟨_,_,Tryz.func55,rfl,by decide⟩,fun F φ w vs hc hs=>?_⟩
 simp only[AV.Rs,AV.R]at hs
 obtain⟨c,vs',rfl,⟨L,ho,hn,rfl⟩,rfl⟩:=hs
 have hr:=getObj_rep hc ho
 rw[hobj]at hr
 simp only[ObjR]at hr
 obtain⟨_,hbase,arr,_,hh,hsize,hra⟩:=hr
 simp only[AV.Rs]at hra
 obtain⟨a0,as0,rfl,hv,rfl⟩:=hra
 have e0:(⟨L.b,L.base+0*L.sz+0,none⟩:Addr)=⟨L.b,0,none⟩:=by rw[hbase];simp
 rw[e0]
 simp only[AV.R]at hv
 obtain⟨Lr,hor,hv⟩:=hv
 have hrr:=getObj_rep hc hor
 rw[hrow]at hrr
 simp only[ObjR]at hrr
 obtain⟨hsz,hrr⟩:=hrr
 have hstr:∀(F':Nat->Prop) (φ':Nat->Option Loc) (w':World),AV.R F' φ' w' (.dat (.str bs)) (.string ⟨bs.toArray⟩):=fun F' φ' w'=>by
  simp only[AV.R,D.R,D.C]
  exact⟨trivial,by simp only[maxLen];omega⟩
 rcases hv with⟨hnl,hl0,_,rfl⟩|⟨hnl,c,cap,rfl,h1,h2,h3,h4⟩
 ·have hbs:bs=[]:=List.eq_nil_of_length_eq_zero (by omega)
  subst hbs
  refine(builder_string_nil L.b _ w hh).mono ?_
  rintro e w' ⟨rfl,rfl⟩
  exact⟨_,F,φ,rfl,(After.grown hc 1 #[]).dead r,hstr _ _ _⟩
 ·rcases hrr with⟨hnil,_⟩|⟨_,cur,hg,hcur,hb0,hfit,hcells⟩
  ·rw[hnl]at hnil;cases hnil
  by_cases hbs:bs=[]
  ·subst hbs
   by_cases hc0:cap=0
   ·subst hc0
    refine(builder_string_noroom L.b Lr.b c _ cur w hh hg).mono ?_
    rintro e w' ⟨rfl,rfl⟩
    exact⟨_,F,φ,rfl,(show After F φ w F φ own (w.drew.alloc (.view ⟨Lr.b,c,none⟩ 5)) [] from After.grown hc 1 #[_]).dead r,hstr _ _ _⟩
   ·have hc1:c=0:=by
     have:=h3.resolve_left hc0
     omega
    subst hc1
    refine(builder_string_room L.b Lr.b cap _ w hc0 hh).mono ?_
    rintro e w' ⟨rfl,rfl⟩
    exact⟨_,F,φ,rfl,(After.grown hc 1 #[]).dead r,hstr _ _ _⟩
  ·have hpos:0<bs.length:=List.length_pos_iff.2 hbs
   have hc0:cap≠0:=by omega
   have hc1:c=0:=by
    have:=h3.resolve_left hc0
    omega
   subst hc1
   refine(builder_string L.b Lr.b bs.length cap _ bs cur w rfl hbs (by omega) hc0 (by omega) hh hg hcells).mono ?_
   rintro e w' ⟨rfl,rfl⟩
   have hn0:¬bs.length=0:=by omega
   have hoth:∀b,b≠Lr.b->(w.drew.freeze ⟨Lr.b,0,none⟩ bs.length).heap[b]?=w.heap[b]?:=fun b hb=>by
    simp only[World.freeze,if_neg hn0,Array.getElem?_modify]
    rw[if_neg (fun e=>hb e.symm)]
    rfl
   refine⟨_,F,φ,rfl,After.write hc hor hnl ?_ ?_ ?_ ?_ hoth (by simp only[ObjR]),hstr _ _ _⟩
   ·simp only[World.freeze,if_neg hn0];rfl
   ·simp only[World.freeze,if_neg hn0];rfl
   ·simp only[World.freeze,if_neg hn0];rfl
   ·simp only[World.freeze,if_neg hn0,Array.size_modify];rfl
end Go.AM
namespace Go.AM
open Go Go.Proofs
theorem le_addnilB{s:List AV}{own:List Obj}{n0:Nat}{mv:List Nat}(o:Nat)(T:TypeId)(u:Bool)(e:TypeId)(ho:own[o]?=some (.bld T u [.nils]))(h0:n0<=own.length) :
  Le ⟨s,own,n0,mv⟩ ⟨s,own.set o (.bld T u [.sl own.length 0 0])++[.brow e []],n0,mv⟩:=by
 rintro c a w ⟨hd,hn,F,φ,h2,h3,h4⟩
 let L:Loc:=⟨true,0,0,0,1⟩
 have hmono:=ext_old h3 L
 have h4':=AV.Rs_mono (fun _ h=>h) (Same.refl F w) hmono _ _ h4
 have h5:=h3.new (L:=L) (obj:=Obj.brow e []) (Nat.le_refl _) (fun _ _=>rfl) (fun hn'=>by cases hn') (by simp only[ObjR];exact⟨rfl,.inl ⟨rfl,trivial⟩⟩)
 refine⟨hd,hn,F,ext φ own.length L,⟨h2.sub,h2.ext,fun o L' hlt hm h=>hmono o L' (h2.keep o L' hlt hm h),h2.rest,fun o L' ho' hn'=>?_,h2.frsh⟩,?_,h4'⟩
 ·unfold ext at ho'
  split at ho'
  ·cases ho';cases hn'
  ·exact h2.orig o L' ho' hn'
 ·have holt:o<own.length:=by
   rcases Nat.lt_or_ge o own.length with h|h
   ·exact h
   ·rw[List.getElem?_eq_none h]at ho;cases ho
  refine⟨h5.fb,h5.live,h5.inj,fun o' obj ho'=>?_,fun o' ho'=>h5.out o' (by simpa using ho'),h5.glob⟩
  have hset:own.set o (.bld T u [.sl own.length 0 0])++[Obj.brow e []]=(own++[Obj.brow e []]).set o (Obj.bld T u [.sl own.length 0 0]):=by rw[List.set_append_left _ _ holt]
  simp only at ho'
  rw[hset,List.getElem?_set]at ho'
  by_cases e:o=o'
  ·subst e
   simp only[if_true,List.length_append,List.length_cons,List.length_nil,show o<own.length+(0+1) by omega,Option.some.injEq]at ho'
   subst ho'
   have hr:=h5.rep o (.bld T u [.nils]) (by rw[List.getElem?_append_left holt];exact ho)
   cases hl:ext φ own.length L o with
   | none=>rw[hl]at hr;simp only[ObjR]at hr
   | some L' =>
    rw[hl]at hr
    simp only[ObjR]at hr ⊢
    obtain⟨q1,q2,arr,ty,q3,q4,q5⟩:=hr
    refine⟨q1,q2,arr,ty,q3,q4,?_⟩
    simp only[AV.Rs]at q5 ⊢
    obtain⟨v,vs',rfl,hv,rfl⟩:=q5
    have hv':=R_nils.1 hv
    subst hv'
    refine⟨_,_,rfl,?_,rfl⟩
    simp only[AV.R]
    exact⟨L,ext_self _ _ _,.inl ⟨rfl,by simp⟩⟩
  ·rw[if_neg e]at ho'
   exact h5.rep o' obj ho'
theorem call_ws{l:List (Nat×Contract)}(hm:(52,wsC)∈l){o r:Nat}{u:Bool}{s bs:List UInt8}{own:List Obj}{K:AV->List Obj->List Nat->Prop}(hor:o≠r)(hobj:own.getD o .dead=.bld 80 u [.sl r 0 bs.length])(hrow:own.getD r .dead=.brow 5 bs)
  (hlen:bs.length+s.length<=140737488355328) (h:K (.tup [.dat (.int .i64 s.length),.top]) (((own.map (Obj.kill r)).set r (.brow 5 (bs++s))).set o (.bld 80 true [.sl r 0 (bs++s).length])) [r]) :
  callw (tbl l) (.fn 52 []) [.ptr o 0 0,.dat (.str s)] own K :=
 ⟨_,_,_,⟨wsC,hm,o,u,s,bs,r,rfl,hor,hobj,hrow,hlen,rfl,rfl,rfl⟩,h⟩
theorem call_str{l:List (Nat×Contract)}(hm:(55,strC)∈l){o r:Nat}{u:Bool}{bs:List UInt8}{own:List Obj}{K:AV->List Obj->List Nat->Prop}(hobj:own.getD o .dead=.bld 80 u [.sl r 0 bs.length])(hrow:own.getD r .dead=.brow 5 bs)
  (hlen:bs.length<=140737488355328) (h:K (.dat (.str bs)) (own.set r .dead) []):callw (tbl l) (.fn 55 []) [.ptr o 0 0] own K :=
 ⟨_,_,_,⟨strC,hm,o,u,bs,r,rfl,hobj,hrow,hlen,rfl,rfl,rfl⟩,h⟩
end Go.AM
namespace Go.AM
open Go Go.Proofs
@[go_sem] theorem bld_zero:T80.zero=some (.agg #[.pointer none,.slice none 0 0]):=eqk (by kernel_rfl)
@[go_sem ↓] theorem varObj_bld {t:TypeId}:varObj t (.agg #[.pointer none,.slice none 0 0])=.bld t false [.nils]:=Eq.trans rfl rfl
@[go_sem] theorem one_ptr:(Value.pointer none).oneCell'=true:=Eq.trans rfl rfl
theorem call_wsE{l:List (Nat×Contract)}(B:List UInt8)(hm:(52,wsC)∈l){o r:Nat}{u:Bool}{s bs:List UInt8}{own:List Obj}{K:AV->List Obj->List Nat->Prop}(hor:o≠r)(hobj:own.getD o .dead=.bld 80 u [.sl r 0 bs.length])(hrow:own.getD r .dead=.brow 5 bs)
  (hB:bs++s=B) (hlen:B.length<=140737488355328) (h:K (.tup [.dat (.int .i64 s.length),.top]) (((own.map (Obj.kill r)).set r (.brow 5 B)).set o (.bld 80 true [.sl r 0 B.length])) [r]) :
  callw (tbl l) (.fn 52 []) [.ptr o 0 0,.dat (.str s)] own K:=by
 subst hB
 exact call_ws hm hor hobj hrow (by simpa using hlen) h
end Go.AM
namespace Go.AM
open Go Go.Proofs
def fmtS(s:PSys):Str×Int:=if checkE s=0 then (textS s,0) else ([],checkE s)
def fmtR41(ds:List D)(v:AV):Prop:=∃s:PSys,ds=[sysD s]/\v=.tup [.dat (.str (fmtS s).1),.dat (.int .i64 (fmtS s).2)]
theorem joinL_snoc(l:List Str)(x:Str):joinL (l++[x])=joinL l++(x++[10]):=by rw[joinL_app];unfold joinL;simp
theorem pre_len{s:PSys}(g:Good s){l:List Str}(h:l <+: sysL s):(joinL l).length<=4000:=by
 obtain⟨h1,h2⟩:=sysL_len g
 have h3:=joinL_len l 28 fun x hx=>h1 x (h.subset hx)
 have h4:=h.length_le
 have h5:(28+1)*l.length<=(28+1)*88:=Nat.mul_le_mul_left _ (by omega)
 omega
theorem L1_pre(s:PSys)(k:Nat):(s.pools.take k).map poolL <+: sysL s:=by
 unfold sysL
 rw[List.append_assoc]
 refine List.IsPrefix.trans ?_ (List.prefix_append _ _)
 rw[List.map_take]
 exact List.take_prefix _ _
theorem L2_pre(s:PSys)(k:Nat):s.pools.map poolL++(s.locks.take k).map lockL <+: sysL s:=by
 unfold sysL
 refine List.IsPrefix.trans ?_ (List.prefix_append _ _)
 rw[List.map_take]
 exact List.prefix_append_right_inj _ |>.2 (List.take_prefix _ _)
theorem L3_pre(s:PSys)(k:Nat):s.pools.map poolL++s.locks.map lockL++(s.classes.take k).flatMap (clsT s) <+: sysL s:=by
 unfold sysL
 refine List.prefix_append_right_inj _ |>.2 ?_
 refine⟨(s.classes.drop k).flatMap (clsT s),?_⟩
 rw[← List.flatMap_append,List.take_append_drop]
theorem L4_pre(s:PSys){k:Nat}{c:PCls}{q:List PCls}(hd:s.classes.drop k=c :: q)(j:Nat):s.pools.map poolL++s.locks.map lockL++(s.classes.take k).flatMap (clsT s)++(clsL c :: (c.steps.take j).map fun x=>32 :: 32 :: stepT s x) <+: sysL s:=by
 refine List.IsPrefix.trans ?_ (L3_pre s (k+1))
 rw[take_of_drop hd,List.flatMap_append,← List.append_assoc]
 refine List.prefix_append_right_inj _ |>.2 ?_
 simp only[List.flatMap_cons,List.flatMap_nil,List.append_nil,clsT]
 rw[List.map_take]
 exact List.cons_prefix_cons.2 ⟨rfl,List.take_prefix _ _⟩
abbrev tabFo:List (Nat×Contract):=[(52,wsC),(55,strC),(15,dataC chkAR),(54,dataC (stpTR fun t=>t)),(53,dataC itoaR)]
theorem tabFo_ok:OkG Tryz.prog (tbl tabFo):=okG_cons writeString_ok (okG_cons string_ok (okG_cons checkA_ok (okG_cons fstep_ok (okG_cons itoa_ok okG_nil))))
theorem tabFo_dat(g:Nat)(C:Contract)(h:(g,C)∈tabFo)(hg:g∈[53]):∃R,C=dataC R:=by
 simp only[List.mem_singleton]at hg
 subst hg
 simp only[tabFo,List.mem_cons,Prod.mk.injEq,List.not_mem_nil,or_false]at h
 rcases h with⟨h,_⟩|⟨h,_⟩|⟨h,_⟩|⟨h,_⟩|⟨_,h⟩
 ·simp at h
 ·simp at h
 ·simp at h
 ·simp at h
 ·exact⟨_,h⟩
theorem format41_ok:OkF Tryz.prog 20 (dataC fmtR41):=by
 refine okF_data Tryz.func20 rfl (by decide) ?_
 rintro ds v ⟨s,rfl,rfl⟩
 refine sem_of_awpK [5] (Γ:=tbl tabFo) tabFo_ok _ _ _ ?_
 simp only[go_sem,Tryz.ntmps20,sysD]
 refine call_data chkAR (mem_ix 2 rfl) [sysD s] _ rfl ⟨s,rfl,rfl⟩ (.inl rfl) ?_
 unfold fmtS
 by_cases hc:checkE s=0
 ·rw[if_pos hc]
  have g:=goodS_of hc
  have gnp:=g.np;have gnl:=g.nl;have gnc:=g.nc
  have nmn:∀x∈namesL s,x.length<=8:=fun x hx=>(isNm_len (g.nms x hx)).2
  simp only[go_sem,hc,eq_self,decide_true,Bool.not_true]
  refine sem_le (le_addnilB 1 80 false 5 rfl (Nat.zero_le _)) ?_
  simp only[go_sem,List.length_cons,List.length_nil]
  refine sem_of_awp (Γ:=tbl tabFo) tabFo_ok _ _ _ ?_
  simp only[go_sem,List.length_map]
  refine sem_loop (fun p:Nat×Bool=>⟨slotsOf 91 [(1,.ptr 0 0 0),(5,.ptr 1 0 0),(21,.dat (.sl (some 3) (s.pools.map poolD))),(22,.dat (.int .i64 s.pools.length)),(23,.dat (.int .i64 p.1))],[.box [.dat (.sl (some 3) (s.pools.map poolD)),.dat (.sl none (strsD s.locks)),.dat (.sl (some 4) (s.classes.map clsD))],.bld 80 p.2 [.sl 2 0 (joinL ((s.pools.take p.1).map poolL)).length],.brow 5 (joinL ((s.pools.take p.1).map poolL))],0,[]⟩)
   (fun p=>p.1<=s.pools.length) (fun p=>s.pools.length - p.1) (0,false) (Nat.zero_le _) ?_ ?_
  ·exact le_slots' (by simp only[go_sem,Int.natCast_zero])
  rintro ⟨k,u⟩ hk
  simp only at hk ⊢
  refine sem_of_awp (Γ:=tbl tabFo) tabFo_ok _ _ _ ?_
  cases hd:s.pools.drop k with
  | nil =>
   have hke:=end_of_drop hd hk
   have k1:¬(k:Int)<(s.pools.length:Int):=by omega
   have hall:s.pools.take k=s.pools:=by rw[hke];exact List.take_length
   rw[hall]
   simp only[go_sem,k1,decide_false,List.length_map]
   refine sem_loop (fun p:Nat×Bool=>⟨slotsOf 91 [(1,.ptr 0 0 0),(5,.ptr 1 0 0),(44,.dat (.sl none (strsD s.locks))),(45,.dat (.int .i64 s.locks.length)),(46,.dat (.int .i64 p.1))],[.box [.dat (.sl (some 3) (s.pools.map poolD)),.dat (.sl none (strsD s.locks)),.dat (.sl (some 4) (s.classes.map clsD))],.bld 80 p.2 [.sl 2 0 (joinL (s.pools.map poolL++(s.locks.take p.1).map lockL)).length],.brow 5 (joinL (s.pools.map poolL++(s.locks.take p.1).map lockL))],0,[]⟩)
    (fun p=>p.1<=s.locks.length) (fun p=>s.locks.length - p.1) (0,u) (Nat.zero_le _) ?_ ?_
   ·simp only[List.take_zero,List.map_nil,List.append_nil]
    exact le_slots' (by simp only[go_sem,Int.natCast_zero])
   clear hd hke k1 hall hk
   rintro ⟨k,u⟩ hk
   simp only at hk ⊢
   refine sem_of_awp (Γ:=tbl tabFo) tabFo_ok _ _ _ ?_
   cases hd:s.locks.drop k with
   | nil =>
    have hke:=end_of_drop hd hk
    have k1:¬(k:Int)<(s.locks.length:Int):=by omega
    have hall:s.locks.take k=s.locks:=by rw[hke];exact List.take_length
    rw[hall]
    simp only[go_sem,k1,decide_false,List.length_map]
    refine sem_loop (fun p:Nat×Bool=>⟨slotsOf 91 [(1,.ptr 0 0 0),(5,.ptr 1 0 0),(56,.dat (.sl (some 4) (s.classes.map clsD))),(57,.dat (.int .i64 s.classes.length)),(58,.dat (.int .i64 p.1))],[.box [.dat (.sl (some 3) (s.pools.map poolD)),.dat (.sl none (strsD s.locks)),.dat (.sl (some 4) (s.classes.map clsD))],.bld 80 p.2 [.sl 2 0 (joinL (s.pools.map poolL++s.locks.map lockL++(s.classes.take p.1).flatMap (clsT s))).length],.brow 5 (joinL (s.pools.map poolL++s.locks.map lockL++(s.classes.take p.1).flatMap (clsT s)))],0,[]⟩)
     (fun p=>p.1<=s.classes.length) (fun p=>s.classes.length - p.1) (0,u) (Nat.zero_le _) ?_ ?_
    ·simp only[List.take_zero,List.flatMap_nil,List.append_nil]
     exact le_slots' (by simp only[go_sem,Int.natCast_zero])
    clear hd hke k1 hall hk
    rintro ⟨k,u⟩ hk
    simp only at hk ⊢
    refine sem_of_awpK [21] (Γ:=tbl tabFo) tabFo_ok _ _ _ ?_
    have hl0:=pre_len g (L3_pre s k)
    cases hd:s.classes.drop k with
    | nil =>
     have hke:=end_of_drop hd hk
     have k1:¬(k:Int)<(s.classes.length:Int):=by omega
     have hall:s.classes.take k=s.classes:=by rw[hke];exact List.take_length
     have htx:joinL (s.pools.map poolL++s.locks.map lockL++(s.classes.take k).flatMap (clsT s))=textS s:=by rw[hall];rfl
     rw[htx]at hl0 ⊢
     simp only[go_sem,k1,decide_false]
     refine call_str (r:=2) (mem_ix 1 rfl) rfl rfl (by omega) ?_
     simp only[go_sem]
     refine post_resO (mv':=[]) (.inl rfl) [.tmp 2,.tmp 3] rfl (fun _ h=>h) ?_
     simp only[go_sem]
     exact le_fin (by rfl) (by simp only[AV.under,AV.unders,and_self])
    | cons c r =>
     have hlt:=lt_of_drop hd
     have k1:(k:Int)<(s.classes.length:Int):=by omega
     have hk0:(0:Int)<=(k:Int):=by omega
     have hx:D.nth (s.classes.map clsD) k=clsD c:=nth_of_drop hd
     have hcm:=mem_of_drop hd
     have hcn:c.name.length<=8:=nmn _ (by unfold namesL;exact List.mem_append.2 (.inr (List.mem_map.2 ⟨c,hcm,rfl⟩)))
     have hwk:=g.wk c hcm
     have hns:=g.ns c hcm
     have hst:=g.st c hcm
     have i1:=(numOk (n:=c.workers) hwk.1 (by omega)).l3
     have hl1:=pre_len g (L4_pre s hd 0)
     have hsn:joinL (s.pools.map poolL++s.locks.map lockL++(s.classes.take k).flatMap (clsT s))++(clsL c++[10])=joinL (s.pools.map poolL++s.locks.map lockL++(s.classes.take k).flatMap (clsT s)++(clsL c :: (c.steps.take 0).map fun x=>32 :: 32 :: stepT s x)):=by
      rw[List.take_zero,List.map_nil,joinL_snoc]
     obtain⟨name,workers,server,steps⟩:=c
     simp only at hcn hwk hns hst i1 hl1 hsn
     simp only[go_sem,k1,hk0,decide_true,List.length_map,Int.toNat_natCast,hx,clsD]
     generalize hK:andThenK [21] Tryz.prog (tbl tabFo) _ _=Q2
     have hcl:∀σ σ',Le σ σ'->Q2 .normal σ'->Q2 .normal σ:=by
      subst hK
      intro σ σ' h1 h2
      exact sem_le h1 h2
     have hW:∃W:Str,W.length<=7/\W=(if server=true then [115,101,114,118,101,114,32] else [99,108,97,115,115,32]):=⟨_,by split <;> decide,rfl⟩
     obtain⟨W,hWl,hWe⟩:=hW
     have hcL:clsL ⟨name,workers,server,steps⟩=W++name++32 :: Lib.itoa workers:=by rw[hWe];rfl
     suffices hQ2:Q2 .normal ⟨slotsOf 91 [(1,.ptr 0 0 0),(5,.ptr 1 0 0),(11,.ptr 3 0 0),(12,.dat (.str W)),(56,.dat (.sl (some 4) (s.classes.map clsD))),(57,.dat (.int .i64 s.classes.length)),(58,.dat (.int .i64 k))],[.box [.dat (.sl (some 3) (s.pools.map poolD)),.dat (.sl none (strsD s.locks)),.dat (.sl (some 4) (s.classes.map clsD))],.bld 80 u [.sl 2 0 (joinL (s.pools.map poolL++s.locks.map lockL++(s.classes.take k).flatMap (clsT s))).length],.brow 5 (joinL (s.pools.map poolL++s.locks.map lockL++(s.classes.take k).flatMap (clsT s))),.box [.dat (.str name),.dat (.int .i64 workers),.dat (.bool server),.dat (stepsD steps)]],0,[]⟩ by
      cases server with
      | true =>
       simp only[if_true]at hWe
       subst hWe
       simp only[go_sem]
       refine hcl _ _ ?_ hQ2
       exact le_slots' (by simp only[go_sem])
      | false =>
       simp only[Bool.false_eq_true,if_false]at hWe
       subst hWe
       simp only[go_sem]
       refine hcl _ _ ?_ hQ2
       exact le_slots' (by simp only[go_sem])
     subst hK
     clear hcl
     simp only[andThenK_normal]
     refine sem_of_awp (Γ:=tbl tabFo) tabFo_ok _ _ _ ?_
     simp only[go_sem]
     refine sem_drawU [] [] (pf:=[53]) (mf:=[]) mixed tabFo_ok (pure_of tabFo_dat) (grow_of tabFo_dat) noMk (.one 0 (.one 5 (.one 6 (.one 7 (.alt 1 (.one 2 (.one 3 (.one 4 (.one 8 (.one 9 (.one 10 .fin)))))) .stop))))) (by kernel_rfl) ?_
     simp only[go_sem]
     refine call_data itoaR (mem_ix 4 rfl) [.int .i64 workers] _ rfl ⟨_,rfl,by omega,by omega,rfl⟩ (.inl rfl) ?_
     simp only[go_sem,List.length_cons,List.length_nil,List.length_append,and_true]
     refine⟨by simp only[maxLen];omega,by simp only[maxLen];omega,by simp only[maxLen];omega,by simp only[maxLen];omega,?_⟩
     refine call_wsE (joinL (s.pools.map poolL++s.locks.map lockL++(s.classes.take k).flatMap (clsT s)++(clsL ⟨name,workers,server,steps⟩ :: (steps.take 0).map fun x=>32 :: 32 :: stepT s x))) (r:=2) (bs:=joinL (s.pools.map poolL++s.locks.map lockL++(s.classes.take k).flatMap (clsT s))) (mem_ix 0 rfl) (by decide) rfl rfl (by rw[← hsn,hcL];simp) (by omega) ?_
     simp only[go_sem,and_true,stepsD,List.length_map]
     refine sem_loop (fun p:Nat=>⟨slotsOf 91 [(1,.ptr 0 0 0),(5,.ptr 1 0 0),(56,.dat (.sl (some 4) (s.classes.map clsD))),(57,.dat (.int .i64 s.classes.length)),(58,.dat (.int .i64 k)),(76,.dat (.sl (some 4) (steps.map stepD))),(77,.dat (.int .i64 steps.length)),(78,.dat (.int .i64 p))],[.box [.dat (.sl (some 3) (s.pools.map poolD)),.dat (.sl none (strsD s.locks)),.dat (.sl (some 4) (s.classes.map clsD))],.bld 80 true [.sl 2 0 (joinL (s.pools.map poolL++s.locks.map lockL++(s.classes.take k).flatMap (clsT s)++(clsL ⟨name,workers,server,steps⟩ :: (steps.take p).map fun x=>32 :: 32 :: stepT s x))).length],.brow 5 (joinL (s.pools.map poolL++s.locks.map lockL++(s.classes.take k).flatMap (clsT s)++(clsL ⟨name,workers,server,steps⟩ :: (steps.take p).map fun x=>32 :: 32 :: stepT s x)))],0,[]⟩)
      (fun p=>p<=steps.length) (fun p=>steps.length - p) 0 (Nat.zero_le _) ?_ ?_
     ·refine le_end (own:=[_,_,_]) (ex:=[_]) (Nat.zero_le _) ?_ ?_ ?_
      ·simp only[go_sem,Int.natCast_zero]
      ·simp only[go_sem]
      ·simp only[go_sem,AV.unders,AV.under,List.length_cons,List.length_nil]
     rintro j hj
     refine sem_of_awp (Γ:=tbl tabFo) tabFo_ok _ _ _ ?_
     have hm0:=pre_len g (L4_pre s hd j)
     have hm1:=pre_len g (L4_pre s hd (j+1))
     simp only at hm0 hm1
     cases hd2:steps.drop j with
     | nil =>
      have hje:=end_of_drop hd2 hj
      have j1:¬(j:Int)<(steps.length:Int):=by omega
      have hall:s.pools.map poolL++s.locks.map lockL++(s.classes.take k).flatMap (clsT s)++(clsL ⟨name,workers,server,steps⟩ :: (steps.take j).map fun x=>32 :: 32 :: stepT s x)=s.pools.map poolL++s.locks.map lockL++(s.classes.take (k+1)).flatMap (clsT s):=by
       rw[hje,List.take_length,take_of_drop hd,List.flatMap_append]
       simp[clsT]
      rw[hall]
      simp only[go_sem,j1,decide_false]
      refine⟨inR_i64.2 (by omega),(k+1,true),by show k+1<=_;omega,by show s.classes.length - (k+1)<_;omega,?_⟩
      exact le_slots' (by simp only[go_sem,Int.natCast_add,Int.cast_ofNat_Int])
     | cons x q =>
      have hjlt:=lt_of_drop hd2
      have j1:(j:Int)<(steps.length:Int):=by omega
      have j0:(0:Int)<=(j:Int):=by omega
      have hy:D.nth (steps.map stepD) j=stepD x:=nth_of_drop hd2
      have hxm:=mem_of_drop hd2
      have hpx:=hst x hxm
      have hsn2:joinL (s.pools.map poolL++s.locks.map lockL++(s.classes.take k).flatMap (clsT s)++(clsL ⟨name,workers,server,steps⟩ :: (steps.take j).map fun x=>32 :: 32 :: stepT s x))++((32 :: 32 :: stepT s x)++[10])=joinL (s.pools.map poolL++s.locks.map lockL++(s.classes.take k).flatMap (clsT s)++(clsL ⟨name,workers,server,steps⟩ :: (steps.take (j+1)).map fun x=>32 :: 32 :: stepT s x)):=by
       rw[take_of_drop hd2,List.map_append,List.map_cons,List.map_nil,← List.cons_append,← List.append_assoc (s.pools.map poolL++s.locks.map lockL++(s.classes.take k).flatMap (clsT s)),joinL_snoc]
      have hsl:(stepT s x).length<=28:=by
       have h28:=(sysL_len g).1 (32 :: 32 :: stepT s x) (by
        unfold sysL
        refine List.mem_append.2 (.inr (List.mem_flatMap.2 ⟨_,hcm,?_⟩))
        unfold clsT
        exact List.mem_cons.2 (.inr (List.mem_map.2 ⟨x,hxm,rfl⟩)))
       simp only[List.length_cons]at h28
       omega
      simp only[go_sem,j1,j0,decide_true,List.length_map,Int.toNat_natCast,hy,stepD]
      refine call_data (stpTR fun t=>t) (mem_ix 3 rfl) [sysD s,stepD x] _ rfl ⟨s,x,rfl,hc,hpx,rfl⟩ (.inl rfl) ?_
      simp only[go_sem,List.length_cons,List.length_nil,List.length_append]
      refine⟨by simp only[maxLen];omega,by simp only[maxLen];omega,?_⟩
      refine call_wsE (joinL (s.pools.map poolL++s.locks.map lockL++(s.classes.take k).flatMap (clsT s)++(clsL ⟨name,workers,server,steps⟩ :: (steps.take (j+1)).map fun x=>32 :: 32 :: stepT s x))) (r:=2) (bs:=joinL (s.pools.map poolL++s.locks.map lockL++(s.classes.take k).flatMap (clsT s)++(clsL ⟨name,workers,server,steps⟩ :: (steps.take j).map fun x=>32 :: 32 :: stepT s x))) (mem_ix 0 rfl) (by decide) rfl rfl (by rw[← hsn2];simp) (by omega) ?_
      simp only[go_sem]
      refine⟨inR_i64.2 (by omega),j+1,by omega,by omega,?_⟩
      refine le_end (own:=[_,_,_]) (ex:=[_]) (Nat.zero_le _) ?_ ?_ ?_
      ·simp only[go_sem,Int.natCast_add,Int.cast_ofNat_Int]
      ·simp only[go_sem]
      ·simp only[go_sem,AV.unders,AV.under,List.length_cons,List.length_nil]
   | cons p r =>
    have hlt:=lt_of_drop hd
    have k1:(k:Int)<(s.locks.length:Int):=by omega
    have hk0:(0:Int)<=(k:Int):=by omega
    have hx:D.nth (strsD s.locks) k=.str p:=nth_of_drop hd
    have hpm:=mem_of_drop hd
    have hpn:p.length<=8:=nmn _ (by unfold namesL;exact List.mem_append.2 (.inl (List.mem_append.2 (.inr hpm))))
    have hl0:=pre_len g (L2_pre s k)
    have hl1:=pre_len g (L2_pre s (k+1))
    have hsn:joinL (s.pools.map poolL++(s.locks.take k).map lockL)++(lockL p++[10])=joinL (s.pools.map poolL++(s.locks.take (k+1)).map lockL):=by rw[take_of_drop hd,List.map_append,List.map_cons,List.map_nil,← List.append_assoc (s.pools.map poolL),joinL_snoc]
    simp only[go_sem,k1,hk0,decide_true,List.length_map,Int.toNat_natCast,hx,List.length_cons,List.length_nil,List.length_append]
    refine⟨by simp only[maxLen];omega,by simp only[maxLen];omega,?_⟩
    refine call_wsE (joinL (s.pools.map poolL++(s.locks.take (k+1)).map lockL)) (r:=2) (bs:=joinL (s.pools.map poolL++(s.locks.take k).map lockL)) (mem_ix 0 rfl) (by decide) rfl rfl (by rw[← hsn];simp[lockL]) (by omega) ?_
    simp only[go_sem]
    refine⟨inR_i64.2 (by omega),(k+1,true),by show k+1<=_;omega,by show s.locks.length - (k+1)<_;omega,?_⟩
    exact le_slots' (by simp only[go_sem,Int.natCast_add,Int.cast_ofNat_Int])
  | cons p r =>
   have hlt:=lt_of_drop hd
   have k1:(k:Int)<(s.pools.length:Int):=by omega
   have hk0:(0:Int)<=(k:Int):=by omega
   have hx:D.nth (s.pools.map poolD) k=poolD p:=nth_of_drop hd
   have hpm:=mem_of_drop hd
   have hpn:p.name.length<=8:=nmn _ (by unfold namesL;exact List.mem_append.2 (.inl (List.mem_append.2 (.inl (List.mem_map.2 ⟨p,hpm,rfl⟩)))))
   obtain⟨b1,b2,b3,b4⟩:=pool_fit (g.pl p hpm)
   have i1:=(numOk (n:=p.size) (by omega) (by omega)).l3
   have i2:=(numOk (n:=p.res) (by omega) (by omega)).l3
   have hl0:=pre_len g (L1_pre s k)
   have hl1:=pre_len g (L1_pre s (k+1))
   have hsn:joinL ((s.pools.take k).map poolL)++(poolL p++[10])=joinL ((s.pools.take (k+1)).map poolL):=by rw[take_of_drop hd,List.map_append,List.map_cons,List.map_nil,joinL_snoc]
   simp only[go_sem,k1,hk0,decide_true,List.length_map,Int.toNat_natCast,hx,poolD]
   refine sem_drawU [] [] (pf:=[53]) (mf:=[]) mixed tabFo_ok (pure_of tabFo_dat) (grow_of tabFo_dat) noMk (.one 4 (.one 5 (.one 6 (.one 9 (.one 10 (.one 11 (.alt 0 (.alt 1 (.alt 2 (.one 3 (.one 7 (.one 8 (.one 12 (.one 13 (.one 14 .fin)))))) .stop) .stop) .stop))))))) (by kernel_rfl) ?_
   simp only[go_sem]
   refine call_data itoaR (mem_ix 4 rfl) [.int .i64 p.size] _ rfl ⟨_,rfl,by omega,by omega,rfl⟩ (.inl rfl) ?_
   simp only[go_sem]
   refine call_data itoaR (mem_ix 4 rfl) [.int .i64 p.res] _ rfl ⟨_,rfl,by omega,by omega,rfl⟩ (.inl rfl) ?_
   simp only[go_sem,List.length_cons,List.length_nil,List.length_append,and_true]
   refine⟨by simp only[maxLen];omega,by simp only[maxLen];omega,by simp only[maxLen];omega,by simp only[maxLen];omega,by simp only[maxLen];omega,by simp only[maxLen];omega,?_⟩
   refine call_wsE (joinL ((s.pools.take (k+1)).map poolL)) (r:=2) (bs:=joinL ((s.pools.take k).map poolL)) (mem_ix 0 rfl) (by decide) rfl rfl (by rw[← hsn];simp[poolL]) (by omega) ?_
   simp only[go_sem,and_true]
   refine⟨inR_i64.2 (by omega),(k+1,true),by show k+1<=_;omega,by show s.pools.length - (k+1)<_;omega,?_⟩
   refine le_end (own:=[_,_,_]) (ex:=[_]) (Nat.zero_le _) ?_ ?_ ?_
   ·simp only[go_sem,Int.natCast_add,Int.cast_ofNat_Int]
   ·simp only[go_sem]
   ·simp only[go_sem,AV.unders,AV.under,List.length_cons,List.length_nil]
 ·rw[if_neg hc]
  simp only[go_sem,hc,decide_false,Bool.not_false]
  refine post_resO (mv':=[]) (.inl rfl) [.tmp 2,.tmp 3] rfl (fun _ h=>h) ?_
  simp only[go_sem]
  exact le_fin (by rfl) (by simp only[AV.under,AV.unders,and_self])
end Go.AM
namespace Go.AM
open Go Go.Proofs
abbrev tabFq:List (Nat×Contract):=[(16,dataC chkAR),(56,dataC (stpTR lnT)),(53,dataC itoaR)]
theorem tabFq_ok:OkG Tryz.prog (tbl tabFq):=okG_cons rcheckA_ok (okG_cons rline_ok (okG_cons itoa_ok okG_nil))
theorem tabFq_dat(g:Nat)(C:Contract)(h:(g,C)∈tabFq):∃R,C=dataC R:=by
 simp only[tabFq,List.mem_cons,Prod.mk.injEq,List.not_mem_nil,or_false]at h
 rcases h with⟨_,h⟩|⟨_,h⟩|⟨_,h⟩ <;> exact⟨_,h⟩
theorem pfFq(l:List Nat):PureFns (tbl tabFq) l:=pure_of fun g C h _=>tabFq_dat g C h
theorem gfFq(l:List Nat):GrowFns (tbl tabFq) l:=grow_of fun g C h _=>tabFq_dat g C h
theorem rformat41_ok:OkF Tryz.prog 21 (dataC fmtR41):=by
 refine okF_data Tryz.func21 rfl (by decide) ?_
 rintro ds v ⟨s,rfl,rfl⟩
 refine sem_of_awp (Γ:=tbl tabFq) tabFq_ok _ _ _ ?_
 simp only[go_sem,Tryz.ntmps21,sysD]
 refine call_data chkAR (mem_ix 0 rfl) [sysD s] _ rfl ⟨s,rfl,rfl⟩ (.inl rfl) ?_
 unfold fmtS
 by_cases hc:checkE s=0
 ·rw[if_pos hc]
  have g:=goodS_of hc
  have gnp:=g.np;have gnl:=g.nl;have gnc:=g.nc
  have nmn:∀x∈namesL s,x.length<=8:=fun x hx=>(isNm_len (g.nms x hx)).2
  simp only[go_sem,hc,eq_self,decide_true,Bool.not_true]
  refine sem_loop (fun p:Nat=>⟨slotsOf 112 [(1,.ptr 0 0 0),(5,.dat (.str (joinL ((s.pools.take p).map poolL)))),(6,.dat (.int .i64 p))],[.box [.dat (.sl (some 3) (s.pools.map poolD)),.dat (.sl none (strsD s.locks)),.dat (.sl (some 4) (s.classes.map clsD))]],0,[]⟩)
   (fun p=>p<=s.pools.length) (fun p=>s.pools.length - p) 0 (Nat.zero_le _) ?_ ?_
  ·exact le_slots' (by simp only[go_sem,Int.natCast_zero,List.take_zero,List.map_nil,joinL,List.flatMap_nil])
  rintro k hk
  refine sem_of_awp (Γ:=tbl tabFq) tabFq_ok _ _ _ ?_
  cases hd:s.pools.drop k with
  | nil =>
   have hke:=end_of_drop hd hk
   have k1:¬(k:Int)<(s.pools.length:Int):=by omega
   have hall:s.pools.take k=s.pools:=by rw[hke];exact List.take_length
   rw[hall]
   simp only[go_sem,k1,decide_false,List.length_map]
   refine sem_loop (fun p:Nat=>⟨slotsOf 112 [(1,.ptr 0 0 0),(5,.dat (.str (joinL (s.pools.map poolL++(s.locks.take p).map lockL)))),(7,.dat (.int .i64 p))],[.box [.dat (.sl (some 3) (s.pools.map poolD)),.dat (.sl none (strsD s.locks)),.dat (.sl (some 4) (s.classes.map clsD))]],0,[]⟩)
    (fun p=>p<=s.locks.length) (fun p=>s.locks.length - p) 0 (Nat.zero_le _) ?_ ?_
   ·simp only[List.take_zero,List.map_nil,List.append_nil]
    exact le_slots' (by simp only[go_sem,Int.natCast_zero])
   clear hd hke k1 hall hk
   rintro k hk
   refine sem_of_awp (Γ:=tbl tabFq) tabFq_ok _ _ _ ?_
   cases hd:s.locks.drop k with
   | nil =>
    have hke:=end_of_drop hd hk
    have k1:¬(k:Int)<(s.locks.length:Int):=by omega
    have hall:s.locks.take k=s.locks:=by rw[hke];exact List.take_length
    rw[hall]
    simp only[go_sem,k1,decide_false,List.length_map]
    refine sem_loop (fun p:Nat=>⟨slotsOf 112 [(1,.ptr 0 0 0),(5,.dat (.str (joinL (s.pools.map poolL++s.locks.map lockL++(s.classes.take p).flatMap (clsT s))))),(8,.dat (.int .i64 p))],[.box [.dat (.sl (some 3) (s.pools.map poolD)),.dat (.sl none (strsD s.locks)),.dat (.sl (some 4) (s.classes.map clsD))]],0,[]⟩)
     (fun p=>p<=s.classes.length) (fun p=>s.classes.length - p) 0 (Nat.zero_le _) ?_ ?_
    ·simp only[List.take_zero,List.flatMap_nil,List.append_nil]
     exact le_slots' (by simp only[go_sem,Int.natCast_zero])
    clear hd hke k1 hall hk
    rintro k hk
    refine sem_of_awpK [20] (Γ:=tbl tabFq) tabFq_ok _ _ _ ?_
    have hl0:=pre_len g (L3_pre s k)
    cases hd:s.classes.drop k with
    | nil =>
     have hke:=end_of_drop hd hk
     have k1:¬(k:Int)<(s.classes.length:Int):=by omega
     have hall:s.classes.take k=s.classes:=by rw[hke];exact List.take_length
     have htx:joinL (s.pools.map poolL++s.locks.map lockL++(s.classes.take k).flatMap (clsT s))=textS s:=by rw[hall];rfl
     rw[htx]at hl0 ⊢
     simp only[go_sem,k1,decide_false,List.length_map]
     refine post_resO (mv':=[]) (.inl rfl) [.tmp 2,.tmp 3] rfl (fun _ h=>h) ?_
     simp only[go_sem]
     exact le_fin (by rfl) (by simp only[AV.under,AV.unders,and_self])
    | cons c r =>
     have hlt:=lt_of_drop hd
     have k1:(k:Int)<(s.classes.length:Int):=by omega
     have hk0:(0:Int)<=(k:Int):=by omega
     have hx:D.nth (s.classes.map clsD) k=clsD c:=nth_of_drop hd
     have hcm:=mem_of_drop hd
     have hcn:c.name.length<=8:=nmn _ (by unfold namesL;exact List.mem_append.2 (.inr (List.mem_map.2 ⟨c,hcm,rfl⟩)))
     have hwk:=g.wk c hcm
     have hns:=g.ns c hcm
     have hst:=g.st c hcm
     have i1:=(numOk (n:=c.workers) hwk.1 (by omega)).l3
     have hl1:=pre_len g (L4_pre s hd 0)
     have hsn:joinL (s.pools.map poolL++s.locks.map lockL++(s.classes.take k).flatMap (clsT s))++(clsL c++[10])=joinL (s.pools.map poolL++s.locks.map lockL++(s.classes.take k).flatMap (clsT s)++(clsL c :: (c.steps.take 0).map fun x=>32 :: 32 :: stepT s x)):=by
      rw[List.take_zero,List.map_nil,joinL_snoc]
     obtain⟨name,workers,server,steps⟩:=c
     simp only at hcn hwk hns hst i1 hl1 hsn
     simp only[go_sem,k1,hk0,decide_true,List.length_map,Int.toNat_natCast,hx,clsD]
     generalize hK:andThenK [20] Tryz.prog (tbl tabFq) _ _=Q2
     have hcl:∀σ σ',Le σ σ'->Q2 .normal σ'->Q2 .normal σ:=by
      subst hK
      intro σ σ' h1 h2
      exact sem_le h1 h2
     have hW:∃W:Str,W.length<=7/\W=(if server=true then [115,101,114,118,101,114,32] else [99,108,97,115,115,32]):=⟨_,by split <;> decide,rfl⟩
     obtain⟨W,hWl,hWe⟩:=hW
     have hcL:clsL ⟨name,workers,server,steps⟩=W++name++32 :: Lib.itoa workers:=by rw[hWe];rfl
     suffices hQ2:Q2 .normal ⟨slotsOf 112 [(1,.ptr 0 0 0),(5,.dat (.str (joinL (s.pools.map poolL++s.locks.map lockL++(s.classes.take k).flatMap (clsT s))++W))),(8,.dat (.int .i64 k)),(9,.ptr 1 0 0)],[.box [.dat (.sl (some 3) (s.pools.map poolD)),.dat (.sl none (strsD s.locks)),.dat (.sl (some 4) (s.classes.map clsD))],.box [.dat (.str name),.dat (.int .i64 workers),.dat (.bool server),.dat (.sl (some 4) (steps.map stepD))]],0,[]⟩ by
      cases server with
      | true =>
       simp only[if_true]at hWe
       subst hWe
       simp only[go_sem,stepsD,List.length_cons,List.length_nil,List.length_append]
       refine⟨by simp only[maxLen];omega,?_⟩
       refine hcl _ _ ?_ hQ2
       exact le_slots' (by simp only[go_sem])
      | false =>
       simp only[Bool.false_eq_true,if_false]at hWe
       subst hWe
       simp only[go_sem,stepsD,List.length_cons,List.length_nil,List.length_append]
       refine⟨by simp only[maxLen];omega,?_⟩
       refine hcl _ _ ?_ hQ2
       exact le_slots' (by simp only[go_sem])
     subst hK
     clear hcl
     simp only[andThenK_normal]
     refine sem_of_awp (Γ:=tbl tabFq) tabFq_ok _ _ _ ?_
     simp only[go_sem]
     refine sem_drawU [] [] (pf:=[53]) (mf:=[]) mixed tabFq_ok (pfFq _) (gfFq _) noMk (ones [0,1,2,3,4,5,6,7,8,9,10]) (by kernel_rfl) ?_
     simp only[go_sem,List.length_cons,List.length_nil,List.length_append]
     refine⟨by simp only[maxLen];omega,?_⟩
     refine call_data itoaR (mem_ix 2 rfl) [.int .i64 workers] _ rfl ⟨_,rfl,by omega,by omega,rfl⟩ (.inl rfl) ?_
     have hsn1:joinL (s.pools.map poolL++s.locks.map lockL++(s.classes.take k).flatMap (clsT s))++W++(name++([32]++(Lib.itoa workers++[10])))=joinL (s.pools.map poolL++s.locks.map lockL++(s.classes.take k).flatMap (clsT s)++(clsL ⟨name,workers,server,steps⟩ :: (steps.take 0).map fun x=>32 :: 32 :: stepT s x)):=by rw[← hsn,hcL];simp
     simp only[go_sem,List.length_cons,List.length_nil,List.length_append,and_true]
     refine⟨by simp only[maxLen];omega,by simp only[maxLen];omega,by simp only[maxLen];omega,?_⟩
     have hsn3:joinL (s.pools.map poolL++s.locks.map lockL++(s.classes.take k).flatMap (clsT s))++W++(name++[32]++Lib.itoa workers++[10])=joinL (s.pools.map poolL++s.locks.map lockL++(s.classes.take k).flatMap (clsT s)++(clsL ⟨name,workers,server,steps⟩ :: (steps.take 0).map fun x=>32 :: 32 :: stepT s x)):=by rw[← hsn1];simp only[List.append_assoc]
     rw[hsn3]
     refine sem_loop (fun p:Nat=>⟨slotsOf 112 [(1,.ptr 0 0 0),(5,.dat (.str (joinL (s.pools.map poolL++s.locks.map lockL++(s.classes.take k).flatMap (clsT s)++(clsL ⟨name,workers,server,steps⟩ :: (steps.take p).map fun x=>32 :: 32 :: stepT s x))))),(8,.dat (.int .i64 k)),(9,.ptr 1 0 0),(10,.dat (.int .i64 p))],[.box [.dat (.sl (some 3) (s.pools.map poolD)),.dat (.sl none (strsD s.locks)),.dat (.sl (some 4) (s.classes.map clsD))],.box [.dat (.str name),.dat (.int .i64 workers),.dat (.bool server),.dat (.sl (some 4) (steps.map stepD))]],0,[]⟩)
      (fun p=>p<=steps.length) (fun p=>steps.length - p) 0 (Nat.zero_le _) ?_ ?_
     ·exact le_slots' (by simp only[go_sem,Int.natCast_zero])
     rintro j hj
     refine sem_of_awp (Γ:=tbl tabFq) tabFq_ok _ _ _ ?_
     have hm0:=pre_len g (L4_pre s hd j)
     have hm1:=pre_len g (L4_pre s hd (j+1))
     simp only at hm0 hm1
     cases hd2:steps.drop j with
     | nil =>
      have hje:=end_of_drop hd2 hj
      have j1:¬(j:Int)<(steps.length:Int):=by omega
      have hall:s.pools.map poolL++s.locks.map lockL++(s.classes.take k).flatMap (clsT s)++(clsL ⟨name,workers,server,steps⟩ :: (steps.take j).map fun x=>32 :: 32 :: stepT s x)=s.pools.map poolL++s.locks.map lockL++(s.classes.take (k+1)).flatMap (clsT s):=by
       rw[hje,List.take_length,take_of_drop hd,List.flatMap_append]
       simp[clsT]
      rw[hall]
      simp only[go_sem,j1,decide_false,List.length_map]
      refine⟨inR_i64.2 (by omega),k+1,by omega,by omega,?_⟩
      refine le_end (own:=[_]) (ex:=[_]) (Nat.zero_le _) ?_ ?_ ?_
      ·simp only[go_sem,Int.natCast_add,Int.cast_ofNat_Int]
      ·simp only[go_sem]
      ·simp only[go_sem,AV.unders,AV.under,List.length_cons,List.length_nil]
     | cons x q =>
      have hjlt:=lt_of_drop hd2
      have j1:(j:Int)<(steps.length:Int):=by omega
      have j0:(0:Int)<=(j:Int):=by omega
      have hy:D.nth (steps.map stepD) j=stepD x:=nth_of_drop hd2
      have hxm:=mem_of_drop hd2
      have hpx:=hst x hxm
      have hsn2:joinL (s.pools.map poolL++s.locks.map lockL++(s.classes.take k).flatMap (clsT s)++(clsL ⟨name,workers,server,steps⟩ :: (steps.take j).map fun x=>32 :: 32 :: stepT s x))++((32 :: 32 :: stepT s x)++[10])=joinL (s.pools.map poolL++s.locks.map lockL++(s.classes.take k).flatMap (clsT s)++(clsL ⟨name,workers,server,steps⟩ :: (steps.take (j+1)).map fun x=>32 :: 32 :: stepT s x)):=by
       rw[take_of_drop hd2,List.map_append,List.map_cons,List.map_nil,← List.cons_append,← List.append_assoc (s.pools.map poolL++s.locks.map lockL++(s.classes.take k).flatMap (clsT s)),joinL_snoc]
      have hsl:(stepT s x).length<=28:=by
       have h28:=(sysL_len g).1 (32 :: 32 :: stepT s x) (by
        unfold sysL
        refine List.mem_append.2 (.inr (List.mem_flatMap.2 ⟨_,hcm,?_⟩))
        unfold clsT
        exact List.mem_cons.2 (.inr (List.mem_map.2 ⟨x,hxm,rfl⟩)))
       simp only[List.length_cons]at h28
       omega
      simp only[go_sem,j1,j0,decide_true,List.length_map,Int.toNat_natCast,hy,stepD]
      refine sem_drawU [] [] (pf:=[56]) (mf:=[]) mixed tabFq_ok (pfFq _) (gfFq _) noMk (ones [0,1,2,3,4,5,6,7,8,9]) (by kernel_rfl) ?_
      simp only[go_sem,j1,j0,decide_true,List.length_map,Int.toNat_natCast,hy]
      refine call_data (stpTR lnT) (mem_ix 1 rfl) [sysD s,stepD x] _ rfl ⟨s,x,rfl,hc,hpx,rfl⟩ (.inl rfl) ?_
      have hsn4:joinL (s.pools.map poolL++s.locks.map lockL++(s.classes.take k).flatMap (clsT s)++(clsL ⟨name,workers,server,steps⟩ :: (steps.take j).map fun x=>32 :: 32 :: stepT s x))++lnT (stepT s x)=joinL (s.pools.map poolL++s.locks.map lockL++(s.classes.take k).flatMap (clsT s)++(clsL ⟨name,workers,server,steps⟩ :: (steps.take (j+1)).map fun x=>32 :: 32 :: stepT s x)):=hsn2
      have hll:(lnT (stepT s x)).length<=40:=by simp only[lnT,List.length_append,List.length_cons,List.length_nil];omega
      generalize lnT (stepT s x)=ln at *
      simp only[go_sem,hsn4,List.length_cons,List.length_nil,List.length_append]
      refine⟨by simp only[maxLen];omega,inR_i64.2 (by omega),j+1,by omega,by omega,?_⟩
      exact le_slots' (by simp only[go_sem,Int.natCast_add,Int.cast_ofNat_Int])
   | cons p r =>
    have hlt:=lt_of_drop hd
    have k1:(k:Int)<(s.locks.length:Int):=by omega
    have hk0:(0:Int)<=(k:Int):=by omega
    have hx:D.nth (strsD s.locks) k=.str p:=nth_of_drop hd
    have hpm:=mem_of_drop hd
    have hpn:p.length<=8:=nmn _ (by unfold namesL;exact List.mem_append.2 (.inl (List.mem_append.2 (.inr hpm))))
    have hl0:=pre_len g (L2_pre s k)
    have hl1:=pre_len g (L2_pre s (k+1))
    have hsn:joinL (s.pools.map poolL++(s.locks.take k).map lockL)++(lockL p++[10])=joinL (s.pools.map poolL++(s.locks.take (k+1)).map lockL):=by rw[take_of_drop hd,List.map_append,List.map_cons,List.map_nil,← List.append_assoc (s.pools.map poolL),joinL_snoc]
    simp only[go_sem,k1,hk0,decide_true,List.length_map,Int.toNat_natCast,hx,List.length_cons,List.length_nil,List.length_append]
    refine⟨by simp only[maxLen];omega,by simp only[maxLen];omega,by simp only[maxLen];omega,inR_i64.2 (by omega),k+1,by omega,by omega,?_⟩
    have hs2:joinL (s.pools.map poolL++(s.locks.take k).map lockL)++109 :: 117 :: 116 :: 101 :: 120 :: 32 :: (p++[10])=joinL (s.pools.map poolL++(s.locks.take (k+1)).map lockL):=by rw[← hsn];simp[lockL]
    rw[hs2]
    exact le_slots' (by simp only[go_sem,Int.natCast_add,Int.cast_ofNat_Int])
  | cons p r =>
   have hlt:=lt_of_drop hd
   have k1:(k:Int)<(s.pools.length:Int):=by omega
   have hk0:(0:Int)<=(k:Int):=by omega
   have hx:D.nth (s.pools.map poolD) k=poolD p:=nth_of_drop hd
   have hpm:=mem_of_drop hd
   have hpn:p.name.length<=8:=nmn _ (by unfold namesL;exact List.mem_append.2 (.inl (List.mem_append.2 (.inl (List.mem_map.2 ⟨p,hpm,rfl⟩)))))
   obtain⟨b1,b2,b3,b4⟩:=pool_fit (g.pl p hpm)
   have i1:=(numOk (n:=p.size) (by omega) (by omega)).l3
   have i2:=(numOk (n:=p.res) (by omega) (by omega)).l3
   have hl0:=pre_len g (L1_pre s k)
   have hl1:=pre_len g (L1_pre s (k+1))
   have hsn:joinL ((s.pools.take k).map poolL)++(poolL p++[10])=joinL ((s.pools.take (k+1)).map poolL):=by rw[take_of_drop hd,List.map_append,List.map_cons,List.map_nil,joinL_snoc]
   simp only[go_sem,k1,hk0,decide_true,List.length_map,Int.toNat_natCast,hx,poolD]
   refine sem_drawU [] [] (pf:=[53]) (mf:=[]) mixed tabFq_ok (pfFq _) (gfFq _) noMk (ones [0,1,2,3,4,5,6,7,8,9,10,11,12,13,14,15,16,17,18,19,20,21,22,23,24,25,26,27,28]) (by kernel_rfl) ?_
   simp only[go_sem,k1,hk0,hx,poolD,List.length_map,List.length_cons,List.length_nil,List.length_append]
   refine⟨by simp only[maxLen];omega,by simp only[maxLen];omega,?_⟩
   refine call_data itoaR (mem_ix 2 rfl) [.int .i64 p.size] _ rfl ⟨_,rfl,by omega,by omega,rfl⟩ (.inl rfl) ?_
   simp only[go_sem,k1,hk0,hx,poolD,List.length_map,List.length_cons,List.length_nil,List.length_append]
   refine⟨by simp only[maxLen];omega,by simp only[maxLen];omega,?_⟩
   refine call_data itoaR (mem_ix 2 rfl) [.int .i64 p.res] _ rfl ⟨_,rfl,by omega,by omega,rfl⟩ (.inl rfl) ?_
   simp only[go_sem,List.length_map,List.length_cons,List.length_nil,List.length_append]
   refine⟨by simp only[maxLen];omega,by simp only[maxLen];omega,by simp only[maxLen];omega,inR_i64.2 (by omega),k+1,by omega,by omega,?_⟩
   have hs2:joinL ((s.pools.take k).map poolL)++112 :: 111 :: 111 :: 108 :: 32 :: (p.name++[32]++Lib.itoa p.size++[32]++Lib.itoa p.res++[10])=joinL ((s.pools.take (k+1)).map poolL):=by rw[← hsn];simp[poolL]
   rw[hs2]
   exact le_slots' (by simp only[go_sem,Int.natCast_add,Int.cast_ofNat_Int])
 ·rw[if_neg hc]
  simp only[go_sem,hc,decide_false,Bool.not_false]
  refine post_resO (mv':=[]) (.inl rfl) [.tmp 2,.tmp 3] rfl (fun _ h=>h) ?_
  simp only[go_sem]
  exact le_fin (by rfl) (by simp only[AV.under,AV.unders,and_self])
end Go.AM
namespace Go.AM
open Go Go.Proofs
def ustep(pool:Int)(p:Int×Int)(x:PStep):Int×Int :=
 if x.on=pool then (if x.kind=1 then (p.1+x.cnt,if x.deep=true then p.2+x.cnt else p.2) else if x.kind=2 then (p.1 - x.cnt,p.2 - min p.2 x.cnt) else p) else p
def ownU(pool:Int)(l:List PStep):Int×Int:=l.foldl (ustep pool) (0,0)
def selU(d:Bool)(p:Int×Int):Int:=if d=true then p.2 else p.1
def mxN(pool:Int)(d:Bool)(l:List PStep):Nat->Int
 | 0=>0
 | k+1=>max (mxN pool d l k) (selU d (ownU pool (l.take (k+1))))
abbrev clsO(c:PCls):Obj:=.box [.dat (.str c.name),.dat (.int .i64 c.workers),.dat (.bool c.server),.dat (.sl (some 4) (c.steps.map stepD))]
def peakR(ds:List D)(v:AV):Prop:=∃(c:PCls) (pool:Int),ds=[clsD c,.int .i64 pool]/\Tame c.steps/\c.steps.length<=1000 /\
 v=.tup [.dat (.int .i64 (mxN pool false c.steps c.steps.length)),.dat (.int .i64 (mxN pool true c.steps c.steps.length))]
def unitsR(ds:List D)(v:AV):Prop:=∃(c:PCls) (pool:Int) (k:Nat) (d:Bool),ds=[clsD c,.int .i64 pool,.int .i64 k,.bool d]/\Tame c.steps/\c.steps.length<=1000/\k<=c.steps.length /\
 v=.dat (.int .i64 (selU d (ownU pool (c.steps.take k))))
end Go.AM
namespace Go.AM
open Go Go.Proofs
structure PCls.good (s:PSys) (c:PCls):Prop where
 w0:0<=c.workers
 w4:c.workers<=4
 l1:1<=c.steps.length
 l12:c.steps.length<=12
 run:verd (runE s c.steps (hold0 s))=0
 pre:∀x∈c.steps,preE s x=0
structure PSys.good (s:PSys):Prop where
 np:s.pools.length<=6
 nl:s.locks.length<=4
 nc:s.classes.length<=6
 pool:∀p∈s.pools,¬p.bad
 cls:∀c∈s.classes,c.good s
theorem verd_pre{s:PSys}:∀{l:List PStep} {h:Hold},verd (runE s l h)=0->∀x∈l,preE s x=0
 | [],_,_,x,hx=>by simp at hx
 | y :: l,h,hv,x,hx=>by
  by_cases he:stepE s h.units h.locks y=0
  ·rw[verd_go he]at hv
   rcases List.mem_cons.1 hx with rfl|hx
   ·exact stepE_0 he
   ·exact verd_pre hv x hx
  ·rw[verd_err he]at hv;exact absurd hv he
theorem classE_good{s:PSys}{c:PCls}(h:classE s c=0):c.good s:=by
 unfold classE at h
 split at h
 ·simp at h
 ·split at h
  ·simp at h
  ·exact⟨by omega,by omega,by omega,by omega,h,verd_pre h⟩
theorem clssE_good{s:PSys}:∀{l:List PCls},clssE s l=0->∀c∈l,c.good s
 | [],_,c,hc=>by simp at hc
 | d :: r,h,c,hc=>by
  simp only[clssE]at h
  split at h
  ·rename_i h2;exact absurd h h2
  ·rename_i h2
   have h2:classE s d=0:=Classical.byContradiction h2
   rcases List.mem_cons.1 hc with rfl|hc
   ·exact classE_good h2
   ·exact clssE_good h c hc
theorem good_of{s:PSys}(h:checkE s=0):s.good:=by
 unfold checkE at h
 split at h
 ·simp at h
 ·obtain⟨h1,h2⟩:=thenE_eq0 h
  obtain⟨h2,h3⟩:=thenE_eq0 h2
  exact⟨by omega,by omega,by omega,poolsE_0 h2,clssE_good h3⟩
theorem PSys.good.small{s:PSys}(h:s.good):s.small:=⟨by have:=h.np;omega,by have:=h.nl;omega,by have:=h.nc;omega⟩
theorem PSys.good.tame{s:PSys}(h:s.good):s.tame:=fun p hp=>by have:=h.pool p hp;unfold PPool.bad at this;omega
theorem PCls.good.steps{s:PSys}{c:PCls}(h:c.good s)(hs:s.good):Tame c.steps:=fun x hx=>pre_tame hs.tame (h.pre x hx)
def demC(pool:Int)(d:Bool)(a:Int)(c:PCls):Int:=a+c.workers*mxN pool d c.steps c.steps.length
def demL(pool:Int)(d:Bool)(l:List PCls):Int:=l.foldl (demC pool d) 0
def demandR(ds:List D)(v:AV):Prop:=∃(s:PSys) (pool:Int),ds=[sysD s,.int .i64 pool]/\s.good/\v=.tup [.dat (.int .i64 (demL pool false s.classes)),.dat (.int .i64 (demL pool true s.classes))]
def resN(s:PSys):Int:=if checkE s≠0 then 0 else (s.pools.length:Int)+s.locks.length+s.classes.length
def resR(ds:List D)(v:AV):Prop:=∃s:PSys,ds=[sysD s]/\s.fit/\v=.dat (.int .i64 (resN s))
def demN(s:PSys)(pool:Int)(d:Bool):Int:=if checkE s≠0∨pool<0∨(s.pools.length:Int)<=pool then -1 else demL pool d s.classes
def demNR(ds:List D)(v:AV):Prop:=∃(s:PSys) (pool:Int) (d:Bool),ds=[sysD s,.int .i64 pool,.bool d]/\s.fit/\v=.dat (.int .i64 (demN s pool d))
end Go.AM
namespace Go.AM
open Go Go.Proofs
def mxR(pool:Int)(d:Bool)(l:List PStep):Nat->Int
 | 0=>0
 | k+1=>mxN pool d l k
def waitB(s:PSys)(x:PStep):Bool :=
 if x.kind=3∨x.kind=5 then true else if x.kind=1 then
  decide ((s.pools.getD x.on.toNat default).size - (s.pools.getD x.on.toNat default).res<demL x.on false s.classes) && !(x.deep && decide (demL x.on true s.classes<=(s.pools.getD x.on.toNat default).res))
 else false
def waitsR(ds:List D)(v:AV):Prop:=∃(s:PSys) (x:PStep),ds=[sysD s,stepD x]/\s.good/\preE s x=0/\v=.dat (.bool (waitB s x))
def stepAt(s:PSys)(c k:Int):PStep:=(s.classes.getD c.toNat default).steps.getD k.toNat default
def noStep(s:PSys)(c k:Int):Prop:=c<0∨(s.classes.length:Int)<=c∨k<0∨((s.classes.getD c.toNat default).steps.length:Int)<=k
instance (s:PSys) (c k:Int):Decidable (noStep s c k):=by unfold noStep;exact inferInstance
def waitN(s:PSys)(c k:Int):Bool:=if checkE s≠0∨noStep s c k then false else waitB s (stepAt s c k)
def waitNR(ds:List D)(v:AV):Prop:=∃(s:PSys) (c k:Int),ds=[sysD s,.int .i64 c,.int .i64 k]/\s.fit/\v=.dat (.bool (waitN s c k))
end Go.AM
namespace Go.AM
open Go Go.Proofs
def ampleR(ds:List D)(v:AV):Prop:=∃(s:PSys) (i:Nat),ds=[sysD s,.int .i64 i]/\s.fit/\checkE s=0/\i<s.pools.length/\v=.dat (.bool (decide (demL i false s.classes<=(s.pools.getD i default).size - (s.pools.getD i default).res)))
def safeR(ds:List D)(v:AV):Prop:=∃(s:PSys) (i:Nat),ds=[sysD s,.int .i64 i]/\s.fit/\checkE s=0/\i<s.pools.length/\v=.dat (.bool (decide (demL i true s.classes<=(s.pools.getD i default).res)))
end Go.AM

