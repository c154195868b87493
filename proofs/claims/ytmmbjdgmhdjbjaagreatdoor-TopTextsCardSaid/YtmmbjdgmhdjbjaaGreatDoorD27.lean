/- Own work over the model of the kit. -/
import Derived.Test.YtmmbjdgmhdjbjaaGreatDoorD24
import Derived.Test.YtmmbjdgmhdjbjaaGreatDoorD26
import Derived.Test.YtmmbjdgmhdjbjaaGreatDoorD13
import Derived.Test.YtmmbjdgmhdjbjaaGreatDoorProg
import Derived.Lib.Builder
import Derived.WalkKit
import Derived.Laws.Externs
import Derived.Lib.Walk
import Derived.Test.YtmmbjdgmhdjbjaaGreatDoorD14
import Derived.Lib.UnsafeStr
set_option linter.unnecessarySimpa false
set_option linter.unusedSimpArgs false
set_option linter.unusedVariables false
set_option maxHeartbeats 8000000
set_option maxRecDepth 100000
namespace Go.AM
private theorem eqk {α:Sort _} {a b:α} (h:a=b):a=b:=Eq.trans h (Eq.refl _)
open Go Go.Proofs
def Kh(f:Str->Str)(ds:List D)(v:AV):Prop:=∃(s:PSys) (x:PStep),ds=[aY s,ar x]/\aT s=0/\dd s x=0/\v=.dat (.str (f (c6 s x)))
abbrev zY:List (Nat×a8):=[(13,au sK)]
theorem n8:OkG Tryz.prog (tbl zY):=ai CW ae
theorem uB(g:Nat)(C:a8)(h:(g,C)∈zY):∃R,C=au R:=by
 simp only[zY,List.mem_singleton,Prod.mk.injEq]at h
 exact⟨_,h.2⟩
theorem Xg:aQ (tbl zY) [13]:=s5 fun g C h _=>uB g C h
theorem VR:iC (tbl zY) [13]:=rC fun g C h _=>uB g C h
theorem FV:OkF Tryz.prog 14 (au (Kh (fun t=>t))):=by
 refine az Tryz.func14 rfl (by decide) ?_
 rintro ds v ⟨s,x,rfl,hc,hp,rfl⟩
 have g:=ki hc
 have fit:=yL g hp
 obtain⟨⟨k1,k5⟩,⟨on0,on1⟩,hcn,hc0⟩:=dy hp
 have hnm:=(rl fit.nm).2
 have hdp:=fit.dp
 have fc0:=fit.c0
 have fc1:=fit.c1
 have hit:=(pE fc0 fc1).l3
 obtain⟨kind,on,cnt,deep⟩:=x
 simp only at k1 k5 on0 on1 hcn hc0 hdp fc0 fc1 hit
 obtain⟨n,rfl⟩:∃n:Nat,on=n:=⟨on.toNat,by omega⟩
 refine a6 (Γ:=tbl zY) n8 _ _ _ ?_
 have fin:∀sl own (t t':Str),t=t'->sl.getD 4 .top=.dat (.str t)->post Tryz.prog Tryz.f14 (.dat (.str t')) [] [] .ret ⟨sl,own,0,[]⟩:=fun sl own t t' e h=>by
  subst e
  refine aH (mv':=[]) (.inl rfl) [.tmp 4] rfl (fun _ h=>h) ?_
  simp only[go_sem,h]
  exact bp (by rfl) (by simp only[AV.under])
 have hk:kind=1∨kind=2∨kind=3∨kind=4∨kind=5:=by omega
 rcases hk with rfl|rfl|rfl|rfl|rfl
 ·have hlt:n<s.pools.length:=by simp[cD]at on1;omega
  have pv:D.nth (s.pools.map aK) n=aK (s.pools.getD n default):=D.nth_map hlt
  have hpl:(n:Int)<(s.pools.length:Int):=by omega
  have hnd:(s.pools.getD n default).name.length<=8:=hnm
  generalize hP:s.pools.getD n default=P at *
  cases deep with
  | true =>
   simp only[go_sem,Tryz.ntmps14,aY,ar,eq_self,decide_true,decide_false,pv,hpl,aK,bf,List.length_append,List.length_cons,List.length_nil,Int.toNat_natCast]
   refine aX [] [] (pf:=[13]) (mf:=[]) mixed n8 Xg VR fQ (il [0,1,2,3,4,5,6,7,8,9,10,11,12,13]) (by kernel_rfl) ?_
   simp only[go_sem,Tryz.ntmps14,aY,ar,eq_self,decide_true,decide_false,pv,hpl,aK,bf,List.length_append,List.length_cons,List.length_nil,Int.toNat_natCast]
   refine⟨by simp only[maxLen];omega,by simp only[maxLen];omega,?_⟩
   refine ah sK (aI 0 rfl) [.int .i64 cnt] _ rfl ⟨cnt,rfl,by omega,by omega,rfl⟩ (.inl rfl) ?_
   simp only[go_sem,Tryz.ntmps14,aY,ar,eq_self,decide_true,decide_false,pv,hpl,aK,bf,List.length_append,List.length_cons,List.length_nil,Int.toNat_natCast]
   refine⟨by simp only[maxLen];omega,?_⟩
   refine⟨by simp only[maxLen];omega,?_⟩
   refine fin _ _ _ _ ?_ rfl
   simp[c6,bt,← hP]
  | false =>
   simp only[go_sem,Tryz.ntmps14,aY,ar,eq_self,decide_true,decide_false,pv,hpl,aK,bf,List.length_append,List.length_cons,List.length_nil,Int.toNat_natCast]
   refine aX [] [] (pf:=[13]) (mf:=[]) mixed n8 Xg VR fQ (il [0,1,2,3,4,5,6,7,8,9,10,11,12,13]) (by kernel_rfl) ?_
   simp only[go_sem,Tryz.ntmps14,aY,ar,eq_self,decide_true,decide_false,pv,hpl,aK,bf,List.length_append,List.length_cons,List.length_nil,Int.toNat_natCast]
   refine⟨by simp only[maxLen];omega,by simp only[maxLen];omega,?_⟩
   refine ah sK (aI 0 rfl) [.int .i64 cnt] _ rfl ⟨cnt,rfl,by omega,by omega,rfl⟩ (.inl rfl) ?_
   simp only[go_sem,Tryz.ntmps14,aY,ar,eq_self,decide_true,decide_false,pv,hpl,aK,bf,List.length_append,List.length_cons,List.length_nil,Int.toNat_natCast]
   refine⟨by simp only[maxLen];omega,?_⟩
   refine fin _ _ _ _ ?_ rfl
   simp[c6,bt,← hP]
 ·have hlt:n<s.pools.length:=by simp[cD]at on1;omega
  have pv:D.nth (s.pools.map aK) n=aK (s.pools.getD n default):=D.nth_map hlt
  have hpl:(n:Int)<(s.pools.length:Int):=by omega
  have hnd:(s.pools.getD n default).name.length<=8:=hnm
  generalize hP:s.pools.getD n default=P at *
  simp only[go_sem,Tryz.ntmps14,aY,ar,eq_self,decide_true,decide_false,pv,hpl,aK,bf,List.length_append,List.length_cons,List.length_nil,Int.toNat_natCast]
  refine aX [] [] (pf:=[13]) (mf:=[]) mixed n8 Xg VR fQ (il [0,1,2,3,4,5,6,7,8,9,10,11,12,13]) (by kernel_rfl) ?_
  simp only[go_sem,Tryz.ntmps14,aY,ar,eq_self,decide_true,decide_false,pv,hpl,aK,bf,List.length_append,List.length_cons,List.length_nil,Int.toNat_natCast]
  refine⟨by simp only[maxLen];omega,by simp only[maxLen];omega,?_⟩
  refine ah sK (aI 0 rfl) [.int .i64 cnt] _ rfl ⟨cnt,rfl,by omega,by omega,rfl⟩ (.inl rfl) ?_
  simp only[go_sem,Tryz.ntmps14,aY,ar,eq_self,decide_true,decide_false,pv,hpl,aK,bf,List.length_append,List.length_cons,List.length_nil,Int.toNat_natCast]
  refine⟨by simp only[maxLen];omega,?_⟩
  refine fin _ _ _ _ ?_ rfl
  simp[c6,bt,← hP]
 ·have hlt:n<s.locks.length:=by simp[cD]at on1;omega
  have pv:D.nth (s.locks.map D.str) n=.str (s.locks.getD n []):=D.nth_map hlt
  have hpl:(n:Int)<(s.locks.length:Int):=by omega
  have hnd:(s.locks.getD n []).length<=8:=hnm
  generalize hP:s.locks.getD n []=P at *
  simp only[go_sem,Tryz.ntmps14,aY,ar,eq_self,decide_true,decide_false,pv,hpl,aK,bf,List.length_append,List.length_cons,List.length_nil,Int.toNat_natCast]
  refine⟨by simp only[maxLen];omega,?_⟩
  refine fin _ _ _ _ ?_ rfl
  simp[c6,bt,← hP]
 ·have hlt:n<s.locks.length:=by simp[cD]at on1;omega
  have pv:D.nth (s.locks.map D.str) n=.str (s.locks.getD n []):=D.nth_map hlt
  have hpl:(n:Int)<(s.locks.length:Int):=by omega
  have hnd:(s.locks.getD n []).length<=8:=hnm
  generalize hP:s.locks.getD n []=P at *
  simp only[go_sem,Tryz.ntmps14,aY,ar,eq_self,decide_true,decide_false,pv,hpl,aK,bf,List.length_append,List.length_cons,List.length_nil,Int.toNat_natCast]
  refine⟨by simp only[maxLen];omega,?_⟩
  refine fin _ _ _ _ ?_ rfl
  simp[c6,bt,← hP]
 ·have hlt:n<s.classes.length:=by simp[cD]at on1;omega
  have pv:D.nth (s.classes.map bf) n=bf (s.classes.getD n default):=D.nth_map hlt
  have hpl:(n:Int)<(s.classes.length:Int):=by omega
  have hnd:(s.classes.getD n default).name.length<=8:=hnm
  generalize hP:s.classes.getD n default=P at *
  simp only[go_sem,Tryz.ntmps14,aY,ar,eq_self,decide_true,decide_false,pv,hpl,aK,bf,List.length_append,List.length_cons,List.length_nil,Int.toNat_natCast]
  refine⟨by simp only[maxLen];omega,?_⟩
  refine fin _ _ _ _ ?_ rfl
  simp[c6,bt,← hP]
end Go.AM
namespace Go.AM
open Go Go.Proofs Go.RowKit
theorem pU(b:Nat)(w:World)(h0:w.cell? ⟨b,0,none⟩=some (.pointer (some ⟨b,0,none⟩))) :
  Calls Tryz.prog 34 #[.pointer (some ⟨b,0,none⟩)] w fun e w'=>e=.returned (.tuple #[])/\w'=w:=by
 obtain⟨j,hj,_⟩:=Option.map_eq_some_iff.1 (show (Tryz.prog.info? 50).map (·.size)=some 2 by kernel_rfl)
 have mixed:Tryz.prog.follows .mixedOrders=true:=by kernel_rfl
 have u72:=run_underlying Tryz.underlying50
 have u70:=run_underlying Tryz.underlying48
 go_enter Tryz.func34,Tryz.ntmps34
 go_wp2
 rw[Lib.run_neq_ptr_same w _ Tryz.underlying48 hj]
 go_wp2
 go_end0
 exact⟨rfl,rfl⟩
theorem nV(b:Nat)(w:World)(h0:w.cell? ⟨b,0,none⟩=some (.pointer none))(hsh:w.shape? b=some (50,2))(hfz:w.frozen? ⟨b,0,none⟩=false) :
  Calls Tryz.prog 34 #[.pointer (some ⟨b,0,none⟩)] w fun e w'=>e=.returned (.tuple #[])/\w'=w.setCell ⟨b,0,none⟩ (.pointer (some ⟨b,0,none⟩)):=by
 obtain⟨j,hj,hjs⟩:=Option.map_eq_some_iff.1 (show (Tryz.prog.info? 50).map (·.size)=some 2 by kernel_rfl)
 have YO:liesAt Tryz.prog Tryz.prog.depth 50 (2 / Tryz.prog.cellsOf 50) 0 50 1=true:=by kernel_rfl
 have mixed:Tryz.prog.follows .mixedOrders=true:=by kernel_rfl
 have u72:=run_underlying Tryz.underlying50
 have u70:=run_underlying Tryz.underlying48
 have u164:=run_underlying Tryz.underlying137
 go_enter Tryz.func34,Tryz.ntmps34
 go_wp2
 rw[Lib.run_to_unsafe w ⟨b,0,none⟩ Tryz.underlying48 Tryz.underlying137 hj (by rw[hjs];decide) hsh (Nat.zero_lt_succ 1)]
 simp only[Result.andThen]
 rw[Oper.upon_value]
 go_wp2
 rw[run_callFunc_extern Tryz.func64 (by kernel_rfl) (by kernel_rfl) (by kernel_rfl) (e:=Extern.AbiNoEscape.same) (by kernel_rfl)]
 rw[Lib.run_noEscape]
 simp only[Result.andThen]
 rw[Oper.upon_value]
 go_wp2
 rw[Lib.run_from_unsafe w ⟨b,0,none⟩ Tryz.underlying137 Tryz.underlying48 hj hsh YO]
 simp only[Result.andThen]
 rw[Oper.upon_value]
 go_wp2
 go_end0
 exact⟨rfl,rfl⟩
def sO:a8:=fun args own v own' mv=>∃(o:Nat) (u:Bool) (x:AV),args=[.ptr o 0 0]/\own.getD o .dead=.bld 50 u [x]/\v=.tup []/\own'=own.set o (.bld 50 true [x])/\mv=[]
theorem tp:OkF Tryz.prog 34 sO:=by
 rintro args own v own' mv ⟨o,u,x,rfl,b9,rfl,rfl,rfl⟩
 refine⟨⟨_,_,Tryz.func34,rfl,by decide⟩,fun F φ w vs hc hs=>?_⟩
 simp only[AV.Rs,AV.R]at hs
 obtain⟨c,vs',rfl,⟨L,ho,hn,rfl⟩,rfl⟩:=hs
 have hr:=aR hc ho
 rw[b9]at hr
 simp only[ObjR]at hr
 obtain⟨_,hbase,arr,_,hh,bk,hra⟩:=hr
 obtain⟨a0,rfl⟩:∃a0,arr=[a0]:=by
  match arr,bk with
  | [a0],_=>exact⟨a0,rfl⟩
 have pt:o<own.length:=by
  rcases Nat.lt_or_ge o own.length with h|h
  ·exact h
  ·rw[hc.out o h]at ho;cases ho
 have e0:(⟨L.b,L.base+0*L.sz+0,none⟩:Addr)=⟨L.b,0,none⟩:=by rw[hbase];simp
 have eo:own.getD o .dead=.bld 50 u [x]:=b9
 rw[e0]
 have c0:w.cell? ⟨L.b,0,none⟩=some (PR L u):=by simp[World.cell?,hh]
 cases u with
 | true =>
  have hsame:own.set o (.bld 50 true [x])=own:=by
   rw[← b9]
   simp[List.getD_eq_getElem?_getD,List.getElem?_eq_getElem pt]
  rw[hsame]
  refine(pU L.b w c0).mono ?_
  rintro e w' ⟨rfl,rfl⟩
  exact⟨_,F,φ,rfl,After.refl hc,by simp only[AV.R];exact⟨[],rfl,by simp only[AV.Rs]⟩⟩
 | false =>
  refine(nV L.b w c0 (by simp[World.shape?,hh]) (by simp[World.frozen?,hh])).mono ?_
  rintro e w' ⟨rfl,rfl⟩
  have Eg:∀b,b≠L.b->(w.setCell ⟨L.b,0,none⟩ (.pointer (some ⟨L.b,0,none⟩))).heap[b]?=w.heap[b]?:=fun b hb=>Below.heap_setCell w _ _ b hb
  refine⟨_,F,φ,rfl,After.write hc ho hn rfl rfl rfl (by simp) Eg ?_,by simp only[AV.R];exact⟨[],rfl,by simp only[AV.Rs]⟩⟩
  simp only[ObjR]
  refine⟨hn,hbase,[a0],(),?_,rfl,AV.Rs_mono (fun _ h=>h) (hc.sameOf ho hn Eg) (fun _ _ h=>h) _ _ hra⟩
  rw[heap_setCell_same w L.b 0 _ _ _ hh]
  rfl
end Go.AM
namespace Go.AM
open Go Go.Proofs
theorem we{l:List (Nat×a8)}(hm:(34,sO)∈l){o:Nat}{u:Bool}{x:AV}{own:List Obj}{K:AV->List Obj->List Nat->Prop}(b9:own.getD o .dead=.bld 50 u [x])
  (h:K (.tup []) (own.set o (.bld 50 true [x])) []):eB (tbl l) (.fn 34 []) [.ptr o 0 0] own K :=
 ⟨_,_,_,⟨sO,hm,o,u,x,rfl,b9,rfl,rfl,rfl⟩,h⟩
theorem Ce{P:Program}{own:List Obj}{t t':TypeId}{τ':Ty}{x:AV}{s:List UInt8}{K:AV->List Obj->List Nat->Prop}(hne:t≠t')(hτ:aw P t'=some τ')(hd:τ'.desc=.string)(h:dI P (aw P t) own x s K):iy P own t t' x (.dat (.str s)) K:=by
 unfold iy;rw[if_neg hne,hτ];exact⟨hd,h⟩
abbrev Oi:List (Nat×a8):=[(34,sO)]
theorem Hd:OkG Tryz.prog (tbl Oi):=ai tp ae
def wsC:a8:=fun args own v own' mv=>∃(o:Nat) (u:Bool) (s bs:List UInt8) (r:Nat),args=[.ptr o 0 0,.dat (.str s)]/\o≠r/\own.getD o .dead=.bld 50 u [.sl r 0 bs.length]/\own.getD r .dead=.brow 5 bs /\
 bs.length+s.length<=140737488355328/\v=.tup [.dat (.int .i64 s.length),.top]/\own'=((own.map (Obj.kill r)).set r (.brow 5 (bs++s))).set o (.bld 50 true [.sl r 0 (bs++s).length])/\mv=[r]
theorem pD:OkF Tryz.prog 12 wsC:=by
 refine qu Tryz.func12 rfl (by decide) ?_
 rintro args own v own' mv ⟨o,u,s,bs,r,rfl,hor,hb,hr,hlen,rfl,rfl,rfl⟩
 have pt:o<own.length:=by
  rcases Nat.lt_or_ge o own.length with h|h
  ·exact h
  ·rw[List.getD_eq_getElem?_getD,List.getElem?_eq_none h]at hb;cases hb
 have hr':∀x,(own.set o x).getD r .dead=.brow 5 bs:=fun x=>by
  rw[← hr];simp[List.getD_eq_getElem?_getD,List.getElem?_set,hor]
 have ho':∀x,(own.set o x).getD o .dead=x:=fun x=>by
  simp[List.getD_eq_getElem?_getD,List.getElem?_set,pt]
 refine a6 (Γ:=tbl Oi) Hd _ _ _ ?_
 simp only[go_sem,Tryz.ntmps12]
 refine we (by simp) hb ?_
 simp only[go_sem,ho',hr']
 refine Ce (by decide) ty9 KF ?_
 simp only[dI]
 have hg:∀Y,(((own.set o (.bld 50 true [.sl r 0 bs.length])).map (Obj.kill r)).set r Y).getD o .dead=.bld 50 true [.top]:=fun Y=>by
  simp[List.getD_eq_getElem?_getD,List.getElem?_set,hor,Ne.symm hor,pt,Obj.kill,AV.kills,AV.kill]
 have abT:(o=r)=False:=eq_false hor
 have dh:∀sl,ev sl (.const .nilIface)=.top:=fun _=>rfl
 have abU:r<own.length:=by
  rcases Nat.lt_or_ge r own.length with h|h
  ·exact h
  ·rw[List.getD_eq_getElem?_getD,List.getElem?_eq_none h]at hr;cases hr
 have yN:∀X Y Z,(((own.set o X).map (Obj.kill r)).set r Y).set o Z=((own.map (Obj.kill r)).set r Y).set o Z:=fun X Y Z=>by
  rw[List.map_set,List.set_comm _ _ hor,List.set_set]
 have hmv:bW own.length [] [r]=[r]:=by simp[bW,abU]
 simp only[go_sem,hr',ho',abT,if_false,hg,dh,yN,hmv,List.length_append]
 refine⟨hlen,?_⟩
 refine aH (mv':=[r]) (.inl rfl) [.tmp 4,.tmp 5] rfl (fun _ h=>h) ?_
 simp only[go_sem]
 exact a7 (by simp only[go_sem])
end Go.AM
namespace Go.AM
open Go Go.Proofs Go.RowKit
theorem After.dead{F F':Nat->Prop}{φ φ':Nat->Option Loc}{w w':World}{own':List Obj}{mv:List Nat}(h:After F φ w F' φ' own' w' mv)(r:Nat):After F φ w F' φ' (own'.set r .dead) w' mv:=by
 obtain⟨a,b,c,d,e,f,g⟩:=h
 refine⟨a,b,⟨c.fb,c.live,c.inj,fun o obj ho=>?_,fun o ho=>c.out o (by simpa using ho),c.glob⟩,d,e,f,g⟩
 rw[List.getElem?_set]at ho
 by_cases e':r=o
 ·subst e'
  split at ho
  ·split at ho
   ·cases ho;simp only[ObjR]
   ·cases ho
  ·exact c.rep _ obj ho
 ·rw[if_neg e']at ho
  exact c.rep o obj ho
theorem pO(b g n cap:Nat)(p:Value)(l:List UInt8)(cur:Array Value)(w:World)(hn:n=l.length)(h0:l≠[])(hc:l.length<=cur.size)(HP:cap≠0)(h63:l.length<=9223372036854775807)
  (hbk:w.heap[b]?=some (.cells #[p,.slice (some ⟨g,0,none⟩) n cap] 50 (0,0))) (hg:w.heap[g]?=some (.cells cur 5 (0,0))) (cN:∀j,j<l.length->cur[j]?=(l[j]?).map fun b=>Value.int .u8 (b.toNat:Int)) :
  Calls Tryz.prog 15 #[.pointer (some ⟨b,0,none⟩)] w fun e w'=>e=.returned (.string ⟨l.toArray⟩)/\w'=w.drew.freeze ⟨g,0,none⟩ l.length:=by
 subst hn
 have c1:w.drew.cell? ⟨b,1,none⟩=some (.slice (some ⟨g,0,none⟩) l.length cap):=by
  have:w.drew.heap[b]?=some (.cells #[p,.slice (some ⟨g,0,none⟩) l.length cap] 50 (0,0)):=hbk
  rw[Lib.cell_of_heap this];rfl
 have hSD:(Builtin.unsafeSliceData_ #[44] 100 #[.slice (some ⟨g,0,none⟩) l.length cap]).run Tryz.prog w.drew=.ok (.pointer (some ⟨g,0,none⟩)) w.drew :=
  Lib.run_unsafeSliceData_row _ _ _ _ _ _ HP
 have hUS:(Builtin.unsafeString_ #[100,3] 9 #[.pointer (some ⟨g,0,none⟩),.int .i64 l.length]).run Tryz.prog w.drew=.ok (.string ⟨l.toArray⟩) (w.drew.freeze ⟨g,0,none⟩ l.length):=by
  refine Lib.run_unsafeString_row w.drew 100 3 9 5 Tryz.underlying100 (by kernel_rfl) g cur.size (by have hg':w.drew.heap[g]?=some (.cells cur 5 (0,0)):=hg;simp[World.shape?,hg']) l h0 hc h63 ?_
  intro j x hx
  have hj:j<l.length:=by
   rcases Nat.lt_or_ge j l.length with h|h
   ·exact h
   ·rw[List.getElem?_eq_none h]at hx;cases hx
  have h1:=cN j hj
  rw[hx]at h1
  rw[Addr.add_mk,Nat.zero_add]
  have hg':w.drew.heap[g]?=some (.cells cur 5 (0,0)):=hg
  rw[Lib.cell_of_heap hg']
  exact h1
 have mixed:Tryz.prog.follows .mixedOrders=true:=by kernel_rfl
 have u72:=run_underlying Tryz.underlying50
 have u70:=run_underlying Tryz.underlying48
 have u37:=run_underlying Tryz.underlying44
 have u127:=run_underlying Tryz.underlying100
 go_enter Tryz.func15,Tryz.ntmps15
 go_wp2
 go_region
 all_goals (go_wp2;go_ret;exact⟨rfl,rfl⟩)
theorem jT(b:Nat)(p:Value)(w:World)(hbk:w.heap[b]?=some (.cells #[p,.slice none 0 0] 50 (0,0))) :
  Calls Tryz.prog 15 #[.pointer (some ⟨b,0,none⟩)] w fun e w'=>e=.returned (.string ⟨#[]⟩)/\w'=w.drew:=by
 have hUS:∀(W:World) (q:Option Addr),(Builtin.unsafeString_ #[100,3] 9 #[.pointer q,.int .i64 0]).run Tryz.prog W=.ok (.string .empty) W:=fun W q=>Lib.run_unsafeString_none W _ _ _ q
 have c1:w.drew.cell? ⟨b,1,none⟩=some (.slice none 0 0):=by
  have:w.drew.heap[b]?=some (.cells #[p,.slice none 0 0] 50 (0,0)):=hbk
  rw[Lib.cell_of_heap this];rfl
 have hSD:(Builtin.unsafeSliceData_ #[44] 100 #[.slice none 0 0]).run Tryz.prog w.drew=.ok (.pointer none) w.drew:=rfl
 have mixed:Tryz.prog.follows .mixedOrders=true:=by kernel_rfl
 have u72:=run_underlying Tryz.underlying50
 have u70:=run_underlying Tryz.underlying48
 have u37:=run_underlying Tryz.underlying44
 have u127:=run_underlying Tryz.underlying100
 go_enter Tryz.func15,Tryz.ntmps15
 go_wp2
 go_region
 all_goals (go_wp2;go_ret;exact⟨rfl,rfl⟩)
theorem jE(b g cap:Nat)(p:Value)(w:World)(hc0:cap≠0)(hbk:w.heap[b]?=some (.cells #[p,.slice (some ⟨g,0,none⟩) 0 cap] 50 (0,0))) :
  Calls Tryz.prog 15 #[.pointer (some ⟨b,0,none⟩)] w fun e w'=>e=.returned (.string ⟨#[]⟩)/\w'=w.drew:=by
 have hUS:∀(W:World) (q:Option Addr),(Builtin.unsafeString_ #[100,3] 9 #[.pointer q,.int .i64 0]).run Tryz.prog W=.ok (.string .empty) W:=fun W q=>Lib.run_unsafeString_none W _ _ _ q
 have c1:w.drew.cell? ⟨b,1,none⟩=some (.slice (some ⟨g,0,none⟩) 0 cap):=by
  have:w.drew.heap[b]?=some (.cells #[p,.slice (some ⟨g,0,none⟩) 0 cap] 50 (0,0)):=hbk
  rw[Lib.cell_of_heap this];rfl
 have hSD:(Builtin.unsafeSliceData_ #[44] 100 #[.slice (some ⟨g,0,none⟩) 0 cap]).run Tryz.prog w.drew=.ok (.pointer (some ⟨g,0,none⟩)) w.drew :=
  Lib.run_unsafeSliceData_row _ _ _ _ _ _ hc0
 clear hc0
 have mixed:Tryz.prog.follows .mixedOrders=true:=by kernel_rfl
 have u72:=run_underlying Tryz.underlying50
 have u70:=run_underlying Tryz.underlying48
 have u37:=run_underlying Tryz.underlying44
 have u127:=run_underlying Tryz.underlying100
 go_enter Tryz.func15,Tryz.ntmps15
 go_wp2
 go_region
 all_goals (go_wp2;go_ret;exact⟨rfl,rfl⟩)
theorem ir(b g c:Nat)(p:Value)(cur:Array Value)(w:World)(hbk:w.heap[b]?=some (.cells #[p,.slice (some ⟨g,c,none⟩) 0 0] 50 (0,0)))(hg:w.heap[g]?=some (.cells cur 5 (0,0))) :
  Calls Tryz.prog 15 #[.pointer (some ⟨b,0,none⟩)] w fun e w'=>e=.returned (.string ⟨#[]⟩)/\w'=w.drew.alloc (.view ⟨g,c,none⟩ 5):=by
 have hUS:∀(W:World) (q:Option Addr),(Builtin.unsafeString_ #[100,3] 9 #[.pointer q,.int .i64 0]).run Tryz.prog W=.ok (.string .empty) W:=fun W q=>Lib.run_unsafeString_none W _ _ _ q
 have hlt:b<w.heap.size:=by
  rcases Nat.lt_or_ge b w.heap.size with h'|h'
  ·exact h'
  ·simp[Array.getElem?_eq_none h']at hbk
 have c1:w.drew.cell? ⟨b,1,none⟩=some (.slice (some ⟨g,c,none⟩) 0 0):=by
  have:w.drew.heap[b]?=some (.cells #[p,.slice (some ⟨g,c,none⟩) 0 0] 50 (0,0)):=hbk
  rw[Lib.cell_of_heap this];rfl
 have hSD:(Builtin.unsafeSliceData_ #[44] 100 #[.slice (some ⟨g,c,none⟩) 0 0]).run Tryz.prog w.drew=.ok (.pointer (some ⟨w.drew.heap.size,0,none⟩)) (w.drew.alloc (.view ⟨g,c,none⟩ 5)) :=
  Lib.run_unsafeSliceData_zero w.drew _ _ 5 Tryz.underlying100 ⟨g,c,none⟩ 0 (5,cur.size) (by have hg':w.drew.heap[g]?=some (.cells cur 5 (0,0)):=hg;simp[World.shape?,hg'])
 have c2:(w.drew.alloc (.view ⟨g,c,none⟩ 5)).cell? ⟨b,1,none⟩=some (.slice (some ⟨g,c,none⟩) 0 0):=by
  have:(w.drew.alloc (.view ⟨g,c,none⟩ 5)).heap[b]?=_:=(Lib.alloc_old w.drew _ b hlt).trans hbk
  rw[Lib.cell_of_heap this];rfl
 have c3:(w.alloc (.view ⟨g,c,none⟩ 5)).drew.cell? ⟨b,1,none⟩=some (.slice (some ⟨g,c,none⟩) 0 0):=c2
 have c0:w.cell? ⟨b,1,none⟩=some (.slice (some ⟨g,c,none⟩) 0 0):=c1
 have mixed:Tryz.prog.follows .mixedOrders=true:=by kernel_rfl
 have u72:=run_underlying Tryz.underlying50
 have u70:=run_underlying Tryz.underlying48
 have u37:=run_underlying Tryz.underlying44
 have u127:=run_underlying Tryz.underlying100
 go_enter Tryz.func15,Tryz.ntmps15
 go_wp2
 go_region
 all_goals (go_wp2;go_ret;exact⟨rfl,rfl⟩)
def SI:a8:=fun args own v own' mv=>∃(o:Nat) (u:Bool) (bs:List UInt8) (r:Nat),args=[.ptr o 0 0]/\own.getD o .dead=.bld 50 u [.sl r 0 bs.length]/\own.getD r .dead=.brow 5 bs/\bs.length<=140737488355328 /\
 v=.dat (.str bs)/\own'=own.set r .dead/\mv=[]
theorem Do:OkF Tryz.prog 15 SI:=by
 rintro args own v own' mv ⟨o,u,bs,r,rfl,b9,dj,hlen,rfl,rfl,rfl⟩
 refine⟨⟨_,_,Tryz.func15,rfl,by decide⟩,fun F φ w vs hc hs=>?_⟩
 simp only[AV.Rs,AV.R]at hs
 obtain⟨c,vs',rfl,⟨L,ho,hn,rfl⟩,rfl⟩:=hs
 have hr:=aR hc ho
 rw[b9]at hr
 simp only[ObjR]at hr
 obtain⟨_,hbase,arr,_,hh,bk,hra⟩:=hr
 simp only[AV.Rs]at hra
 obtain⟨a0,as0,rfl,hv,rfl⟩:=hra
 have e0:(⟨L.b,L.base+0*L.sz+0,none⟩:Addr)=⟨L.b,0,none⟩:=by rw[hbase];simp
 rw[e0]
 simp only[AV.R]at hv
 obtain⟨Lr,hor,hv⟩:=hv
 have hrr:=aR hc hor
 rw[dj]at hrr
 simp only[ObjR]at hrr
 obtain⟨hsz,hrr⟩:=hrr
 have Vf:∀(F':Nat->Prop) (φ':Nat->Option Loc) (w':World),AV.R F' φ' w' (.dat (.str bs)) (.string ⟨bs.toArray⟩):=fun F' φ' w'=>by
  simp only[AV.R,D.R,D.C]
  exact⟨trivial,by simp only[maxLen];omega⟩
 rcases hv with⟨hnl,hl0,_,rfl⟩|⟨hnl,c,cap,rfl,h1,h2,h3,h4⟩
 ·have hbs:bs=[]:=List.eq_nil_of_length_eq_zero (by omega)
  subst hbs
  refine(jT L.b _ w hh).mono ?_
  rintro e w' ⟨rfl,rfl⟩
  exact⟨_,F,φ,rfl,(After.grown hc 1 #[]).dead r,Vf _ _ _⟩
 ·rcases hrr with⟨dh,_⟩|⟨_,cur,hg,hcur,hb0,fA,bN⟩
  ·rw[hnl]at dh;cases dh
  by_cases hbs:bs=[]
  ·subst hbs
   by_cases hc0:cap=0
   ·subst hc0
    refine(ir L.b Lr.b c _ cur w hh hg).mono ?_
    rintro e w' ⟨rfl,rfl⟩
    exact⟨_,F,φ,rfl,(show After F φ w F φ own (w.drew.alloc (.view ⟨Lr.b,c,none⟩ 5)) [] from After.grown hc 1 #[_]).dead r,Vf _ _ _⟩
   ·have hc1:c=0:=by
     have:=h3.resolve_left hc0
     omega
    subst hc1
    refine(jE L.b Lr.b cap _ w hc0 hh).mono ?_
    rintro e w' ⟨rfl,rfl⟩
    exact⟨_,F,φ,rfl,(After.grown hc 1 #[]).dead r,Vf _ _ _⟩
  ·have jS:0<bs.length:=List.length_pos_iff.2 hbs
   have hc0:cap≠0:=by omega
   have hc1:c=0:=by
    have:=h3.resolve_left hc0
    omega
   subst hc1
   refine(pO L.b Lr.b bs.length cap _ bs cur w rfl hbs (by omega) hc0 (by omega) hh hg bN).mono ?_
   rintro e w' ⟨rfl,rfl⟩
   have hn0:¬bs.length=0:=by omega
   have Eg:∀b,b≠Lr.b->(w.drew.freeze ⟨Lr.b,0,none⟩ bs.length).heap[b]?=w.heap[b]?:=fun b hb=>by
    simp only[World.freeze,if_neg hn0,Array.getElem?_modify]
    rw[if_neg (fun e=>hb e.symm)]
    rfl
   refine⟨_,F,φ,rfl,After.write hc hor hnl ?_ ?_ ?_ ?_ Eg (by simp only[ObjR]) (hdr:=by simp only[World.freeze,if_neg hn0];exact Nat.le_succ _),Vf _ _ _⟩
   ·simp only[World.freeze,if_neg hn0];rfl
   ·simp only[World.freeze,if_neg hn0];rfl
   ·simp only[World.freeze,if_neg hn0];rfl
   ·simp only[World.freeze,if_neg hn0,Array.size_modify];rfl
end Go.AM
namespace Go.AM
open Go Go.Proofs
theorem yR{s:List AV}{own:List Obj}{n0:Nat}{mv:List Nat}(o:Nat)(T:TypeId)(u:Bool)(e:TypeId)(ho:own[o]?=some (.bld T u [.nils]))(h0:n0<=own.length) :
  Le ⟨s,own,n0,mv⟩ ⟨s,own.set o (.bld T u [.sl own.length 0 0])++[.brow e []],n0,mv⟩:=by
 rintro c a w ⟨hd,hn,F,φ,h2,h3,h4⟩
 let L:Loc:=⟨true,0,0,0,1⟩
 have gM:=dO h3 L
 have h4':=AV.Rs_mono (fun _ h=>h) (Same.refl F w) gM _ _ h4
 have h5:=h3.new (L:=L) (obj:=Obj.brow e []) (Nat.le_refl _) (fun _ _=>rfl) (fun hn'=>by cases hn') (by simp only[ObjR];exact⟨rfl,.inl ⟨rfl,trivial⟩⟩)
 refine⟨hd,hn,F,ext φ own.length L,⟨h2.sub,h2.ext,fun o L' hlt hm h=>gM o L' (h2.keep o L' hlt hm h),h2.rest,fun o L' ho' hn'=>?_,h2.frsh⟩,?_,h4'⟩
 ·unfold ext at ho'
  split at ho'
  ·cases ho';cases hn'
  ·exact h2.orig o L' ho' hn'
 ·have pt:o<own.length:=by
   rcases Nat.lt_or_ge o own.length with h|h
   ·exact h
   ·rw[List.getElem?_eq_none h]at ho;cases ho
  refine⟨h5.fb,h5.live,h5.inj,fun o' obj ho'=>?_,fun o' ho'=>h5.out o' (by simpa using ho'),h5.glob⟩
  have dB:own.set o (.bld T u [.sl own.length 0 0])++[Obj.brow e []]=(own++[Obj.brow e []]).set o (Obj.bld T u [.sl own.length 0 0]):=by rw[List.set_append_left _ _ pt]
  simp only at ho'
  rw[dB,List.getElem?_set]at ho'
  by_cases e:o=o'
  ·subst e
   simp only[if_true,List.length_append,List.length_cons,List.length_nil,show o<own.length+(0+1) by omega,Option.some.injEq]at ho'
   subst ho'
   have hr:=h5.rep o (.bld T u [.nils]) (by rw[List.getElem?_append_left pt];exact ho)
   cases hl:ext φ own.length L o with
   | none=>rw[hl]at hr;simp only[ObjR]at hr
   | some L' =>
    rw[hl]at hr
    simp only[ObjR]at hr ⊢
    obtain⟨q1,q2,arr,ty,q3,q4,q5⟩:=hr
    refine⟨q1,q2,arr,ty,q3,q4,?_⟩
    simp only[AV.Rs]at q5 ⊢
    obtain⟨v,vs',rfl,hv,rfl⟩:=q5
    have hv':=cR.1 hv
    subst hv'
    refine⟨_,_,rfl,?_,rfl⟩
    simp only[AV.R]
    exact⟨L,aM _ _ _,.inl ⟨rfl,by simp⟩⟩
  ·rw[if_neg e]at ho'
   exact h5.rep o' obj ho'
theorem LS{l:List (Nat×a8)}(hm:(12,wsC)∈l){o r:Nat}{u:Bool}{s bs:List UInt8}{own:List Obj}{K:AV->List Obj->List Nat->Prop}(hor:o≠r)(b9:own.getD o .dead=.bld 50 u [.sl r 0 bs.length])(dj:own.getD r .dead=.brow 5 bs)
  (hlen:bs.length+s.length<=140737488355328) (h:K (.tup [.dat (.int .i64 s.length),.top]) (((own.map (Obj.kill r)).set r (.brow 5 (bs++s))).set o (.bld 50 true [.sl r 0 (bs++s).length])) [r]) :
  eB (tbl l) (.fn 12 []) [.ptr o 0 0,.dat (.str s)] own K :=
 ⟨_,_,_,⟨wsC,hm,o,u,s,bs,r,rfl,hor,b9,dj,hlen,rfl,rfl,rfl⟩,h⟩
theorem Gk{l:List (Nat×a8)}(hm:(15,SI)∈l){o r:Nat}{u:Bool}{bs:List UInt8}{own:List Obj}{K:AV->List Obj->List Nat->Prop}(b9:own.getD o .dead=.bld 50 u [.sl r 0 bs.length])(dj:own.getD r .dead=.brow 5 bs)
  (hlen:bs.length<=140737488355328) (h:K (.dat (.str bs)) (own.set r .dead) []):eB (tbl l) (.fn 15 []) [.ptr o 0 0] own K :=
 ⟨_,_,_,⟨SI,hm,o,u,bs,r,rfl,b9,dj,hlen,rfl,rfl,rfl⟩,h⟩
@[go_sem] theorem Sk:T50.zero=some (.agg #[.pointer none,.slice none 0 0]):=eqk (by kernel_rfl)
@[go_sem ↓] theorem Nz {t:TypeId}:yk t (.agg #[.pointer none,.slice none 0 0])=.bld t false [.nils]:=Eq.trans rfl rfl
@[go_sem] theorem X8:(Value.pointer none).oneCell'=true:=Eq.trans rfl rfl
theorem mR{l:List (Nat×a8)}(B:List UInt8)(hm:(12,wsC)∈l){o r:Nat}{u:Bool}{s bs:List UInt8}{own:List Obj}{K:AV->List Obj->List Nat->Prop}(hor:o≠r)(b9:own.getD o .dead=.bld 50 u [.sl r 0 bs.length])(dj:own.getD r .dead=.brow 5 bs)
  (hB:bs++s=B) (hlen:B.length<=140737488355328) (h:K (.tup [.dat (.int .i64 s.length),.top]) (((own.map (Obj.kill r)).set r (.brow 5 B)).set o (.bld 50 true [.sl r 0 B.length])) [r]) :
  eB (tbl l) (.fn 12 []) [.ptr o 0 0,.dat (.str s)] own K:=by
 subst hB
 exact LS hm hor b9 dj (by simpa using hlen) h
def UB(s:PSys):Str×Int:=if aT s=0 then (pX s,0) else ([],aT s)
def xH(ds:List D)(v:AV):Prop:=∃s:PSys,ds=[aY s]/\v=.tup [.dat (.str (UB s).1),.dat (.int .i64 (UB s).2)]
theorem iZ(l:List Str)(x:Str):c7 (l++[x])=c7 l++(x++[10]):=by rw[BV];unfold c7;simp
theorem iu{s:PSys}(g:Good s){l:List Str}(h:l <+: sk s):(c7 l).length<=4000:=by
 obtain⟨h1,h2⟩:=ro g
 have h3:=nk l 28 fun x hx=>h1 x (h.subset hx)
 have h4:=h.length_le
 have h5:(28+1)*l.length<=(28+1)*88:=Nat.mul_le_mul_left _ (by omega)
 omega
theorem IK(s:PSys)(k:Nat):(s.pools.take k).map bU <+: sk s:=by
 unfold sk
 rw[List.append_assoc]
 refine List.IsPrefix.trans ?_ (List.prefix_append _ _)
 rw[List.map_take]
 exact List.take_prefix _ _
theorem ID(s:PSys)(k:Nat):s.pools.map bU++(s.locks.take k).map da <+: sk s:=by
 unfold sk
 refine List.IsPrefix.trans ?_ (List.prefix_append _ _)
 rw[List.map_take]
 exact List.prefix_append_right_inj _ |>.2 (List.take_prefix _ _)
theorem IZ(s:PSys)(k:Nat):s.pools.map bU++s.locks.map da++(s.classes.take k).flatMap (jF s) <+: sk s:=by
 unfold sk
 refine List.prefix_append_right_inj _ |>.2 ?_
 refine⟨(s.classes.drop k).flatMap (jF s),?_⟩
 rw[← List.flatMap_append,List.take_append_drop]
theorem Du(s:PSys){k:Nat}{c:PCls}{q:List PCls}(hd:s.classes.drop k=c :: q)(j:Nat):s.pools.map bU++s.locks.map da++(s.classes.take k).flatMap (jF s)++(tT c :: (c.steps.take j).map fun x=>32 :: 32 :: c6 s x) <+: sk s:=by
 refine List.IsPrefix.trans ?_ (IZ s (k+1))
 rw[aC hd,List.flatMap_append,← List.append_assoc]
 refine List.prefix_append_right_inj _ |>.2 ?_
 simp only[List.flatMap_cons,List.flatMap_nil,List.append_nil,jF]
 rw[List.map_take]
 exact List.cons_prefix_cons.2 ⟨rfl,List.take_prefix _ _⟩
abbrev oZ:List (Nat×a8):=[(12,wsC),(15,SI),(11,au Ca),(14,au (Kh fun t=>t)),(13,au sK)]
theorem fi:OkG Tryz.prog (tbl oZ):=ai pD (ai Do (ai t6 (ai FV (ai CW ae))))
theorem kE(g:Nat)(C:a8)(h:(g,C)∈oZ)(hg:g∈[13]):∃R,C=au R:=by
 simp only[List.mem_singleton]at hg
 subst hg
 simp only[oZ,List.mem_cons,Prod.mk.injEq,List.not_mem_nil,or_false]at h
 rcases h with⟨h,_⟩|⟨h,_⟩|⟨h,_⟩|⟨h,_⟩|⟨_,h⟩
 ·simp at h
 ·simp at h
 ·simp at h
 ·simp at h
 ·exact⟨_,h⟩
theorem vC:OkF Tryz.prog 5 (au xH):=by
 refine az Tryz.func5 rfl (by decide) ?_
 rintro ds v ⟨s,rfl,rfl⟩
 refine al [5] (Γ:=tbl oZ) fi _ _ _ ?_
 simp only[go_sem,Tryz.ntmps5,aY]
 refine ah Ca (aI 2 rfl) [aY s] _ rfl ⟨s,rfl,rfl⟩ (.inl rfl) ?_
 unfold UB
 by_cases hc:aT s=0
 ·rw[if_pos hc]
  have g:=ki hc
  have gnp:=g.np;have gnl:=g.nl;have gnc:=g.nc
  have nmn:∀x∈aB s,x.length<=8:=fun x hx=>(rl (g.nms x hx)).2
  simp only[go_sem,hc,eq_self,decide_true,Bool.not_true]
  refine av (yR 1 50 false 5 rfl (Nat.zero_le _)) ?_
  simp only[go_sem,List.length_cons,List.length_nil]
  refine a6 (Γ:=tbl oZ) fi _ _ _ ?_
  simp only[go_sem,List.length_map]
  refine ap (fun p:Nat×Bool=>⟨an 91 [(1,.ptr 0 0 0),(5,.ptr 1 0 0),(21,.dat (.sl (some 3) (s.pools.map aK))),(22,.dat (.int .i64 s.pools.length)),(23,.dat (.int .i64 p.1))],[.box [.dat (.sl (some 3) (s.pools.map aK)),.dat (.sl none (bb s.locks)),.dat (.sl (some 4) (s.classes.map bf))],.bld 50 p.2 [.sl 2 0 (c7 ((s.pools.take p.1).map bU)).length],.brow 5 (c7 ((s.pools.take p.1).map bU))],0,[]⟩)
   (fun p=>p.1<=s.pools.length) (fun p=>s.pools.length - p.1) (0,false) (Nat.zero_le _) ?_ ?_
  ·exact a7 (by simp only[go_sem,Int.natCast_zero])
  rintro ⟨k,u⟩ hk
  simp only at hk ⊢
  refine a6 (Γ:=tbl oZ) fi _ _ _ ?_
  cases hd:s.pools.drop k with
  | nil =>
   have hke:=aj hd hk
   have k1:¬(k:Int)<(s.pools.length:Int):=by omega
   have cO:s.pools.take k=s.pools:=by rw[hke];exact List.take_length
   rw[cO]
   simp only[go_sem,k1,decide_false,List.length_map]
   refine ap (fun p:Nat×Bool=>⟨an 91 [(1,.ptr 0 0 0),(5,.ptr 1 0 0),(44,.dat (.sl none (bb s.locks))),(45,.dat (.int .i64 s.locks.length)),(46,.dat (.int .i64 p.1))],[.box [.dat (.sl (some 3) (s.pools.map aK)),.dat (.sl none (bb s.locks)),.dat (.sl (some 4) (s.classes.map bf))],.bld 50 p.2 [.sl 2 0 (c7 (s.pools.map bU++(s.locks.take p.1).map da)).length],.brow 5 (c7 (s.pools.map bU++(s.locks.take p.1).map da))],0,[]⟩)
    (fun p=>p.1<=s.locks.length) (fun p=>s.locks.length - p.1) (0,u) (Nat.zero_le _) ?_ ?_
   ·simp only[List.take_zero,List.map_nil,List.append_nil]
    exact a7 (by simp only[go_sem,Int.natCast_zero])
   clear hd hke k1 cO hk
   rintro ⟨k,u⟩ hk
   simp only at hk ⊢
   refine a6 (Γ:=tbl oZ) fi _ _ _ ?_
   cases hd:s.locks.drop k with
   | nil =>
    have hke:=aj hd hk
    have k1:¬(k:Int)<(s.locks.length:Int):=by omega
    have cO:s.locks.take k=s.locks:=by rw[hke];exact List.take_length
    rw[cO]
    simp only[go_sem,k1,decide_false,List.length_map]
    refine ap (fun p:Nat×Bool=>⟨an 91 [(1,.ptr 0 0 0),(5,.ptr 1 0 0),(56,.dat (.sl (some 4) (s.classes.map bf))),(57,.dat (.int .i64 s.classes.length)),(58,.dat (.int .i64 p.1))],[.box [.dat (.sl (some 3) (s.pools.map aK)),.dat (.sl none (bb s.locks)),.dat (.sl (some 4) (s.classes.map bf))],.bld 50 p.2 [.sl 2 0 (c7 (s.pools.map bU++s.locks.map da++(s.classes.take p.1).flatMap (jF s))).length],.brow 5 (c7 (s.pools.map bU++s.locks.map da++(s.classes.take p.1).flatMap (jF s)))],0,[]⟩)
     (fun p=>p.1<=s.classes.length) (fun p=>s.classes.length - p.1) (0,u) (Nat.zero_le _) ?_ ?_
    ·simp only[List.take_zero,List.flatMap_nil,List.append_nil]
     exact a7 (by simp only[go_sem,Int.natCast_zero])
    clear hd hke k1 cO hk
    rintro ⟨k,u⟩ hk
    simp only at hk ⊢
    refine al [21] (Γ:=tbl oZ) fi _ _ _ ?_
    have hl0:=iu g (IZ s k)
    cases hd:s.classes.drop k with
    | nil =>
     have hke:=aj hd hk
     have k1:¬(k:Int)<(s.classes.length:Int):=by omega
     have cO:s.classes.take k=s.classes:=by rw[hke];exact List.take_length
     have htx:c7 (s.pools.map bU++s.locks.map da++(s.classes.take k).flatMap (jF s))=pX s:=by rw[cO];rfl
     rw[htx]at hl0 ⊢
     simp only[go_sem,k1,decide_false]
     refine Gk (r:=2) (aI 1 rfl) rfl rfl (by omega) ?_
     simp only[go_sem]
     refine aH (mv':=[]) (.inl rfl) [.tmp 2,.tmp 3] rfl (fun _ h=>h) ?_
     simp only[go_sem]
     exact bp (by rfl) (by simp only[AV.under,AV.unders,and_self])
    | cons c r =>
     have hlt:=ao hd
     have k1:(k:Int)<(s.classes.length:Int):=by omega
     have hk0:(0:Int)<=(k:Int):=by omega
     have hx:D.nth (s.classes.map bf) k=bf c:=ak hd
     have hcm:=aN hd
     have hcn:c.name.length<=8:=nmn _ (by unfold aB;exact List.mem_append.2 (.inr (List.mem_map.2 ⟨c,hcm,rfl⟩)))
     have hwk:=g.wk c hcm
     have hns:=g.ns c hcm
     have hst:=g.st c hcm
     have i1:=(pE (n:=c.workers) hwk.1 (by omega)).l3
     have hl1:=iu g (Du s hd 0)
     have hsn:c7 (s.pools.map bU++s.locks.map da++(s.classes.take k).flatMap (jF s))++(tT c++[10])=c7 (s.pools.map bU++s.locks.map da++(s.classes.take k).flatMap (jF s)++(tT c :: (c.steps.take 0).map fun x=>32 :: 32 :: c6 s x)):=by
      rw[List.take_zero,List.map_nil,iZ]
     obtain⟨name,workers,server,steps⟩:=c
     simp only at hcn hwk hns hst i1 hl1 hsn
     simp only[go_sem,k1,hk0,decide_true,List.length_map,Int.toNat_natCast,hx,bf]
     generalize hK:fc [21] Tryz.prog (tbl oZ) _ _=Q2
     have hcl:∀σ σ',Le σ σ'->Q2 .normal σ'->Q2 .normal σ:=by
      subst hK
      intro σ σ' h1 h2
      exact av h1 h2
     have hW:∃W:Str,W.length<=7/\W=(if server=true then [115,101,114,118,101,114,32] else [99,108,97,115,115,32]):=⟨_,by split <;> decide,rfl⟩
     obtain⟨W,hWl,hWe⟩:=hW
     have hcL:tT ⟨name,workers,server,steps⟩=W++name++32 :: Lib.itoa workers:=by rw[hWe];rfl
     suffices hQ2:Q2 .normal ⟨an 91 [(1,.ptr 0 0 0),(5,.ptr 1 0 0),(11,.ptr 3 0 0),(12,.dat (.str W)),(56,.dat (.sl (some 4) (s.classes.map bf))),(57,.dat (.int .i64 s.classes.length)),(58,.dat (.int .i64 k))],[.box [.dat (.sl (some 3) (s.pools.map aK)),.dat (.sl none (bb s.locks)),.dat (.sl (some 4) (s.classes.map bf))],.bld 50 u [.sl 2 0 (c7 (s.pools.map bU++s.locks.map da++(s.classes.take k).flatMap (jF s))).length],.brow 5 (c7 (s.pools.map bU++s.locks.map da++(s.classes.take k).flatMap (jF s))),.box [.dat (.str name),.dat (.int .i64 workers),.dat (.bool server),.dat (bD steps)]],0,[]⟩ by
      cases server with
      | true =>
       simp only[if_true]at hWe
       subst hWe
       simp only[go_sem]
       refine hcl _ _ ?_ hQ2
       exact a7 (by simp only[go_sem])
      | false =>
       simp only[Bool.false_eq_true,if_false]at hWe
       subst hWe
       simp only[go_sem]
       refine hcl _ _ ?_ hQ2
       exact a7 (by simp only[go_sem])
     subst hK
     clear hcl
     simp only[iL]
     refine a6 (Γ:=tbl oZ) fi _ _ _ ?_
     simp only[go_sem]
     refine aX [] [] (pf:=[13]) (mf:=[]) mixed fi (s5 kE) (rC kE) fQ (.one 0 (.one 5 (.one 6 (.one 7 (.alt 1 (.one 2 (.one 3 (.one 4 (.one 8 (.one 9 (.one 10 .fin)))))) .stop))))) (by kernel_rfl) ?_
     simp only[go_sem]
     refine ah sK (aI 4 rfl) [.int .i64 workers] _ rfl ⟨_,rfl,by omega,by omega,rfl⟩ (.inl rfl) ?_
     simp only[go_sem,List.length_cons,List.length_nil,List.length_append,and_true]
     refine⟨by simp only[maxLen];omega,by simp only[maxLen];omega,by simp only[maxLen];omega,by simp only[maxLen];omega,?_⟩
     refine mR (c7 (s.pools.map bU++s.locks.map da++(s.classes.take k).flatMap (jF s)++(tT ⟨name,workers,server,steps⟩ :: (steps.take 0).map fun x=>32 :: 32 :: c6 s x))) (r:=2) (bs:=c7 (s.pools.map bU++s.locks.map da++(s.classes.take k).flatMap (jF s))) (aI 0 rfl) (by decide) rfl rfl (by rw[← hsn,hcL];simp) (by omega) ?_
     simp only[go_sem,and_true,bD,List.length_map]
     refine ap (fun p:Nat=>⟨an 91 [(1,.ptr 0 0 0),(5,.ptr 1 0 0),(56,.dat (.sl (some 4) (s.classes.map bf))),(57,.dat (.int .i64 s.classes.length)),(58,.dat (.int .i64 k)),(76,.dat (.sl (some 4) (steps.map ar))),(77,.dat (.int .i64 steps.length)),(78,.dat (.int .i64 p))],[.box [.dat (.sl (some 3) (s.pools.map aK)),.dat (.sl none (bb s.locks)),.dat (.sl (some 4) (s.classes.map bf))],.bld 50 true [.sl 2 0 (c7 (s.pools.map bU++s.locks.map da++(s.classes.take k).flatMap (jF s)++(tT ⟨name,workers,server,steps⟩ :: (steps.take p).map fun x=>32 :: 32 :: c6 s x))).length],.brow 5 (c7 (s.pools.map bU++s.locks.map da++(s.classes.take k).flatMap (jF s)++(tT ⟨name,workers,server,steps⟩ :: (steps.take p).map fun x=>32 :: 32 :: c6 s x)))],0,[]⟩)
      (fun p=>p<=steps.length) (fun p=>steps.length - p) 0 (Nat.zero_le _) ?_ ?_
     ·refine aP (own:=[_,_,_]) (ex:=[_]) (Nat.zero_le _) ?_ ?_ ?_
      ·simp only[go_sem,Int.natCast_zero]
      ·simp only[go_sem]
      ·simp only[go_sem,AV.unders,AV.under,List.length_cons,List.length_nil]
     rintro j hj
     refine a6 (Γ:=tbl oZ) fi _ _ _ ?_
     have hm0:=iu g (Du s hd j)
     have hm1:=iu g (Du s hd (j+1))
     simp only at hm0 hm1
     cases hd2:steps.drop j with
     | nil =>
      have hje:=aj hd2 hj
      have j1:¬(j:Int)<(steps.length:Int):=by omega
      have cO:s.pools.map bU++s.locks.map da++(s.classes.take k).flatMap (jF s)++(tT ⟨name,workers,server,steps⟩ :: (steps.take j).map fun x=>32 :: 32 :: c6 s x)=s.pools.map bU++s.locks.map da++(s.classes.take (k+1)).flatMap (jF s):=by
       rw[hje,List.take_length,aC hd,List.flatMap_append]
       simp[jF]
      rw[cO]
      simp only[go_sem,j1,decide_false]
      refine⟨ac.2 (by omega),(k+1,true),by show k+1<=_;omega,by show s.classes.length - (k+1)<_;omega,?_⟩
      exact a7 (by simp only[go_sem,Int.natCast_add,Int.cast_ofNat_Int])
     | cons x q =>
      have abN:=ao hd2
      have j1:(j:Int)<(steps.length:Int):=by omega
      have j0:(0:Int)<=(j:Int):=by omega
      have hy:D.nth (steps.map ar) j=ar x:=ak hd2
      have hxm:=aN hd2
      have hpx:=hst x hxm
      have abV:c7 (s.pools.map bU++s.locks.map da++(s.classes.take k).flatMap (jF s)++(tT ⟨name,workers,server,steps⟩ :: (steps.take j).map fun x=>32 :: 32 :: c6 s x))++((32 :: 32 :: c6 s x)++[10])=c7 (s.pools.map bU++s.locks.map da++(s.classes.take k).flatMap (jF s)++(tT ⟨name,workers,server,steps⟩ :: (steps.take (j+1)).map fun x=>32 :: 32 :: c6 s x)):=by
       rw[aC hd2,List.map_append,List.map_cons,List.map_nil,← List.cons_append,← List.append_assoc (s.pools.map bU++s.locks.map da++(s.classes.take k).flatMap (jF s)),iZ]
      have hsl:(c6 s x).length<=28:=by
       have h28:=(ro g).1 (32 :: 32 :: c6 s x) (by
        unfold sk
        refine List.mem_append.2 (.inr (List.mem_flatMap.2 ⟨_,hcm,?_⟩))
        unfold jF
        exact List.mem_cons.2 (.inr (List.mem_map.2 ⟨x,hxm,rfl⟩)))
       simp only[List.length_cons]at h28
       omega
      simp only[go_sem,j1,j0,decide_true,List.length_map,Int.toNat_natCast,hy,ar]
      refine ah (Kh fun t=>t) (aI 3 rfl) [aY s,ar x] _ rfl ⟨s,x,rfl,hc,hpx,rfl⟩ (.inl rfl) ?_
      simp only[go_sem,List.length_cons,List.length_nil,List.length_append]
      refine⟨by simp only[maxLen];omega,by simp only[maxLen];omega,?_⟩
      refine mR (c7 (s.pools.map bU++s.locks.map da++(s.classes.take k).flatMap (jF s)++(tT ⟨name,workers,server,steps⟩ :: (steps.take (j+1)).map fun x=>32 :: 32 :: c6 s x))) (r:=2) (bs:=c7 (s.pools.map bU++s.locks.map da++(s.classes.take k).flatMap (jF s)++(tT ⟨name,workers,server,steps⟩ :: (steps.take j).map fun x=>32 :: 32 :: c6 s x))) (aI 0 rfl) (by decide) rfl rfl (by rw[← abV];simp) (by omega) ?_
      simp only[go_sem]
      refine⟨ac.2 (by omega),j+1,by omega,by omega,?_⟩
      refine aP (own:=[_,_,_]) (ex:=[_]) (Nat.zero_le _) ?_ ?_ ?_
      ·simp only[go_sem,Int.natCast_add,Int.cast_ofNat_Int]
      ·simp only[go_sem]
      ·simp only[go_sem,AV.unders,AV.under,List.length_cons,List.length_nil]
   | cons p r =>
    have hlt:=ao hd
    have k1:(k:Int)<(s.locks.length:Int):=by omega
    have hk0:(0:Int)<=(k:Int):=by omega
    have hx:D.nth (bb s.locks) k=.str p:=ak hd
    have hpm:=aN hd
    have hpn:p.length<=8:=nmn _ (by unfold aB;exact List.mem_append.2 (.inl (List.mem_append.2 (.inr hpm))))
    have hl0:=iu g (ID s k)
    have hl1:=iu g (ID s (k+1))
    have hsn:c7 (s.pools.map bU++(s.locks.take k).map da)++(da p++[10])=c7 (s.pools.map bU++(s.locks.take (k+1)).map da):=by rw[aC hd,List.map_append,List.map_cons,List.map_nil,← List.append_assoc (s.pools.map bU),iZ]
    simp only[go_sem,k1,hk0,decide_true,List.length_map,Int.toNat_natCast,hx,List.length_cons,List.length_nil,List.length_append]
    refine⟨by simp only[maxLen];omega,by simp only[maxLen];omega,?_⟩
    refine mR (c7 (s.pools.map bU++(s.locks.take (k+1)).map da)) (r:=2) (bs:=c7 (s.pools.map bU++(s.locks.take k).map da)) (aI 0 rfl) (by decide) rfl rfl (by rw[← hsn];simp[da]) (by omega) ?_
    simp only[go_sem]
    refine⟨ac.2 (by omega),(k+1,true),by show k+1<=_;omega,by show s.locks.length - (k+1)<_;omega,?_⟩
    exact a7 (by simp only[go_sem,Int.natCast_add,Int.cast_ofNat_Int])
  | cons p r =>
   have hlt:=ao hd
   have k1:(k:Int)<(s.pools.length:Int):=by omega
   have hk0:(0:Int)<=(k:Int):=by omega
   have hx:D.nth (s.pools.map aK) k=aK p:=ak hd
   have hpm:=aN hd
   have hpn:p.name.length<=8:=nmn _ (by unfold aB;exact List.mem_append.2 (.inl (List.mem_append.2 (.inl (List.mem_map.2 ⟨p,hpm,rfl⟩)))))
   obtain⟨b1,b2,b3,b4⟩:=jU (g.pl p hpm)
   have i1:=(pE (n:=p.size) (by omega) (by omega)).l3
   have i2:=(pE (n:=p.res) (by omega) (by omega)).l3
   have hl0:=iu g (IK s k)
   have hl1:=iu g (IK s (k+1))
   have hsn:c7 ((s.pools.take k).map bU)++(bU p++[10])=c7 ((s.pools.take (k+1)).map bU):=by rw[aC hd,List.map_append,List.map_cons,List.map_nil,iZ]
   simp only[go_sem,k1,hk0,decide_true,List.length_map,Int.toNat_natCast,hx,aK]
   refine aX [] [] (pf:=[13]) (mf:=[]) mixed fi (s5 kE) (rC kE) fQ (.one 4 (.one 5 (.one 6 (.one 9 (.one 10 (.one 11 (.alt 0 (.alt 1 (.alt 2 (.one 3 (.one 7 (.one 8 (.one 12 (.one 13 (.one 14 .fin)))))) .stop) .stop) .stop))))))) (by kernel_rfl) ?_
   simp only[go_sem]
   refine ah sK (aI 4 rfl) [.int .i64 p.size] _ rfl ⟨_,rfl,by omega,by omega,rfl⟩ (.inl rfl) ?_
   simp only[go_sem]
   refine ah sK (aI 4 rfl) [.int .i64 p.res] _ rfl ⟨_,rfl,by omega,by omega,rfl⟩ (.inl rfl) ?_
   simp only[go_sem,List.length_cons,List.length_nil,List.length_append,and_true]
   refine⟨by simp only[maxLen];omega,by simp only[maxLen];omega,by simp only[maxLen];omega,by simp only[maxLen];omega,by simp only[maxLen];omega,by simp only[maxLen];omega,?_⟩
   refine mR (c7 ((s.pools.take (k+1)).map bU)) (r:=2) (bs:=c7 ((s.pools.take k).map bU)) (aI 0 rfl) (by decide) rfl rfl (by rw[← hsn];simp[bU]) (by omega) ?_
   simp only[go_sem,and_true]
   refine⟨ac.2 (by omega),(k+1,true),by show k+1<=_;omega,by show s.pools.length - (k+1)<_;omega,?_⟩
   refine aP (own:=[_,_,_]) (ex:=[_]) (Nat.zero_le _) ?_ ?_ ?_
   ·simp only[go_sem,Int.natCast_add,Int.cast_ofNat_Int]
   ·simp only[go_sem]
   ·simp only[go_sem,AV.unders,AV.under,List.length_cons,List.length_nil]
 ·rw[if_neg hc]
  simp only[go_sem,hc,decide_false,Bool.not_false]
  refine aH (mv':=[]) (.inl rfl) [.tmp 2,.tmp 3] rfl (fun _ h=>h) ?_
  simp only[go_sem]
  exact bp (by rfl) (by simp only[AV.under,AV.unders,and_self])
end Go.AM

