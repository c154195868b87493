/- Own work over the model of the kit. -/
import Derived.Test.YtaecgpgkfajfjaaGreatDoorP18
import Derived.Test.YtaecgpgkfajfjaaGreatDoorP17
import Derived.Test.YtaecgpgkfajfjaaGreatDoorProg
import Derived.Shelf.LaysM
import Derived.Test.YtaecgpgkfajfjaaGreatDoorP14
import Derived.Shelf.Strconv.Itoa3
import Derived.Lib.ItoaLen
import Derived.Test.YtaecgpgkfajfjaaGreatDoorP15
set_option linter.unnecessarySimpa false
set_option linter.unusedSimpArgs false
set_option linter.unusedVariables false
set_option maxHeartbeats 8000000
set_option maxRecDepth 100000
namespace Go.AM
open Go Go.Proofs
theorem namesE_0:∀(l pre:List Str),namesE pre l=0->(∀x∈l,isNm x=true/\x∉pre)/\l.Nodup
 | [],_,_=>⟨fun x h=>by simp at h,List.nodup_nil⟩
 | x :: r,pre,h=>by
  simp only[namesE]at h
  split at h
  ·simp at h
  ·rename_i h1
   split at h
   ·simp at h
   ·rename_i h2
    obtain⟨h3,h4⟩:=namesE_0 r (pre++[x]) h
    refine⟨fun y hy=>?_,List.nodup_cons.2 ⟨fun hx=>?_,h4⟩⟩
    ·rcases List.mem_cons.1 hy with rfl|hy
     ·exact⟨by simpa using h1,h2⟩
     ·exact⟨(h3 y hy).1,fun hp=>(h3 y hy).2 (by simp[hp])⟩
    ·exact(h3 x hx).2 (by simp)
theorem runE_0(s:PSys):∀(l:List PStep) (h:Hold),(runE s l h).1=0->∀x∈l,preE s x=0
 | [],_,_,x,hx=>by simp at hx
 | y :: l,h,h0,x,hx=>by
  simp only[runE]at h0
  split at h0
  ·rename_i h1;exact absurd h0 h1
  ·rename_i h1
   rcases List.mem_cons.1 hx with rfl|hx
   ·exact stepE_0 (Classical.byContradiction h1)
   ·exact runE_0 s l _ h0 x hx
theorem clssE_0(s:PSys):∀(l:List PCls),clssE s l=0->∀c∈l,classE s c=0
 | [],_,c,hc=>by simp at hc
 | y :: l,h,c,hc=>by
  simp only[clssE]at h
  split at h
  ·rename_i h1;exact absurd h h1
  ·rename_i h1
   rcases List.mem_cons.1 hc with rfl|hc
   ·exact Classical.byContradiction h1
   ·exact clssE_0 s l h c hc
structure Good (s:PSys):Prop where
 np:s.pools.length<=6
 nl:s.locks.length<=4
 nc:s.classes.length<=6
 nms:∀x∈namesL s,isNm x=true
 nd:(namesL s).Nodup
 pl:∀p∈s.pools,¬p.bad
 wk:∀c∈s.classes,0<=c.workers/\c.workers<=4
 ns:∀c∈s.classes,c.steps.length<=12
 st:∀c∈s.classes,∀x∈c.steps,preE s x=0
theorem goodS_of{s:PSys}(h:checkE s=0):Good s:=by
 unfold checkE at h
 split at h
 ·simp at h
 ·rename_i hl
  obtain⟨h1,h2⟩:=thenE_eq0 h
  obtain⟨h3,h4⟩:=thenE_eq0 h2
  obtain⟨a,b⟩:=namesE_0 _ _ h1
  have hc:=clssE_0 s s.classes h4
  have hcc:∀c∈s.classes,(0<=c.workers/\c.workers<=4)/\c.steps.length<=12/\(runE s c.steps (hold0 s)).1=0:=fun c hcm=>by
   have:=hc c hcm
   unfold classE at this
   split at this
   ·simp at this
   ·split at this
    ·simp at this
    ·rename_i w1 w2
     refine⟨by omega,by omega,?_⟩
     unfold verd at this
     split at this
     ·rename_i w3;exact absurd this w3
     ·rename_i w3;exact Classical.byContradiction w3
  exact⟨by omega,by omega,by omega,fun x hx=>(a x hx).1,b,poolsE_0 h3,fun c hcm=>(hcc c hcm).1,fun c hcm=>(hcc c hcm).2.1,fun c hcm=>runE_0 s _ _ (hcc c hcm).2.2⟩
theorem pool_fit{p:PPool}(h:¬p.bad):1<=p.size/\p.size<=8/\0<=p.res/\p.res<=8:=by
 unfold PPool.bad at h;omega
theorem getD_mem{α:Type}{l:List α}{i:Nat}{d:α}(h:i<l.length):l.getD i d∈l:=by
 rw[List.getD_eq_getElem?_getD,List.getElem?_eq_getElem h];exact List.getElem_mem h
theorem onName_mem{s:PSys}{x:PStep}(h:preE s x=0):onName s x∈namesL s:=by
 obtain⟨k,o,_⟩:=preE_0 h
 unfold onName namesL
 unfold mostE at o
 by_cases h1:x.kind=1∨x.kind=2
 ·rw[if_pos h1];rw[if_neg (by omega),if_neg (by omega)]at o
  exact List.mem_append.2 (.inl (List.mem_append.2 (.inl (List.mem_map.2 ⟨_,getD_mem (by omega),rfl⟩))))
 ·rw[if_neg h1]
  by_cases h2:x.kind=3∨x.kind=4
  ·rw[if_pos h2];rw[if_pos h2]at o
   exact List.mem_append.2 (.inl (List.mem_append.2 (.inr (getD_mem (by omega)))))
  ·rw[if_neg h2];rw[if_neg h2,if_pos (by omega)]at o
   exact List.mem_append.2 (.inr (List.mem_map.2 ⟨_,getD_mem (by omega),rfl⟩))
theorem pre_deep{s:PSys}{x:PStep}(h:preE s x=0)(hk:x.kind≠1):x.deep=false:=by
 unfold preE at h
 split at h
 ·simp at h
 ·rename_i hb
  simp only[badForm,Bool.or_eq_true,Bool.and_eq_true,Bool.not_eq_true',decide_eq_true_eq,decide_eq_false_iff_not,not_or,not_and,Bool.not_eq_true]at hb
  exact hb.2 hk
theorem st_fit{s:PSys}{x:PStep}(g:Good s)(h:preE s x=0):StFit s x:=by
 obtain⟨k,o,c,c2⟩:=preE_0 h
 have hc:0<=x.cnt/\x.cnt<=999:=by
  by_cases h1:x.kind=1∨x.kind=2
  ·have:=c h1
   unfold mostE at o
   rw[if_neg (by omega),if_neg (by omega)]at o
   have hp:=pool_fit (g.pl _ (getD_mem (d:=default) (by omega:x.on.toNat<s.pools.length)))
   omega
  ·rw[c2 h1];omega
 exact⟨k,g.nms _ (onName_mem h),hc.1,hc.2,c2,pre_deep h⟩
def bareC(c:PCls):PCls:=⟨c.name,c.workers,c.server,[]⟩
end Go.AM
namespace Go.AM
open Go Go.Proofs
theorem pass1_skips(n:Nat):∀(ls:List PL) (i:Nat) (s:PSys) (us:List US),pass1 (ls++List.replicate n .skip) i s us=pass1 ls i s us
 | [],i,s,us=>by
  rw[List.nil_append]
  induction n generalizing i with
  | zero=>rfl
  | succ n ih=>rw[List.replicate_succ];exact(ih (i+1)).trans rfl
 | .skip :: r,i,s,us=>pass1_skips n r (i+1) s us
 | .bad :: r,i,s,us=>rfl
 | .decl k x a b :: r,i,s,us=>by
  simp only[List.cons_append,pass1]
  rw[pass1_skips n r]
 | .use k c d x :: r,i,s,us=>by
  simp only[List.cons_append,pass1]
  rw[pass1_skips n r]
theorem lineW_nil:lineW (wordsW [])=.skip:=rfl
theorem parse41_lines(t:Str):parse41 (splitC 10) t=parse41 linesW t:=by
 unfold parse41 lines41 parseM
 rw[linesW_split]
 by_cases h:(splitC 10 t).getLast?=some []
 ·rw[if_pos h]
  have e:splitC 10 t=(splitC 10 t).dropLast++[[]]:=by
   obtain⟨hne,hl⟩:=List.getLast?_eq_some_iff.1 h
   rw[hl];simp
  generalize (splitC 10 t).dropLast=l at *
  rw[e,List.map_append,List.map_singleton,lineW_nil]
  rw[show [PL.skip]=List.replicate 1 .skip from rfl,pass1_skips]
 ·rw[if_neg h]
theorem joinL_len:∀(l:List Str) (k:Nat),(∀x∈l,x.length<=k)->(joinL l).length<=(k+1)*l.length
 | [],k,_=>by simp[joinL]
 | x :: l,k,h=>by
  have h1:=joinL_len l k fun y hy=>h y (by simp[hy])
  have h2:=h x (by simp)
  rw[joinL_cons,List.length_append,List.length_cons,List.length_cons,Nat.mul_add]
  omega
theorem sysL_len{s:PSys}(g:Good s):(∀l∈sysL s,l.length<=28)/\(sysL s).length<=88:=by
 have nmn:∀x∈namesL s,x.length<=8:=fun x hx=>(isNm_len (g.nms x hx)).2
 have num:∀n:Int,0<=n->n<=999->(Lib.itoa n).length<=3:=fun n h1 h2=>(numOk h1 h2).l3
 constructor
 ·intro l hl
  unfold sysL at hl
  rcases List.mem_append.1 hl with hl|hl
  ·rcases List.mem_append.1 hl with hl|hl
   ·obtain⟨p,hp,rfl⟩:=List.mem_map.1 hl
    have hn:=nmn p.name (by unfold namesL;exact List.mem_append.2 (.inl (List.mem_append.2 (.inl (List.mem_map.2 ⟨p,hp,rfl⟩)))))
    obtain⟨a1,a2,a3,a4⟩:=pool_fit (g.pl p hp)
    have h1:=num p.size (by omega) (by omega)
    have h2:=num p.res (by omega) (by omega)
    simp only[poolL,List.length_append,List.length_cons,List.length_nil];omega
   ·obtain⟨x,hx,rfl⟩:=List.mem_map.1 hl
    have hn:=nmn x (by unfold namesL;exact List.mem_append.2 (.inl (List.mem_append.2 (.inr hx))))
    simp only[lockL,List.length_append,List.length_cons,List.length_nil];omega
  ·obtain⟨c,hc,hl⟩:=List.mem_flatMap.1 hl
   unfold clsT at hl
   rcases List.mem_cons.1 hl with rfl|hl
   ·have hn:=nmn c.name (by unfold namesL;exact List.mem_append.2 (.inr (List.mem_map.2 ⟨c,hc,rfl⟩)))
    have hw:=g.wk c hc
    have h1:=num c.workers hw.1 (by omega)
    unfold clsL
    cases c.server <;> simp only[Bool.false_eq_true,if_false,if_true,List.length_append,List.length_cons,List.length_nil] <;> omega
   ·obtain⟨x,hx,rfl⟩:=List.mem_map.1 hl
    have hp:=g.st c hc x hx
    have f:=st_fit g hp
    have hn:=nmn _ (onName_mem hp)
    have h1:=num x.cnt f.c0 f.c1
    unfold stepT
    (repeat' split) <;> simp only[List.length_append,List.length_cons,List.length_nil] <;> omega
 ·unfold sysL
  have key:∀cs:List PCls,(∀c∈cs,c.steps.length<=12)->(cs.flatMap (clsT s)).length<=13*cs.length:=fun cs=>by
   induction cs with
   | nil=>intro _;simp
   | cons c cs ih =>
    intro h
    have h1:=ih fun y hy=>h y (by simp[hy])
    have h2:=h c (by simp)
    rw[List.flatMap_cons,List.length_append,List.length_cons]
    simp only[clsT,List.length_cons,List.length_map]
    omega
  have h1:=key s.classes g.ns
  have a:=g.np
  have b:=g.nl
  have c:=g.nc
  simp only[List.length_append,List.length_map]
  omega
theorem parse_good{lines:Str->List Str}{t:Str}(h:(parse41 lines t).2.2=0):checkE (parse41 lines t).1=0:=by
 unfold parse41 at h ⊢
 split at h
 ·simp at h
 ·rename_i h1
  rw[if_neg h1]
  unfold parseM at h ⊢
  generalize mid41 (pass1 (lines41 lines t) 0 sys0 [])=q at *
  cases q with
  | inl ne =>
   simp only[end41]at h ⊢
   decide
  | inr s =>
   simp only[end41]at h ⊢
   by_cases hc:checkE s=0
   ·rw[if_neg (fun h=>h hc)];exact hc
   ·rw[if_pos hc]at h;exact absurd h hc
theorem parse_bad{lines:Str->List Str}{t:Str}(h:(parse41 lines t).2.2≠0):(parse41 lines t).1=sys0:=by
 unfold parse41 at h ⊢
 split at h
 ·rename_i h1;rw[if_pos h1]
 ·rename_i h1
  rw[if_neg h1]
  unfold parseM at h ⊢
  generalize mid41 (pass1 (lines41 lines t) 0 sys0 [])=q at *
  cases q with
  | inl ne=>rfl
  | inr s =>
   simp only[end41]at h ⊢
   by_cases hc:checkE s=0
   ·rw[if_neg (fun h=>h hc)]at h;exact absurd rfl h
   ·rw[if_pos hc]
end Go.AM
namespace Go.AM
open Go Go.Proofs Go.Shelf
def rI:Ren where
 f:=fun x=>match x with
  | 171=>53
  | 243=>84
  | 246=>96
  | 283=>112
  | 284=>113
  | 285=>114
  | 286=>115
  | 129=>107
  | 317=>128
  | 318=>129
  | 319=>130
  | 320=>131
  | 337=>135
  | 338=>136
  | n=>n
 t:=fun x=>match x with
  | 3=>3
  | 9=>9
  | 2=>2
  | 4=>4
  | 171=>142
  | 0=>0
  | 53=>140
  | 37=>78
  | 5=>5
  | 173=>144
  | 212=>159
  | 51=>138
  | 20=>20
  | 213=>160
  | 46=>117
  | 232=>165
  | 233=>166
  | n=>n
 g:=fun x=>match x with
  | 17=>3
  | 18=>4
  | 19=>5
  | n=>n
theorem laysI:LaysM.n171 Tryz.prog rI where
 mixed:=by kernel_rfl
 f129:=Eq.trans Tryz.func107 (congrArg some (by kernel_rfl))
 f171:=Eq.trans Tryz.func53 (congrArg some (by kernel_rfl))
 f243:=Eq.trans Tryz.func84 (congrArg some (by kernel_rfl))
 f246:=Eq.trans Tryz.func96 (congrArg some (by kernel_rfl))
 f283:=Eq.trans Tryz.func112 (congrArg some (by kernel_rfl))
 f284:=Eq.trans Tryz.func113 (congrArg some (by kernel_rfl))
 f285:=Eq.trans Tryz.func114 (congrArg some (by kernel_rfl))
 f286:=Eq.trans Tryz.func115 (congrArg some (by kernel_rfl))
 f317:=Eq.trans Tryz.func128 (congrArg some (by kernel_rfl))
 f318:=Eq.trans Tryz.func129 (congrArg some (by kernel_rfl))
 f319:=Eq.trans Tryz.func130 (congrArg some (by kernel_rfl))
 f320:=Eq.trans Tryz.func131 (congrArg some (by kernel_rfl))
 f337:=Eq.trans Tryz.func135 (congrArg some (by kernel_rfl))
 f338:=Eq.trans Tryz.func136 (congrArg some (by kernel_rfl))
 t0:=Tryz.underlying0
 a0:=Tryz.isAgg0
 z0:=Tryz.sizeOf0
 v0:=Tryz.zeroValue0
 t2:=Tryz.underlying2
 a2:=Tryz.isAgg2
 z2:=Tryz.sizeOf2
 v2:=Tryz.zeroValue2
 t3:=Tryz.underlying3
 a3:=Tryz.isAgg3
 z3:=Tryz.sizeOf3
 v3:=Tryz.zeroValue3
 t4:=Tryz.underlying4
 a4:=Tryz.isAgg4
 z4:=Tryz.sizeOf4
 v4:=Tryz.zeroValue4
 t5:=Tryz.underlying5
 a5:=Tryz.isAgg5
 z5:=Tryz.sizeOf5
 v5:=Tryz.zeroValue5
 t9:=Tryz.underlying9
 a9:=Tryz.isAgg9
 z9:=Tryz.sizeOf9
 v9:=Tryz.zeroValue9
 t20:=Tryz.underlying20
 a20:=Tryz.isAgg20
 z20:=Tryz.sizeOf20
 v20:=Tryz.zeroValue20
 t37:=Tryz.underlying78
 a37:=Tryz.isAgg78
 z37:=Tryz.sizeOf78
 v37:=Tryz.zeroValue78
 t46:=Tryz.underlying117
 a46:=Tryz.isAgg117
 z46:=Tryz.sizeOf117
 v46:=Tryz.zeroValue117
 t51:=Tryz.underlying138
 a51:=Tryz.isAgg138
 z51:=Tryz.sizeOf138
 v51:=Tryz.zeroValue138
 t53:=Tryz.underlying140
 a53:=Tryz.isAgg140
 z53:=Tryz.sizeOf140
 v53:=Tryz.zeroValue140
 t171:=Tryz.underlying142
 a171:=Tryz.isAgg142
 z171:=Tryz.sizeOf142
 v171:=Tryz.zeroValue142
 t173:=Tryz.underlying144
 a173:=Tryz.isAgg144
 z173:=Tryz.sizeOf144
 v173:=Tryz.zeroValue144
 t212:=Tryz.underlying159
 a212:=Tryz.isAgg159
 z212:=Tryz.sizeOf159
 v212:=Tryz.zeroValue159
 t213:=Tryz.underlying160
 a213:=Tryz.isAgg160
 z213:=Tryz.sizeOf160
 t232:=Tryz.underlying165
 a232:=Tryz.isAgg165
 z232:=Tryz.sizeOf165
 v232:=Tryz.zeroValue165
 t233:=Tryz.underlying166
 a233:=Tryz.isAgg166
 z233:=Tryz.sizeOf166
 v233:=Tryz.zeroValue166
 g17:=by kernel_rfl
 g18:=by kernel_rfl
 g19:=by kernel_rfl
 i0:=by kernel_rfl
 i2:=by kernel_rfl
 i3:=by kernel_rfl
 i4:=by kernel_rfl
 i5:=by kernel_rfl
 i9:=by kernel_rfl
 i20:=by kernel_rfl
 i37:=by kernel_rfl
 i46:=by kernel_rfl
 i51:=by kernel_rfl
 i53:=by kernel_rfl
 i171:=by kernel_rfl
 i173:=by kernel_rfl
 i212:=by kernel_rfl
 i232:=by kernel_rfl
 i233:=by kernel_rfl
 m17:=by kernel_rfl
 m18:=by kernel_rfl
 m19:=by kernel_rfl
end Go.AM
namespace Go.AM
open Go Go.Proofs
theorem After.grown{F:Nat->Prop}{φ:Nat->Option Loc}{own:List Obj}{w:World}(hc:Conc F φ own w)(k:Nat)(os:Array Go.Obj):After F φ w F φ own (Go.Sort.grow (w.drewN k) os) []:=by
 have hold:∀b,b<w.heap.size->(Go.Sort.grow (w.drewN k) os).heap[b]?=w.heap[b]?:=fun b hb=>by
  show (w.heap++os)[b]?=w.heap[b]?
  rw[Array.getElem?_append_left hb]
 have hsz:w.heap.size<=(Go.Sort.grow (w.drewN k) os).heap.size:=by
  show w.heap.size<=(w.heap++os).size
  simp
 exact⟨fun _ h=>h,⟨rfl,rfl,rfl,hsz,fun b hb=>hold b (hc.fb b hb)⟩,hc.beside hsz (fun b hb=>hold b (hc.fb b hb)) (fun o L h hn=>hold _ (hc.live o L h hn).2),fun _ _ _ h=>h,fun b hb _=>hold b hb,
  fun o L' ho hn=>.inr ⟨o,L',ho,hn,rfl⟩,fun b hb=>.inl hb⟩
theorem Cs_ints{F:Nat->Prop}{w:World}{k:IntKind}:∀(l:List Int) (cs:List Value),D.Cs F w (l.map (D.int k)) cs->cs=l.map (Value.int k)
 | [],cs,h=>by simpa only[List.map_nil,D.Cs] using h
 | z :: l,cs,h=>by
  simp only[List.map_cons,D.Cs]at h
  obtain⟨c,cs',rfl,_,h1,h2⟩:=h
  rw[Cs_ints l cs' h2]
  simp only[D.C,List.cons.injEq]at h1
  simp only[List.map_cons,h1.1.1]
def itoaR(ds:List D)(v:AV):Prop:=∃n:Int,ds=[.int .i64 n]/\-9223372036854775808<=n/\n<=9223372036854775807/\v=.dat (.str (Lib.itoa n))
theorem itoa_ok:OkF Tryz.prog 53 (dataC itoaR):=by
 rintro args own v own' mv ⟨ds,hds,⟨n,rfl,h0,h1,rfl⟩,rfl,rfl,_⟩
 refine⟨⟨_,_,Tryz.func53,rfl,by decide⟩,fun F φ w vs hc hs=>?_⟩
 obtain⟨x,rfl⟩:∃x,args=[x]:=by
  match args,hds with
  | [x],_=>exact⟨x,rfl⟩
  | [],h=>simp[asDL]at h
  | x :: y :: r,h =>
   simp only[asDL,Option.bind_eq_some_iff,Option.map_eq_some_iff,List.cons.injEq]at h
   obtain⟨d,_,ds',⟨d',_,ds'',_,rfl⟩,h2⟩:=h
   simp at h2
 simp only[asDL,Option.bind_eq_some_iff,Option.map_eq_some_iff,List.cons.injEq,Option.some.injEq,exists_eq_left,and_true]at hds
 obtain⟨d,hd,ds',rfl,rfl,_⟩:=hds
 obtain rfl:x=.dat (.int .i64 n):=by
  cases x <;> simp[AV.asD]at hd
  all_goals first|exact congrArg AV.dat hd|(split at hd <;> simp at hd;try (obtain⟨_,h⟩:=hd;cases h))|skip
  all_goals trace_state
 simp only[AV.Rs,AV.R,D.R]at hs
 obtain⟨c,vs',rfl,hcn,rfl⟩:=hs
 obtain⟨cs,g1,g2,g3,g4,g5,ty,fr,g6⟩:=hc.glob 3 _ _ rfl
 simp only[D.C]at g5
 have hcs:=Cs_ints _ _ g5
 have htab : Lib.TabIs Tryz.prog w "internal/strconv.uint64pow10" .u64 Lib.pow10Tab := by
  unfold Lib.TabIs World.var?
  rw [show Tryz.prog.globalNamed "internal/strconv.uint64pow10" = some 3 by kernel_rfl]
  simp only[Option.bind_some,g6,hcs]
 have hcall:=Any.strconv_Itoa laysI n h0 h1 w htab
 have ef:rI.f 171=53:=rfl
 rw[ef]at hcall
 have ev:#[Value.int .i64 n]=[c].toArray:=by rw[hcn.1]
 rw[ev]at hcall
 refine hcall.mono ?_
 rintro e w' ⟨rfl,k,os,rfl⟩
 exact⟨_,F,φ,rfl,After.grown hc k os,by simp only[AV.R,D.R,D.C];exact⟨trivial,Nat.le_trans (Lib.itoa_length_le n h0 h1) (by decide)⟩⟩
end Go.AM
namespace Go.AM
open Go Go.Proofs
theorem mem_ix{α:Type}{l:List α}{x:α}(k:Nat)(h:l[k]?=some x):x∈l:=List.mem_of_getElem? h
theorem splitC_count(c:UInt8):∀s:Str,(splitC c s).length=s.count c+1
 | []=>rfl
 | b :: t=>by
  have ih:=splitC_count c t
  rw[splitC_cons,List.count_cons]
  by_cases h:b=c
  ·rw[if_pos h,List.length_cons,ih];simp[h]
  ·rw[if_neg h]
   cases hs:splitC c t with
   | nil=>exact absurd hs (splitC_ne c t)
   | cons x r=>rw[hs]at ih;simp only[List.length_cons]at ih ⊢;simp[h];omega
end Go.AM
namespace Go.AM
open Go Go.Proofs
theorem pnumber_ok:OkF Tryz.prog 76 (dataC numR):=by
 refine okF_data Tryz.func76 rfl (by decide) ?_
 rintro ds v ⟨s,rfl,hmx,rfl⟩
 generalize hv:numN s=V
 refine sem_of_awpK [5] (Γ:=tbl []) okG_nil _ _ _ ?_
 by_cases h1:s.length<1
 ·have h1':(s.length:Int)<1:=by omega
  simp only[go_sem,Tryz.ntmps76,h1',decide_true]
  have:V=-1:=by rw[← hv];simp only[numN,h1,true_or,if_true]
  subst this
  exact post_data (.inl rfl) [2] rfl trivial rfl
 have h1':¬(s.length:Int)<1:=by omega
 by_cases h2:3<s.length
 ·have h2':(3:Int)<s.length:=by omega
  simp only[go_sem,Tryz.ntmps76,h1',h2',decide_true,decide_false]
  have:V=-1:=by rw[← hv];simp only[numN,h2,true_or,or_true,if_true]
  subst this
  exact post_data (.inl rfl) [2] rfl trivial rfl
 have h2':¬(3:Int)<s.length:=by omega
 have hc48:∀b:UInt8,((b.toNat:Int)=48)=(b=48):=fun b=>by
  apply propext
  constructor
  ·intro h
   have h':b.toNat=48:=by omega
   exact UInt8.toNat_inj.1 (by simpa using h')
  ·rintro rfl;rfl
 have hV:¬(1<s.length/\s.getD 0 0=48)->V=if s.all digc then numF s else -1:=fun h=>by
  rw[← hv];unfold numN;rw[if_neg (by simp only[h1,h2,h,or_self,not_false_eq_true])]
 have h00:(0:Int)<s.length:=by omega
 by_cases h4:s.getD 0 0=48
 case' pos =>
  by_cases h3:1<s.length
  ·have h3':(1:Int)<s.length:=by omega
   simp only[go_sem,Tryz.ntmps76,h1',h2',h3',h00,decide_true,decide_false,hc48,h4]
   have:V=-1:=by rw[← hv];simp only[numN,h3,h4,and_self,or_true,if_true]
   subst this
   exact post_data (.inl rfl) [2] rfl trivial rfl
  have h3':¬(1:Int)<s.length:=by omega
  have hne:¬(1<s.length/\s.getD 0 0=48):=fun h=>h3 h.1
  simp only[go_sem,Tryz.ntmps76,h1',h2',h3',h00,decide_true,decide_false,hc48,h4]
 case' neg =>
  have hne:¬(1<s.length/\s.getD 0 0=48):=fun h=>h4 h.2
  simp only[go_sem,Tryz.ntmps76,h1',h2',h00,decide_true,decide_false,hc48,h4]
 all_goals
  have hV':=hV hne
  refine sem_loop (fun k:Nat=>⟨slotsOf 48 [(0,.dat (.str s)),(3,.dat (.int .i64 (numF (s.take k)))),(24,.dat (.int .i64 s.length)),(25,.dat (.int .i64 k))],[],0,[]⟩)
   (fun k=>k<=s.length/\(s.take k).all digc=true) (fun k=>s.length - k) 0 ⟨Nat.zero_le _,by simp⟩ ?_ ?_
  ·simp only[List.take_zero]
   exact le_slots' (by simp only[go_sem,numF,List.foldl_nil])
  rintro k ⟨hk,hall⟩
  refine sem_of_awp (Γ:=tbl []) okG_nil _ _ _ ?_
  by_cases hlt:k<s.length
  ·have k1:(k:Int)<(s.length:Int):=by omega
   have k2:(0:Int)<=(k:Int):=by omega
   have htk:s.take (k+1)=s.take k++[s.getD k 0]:=by
    rw[List.take_succ_eq_append_getElem hlt,List.getD_eq_getElem?_getD,List.getElem?_eq_getElem hlt];rfl
   have hb:=numF_bound (s.take k) (by rw[List.length_take];omega) hall
   by_cases d1:((s.getD k 0).toNat:Int)<48
   ·simp only[go_sem,k1,k2,d1,decide_true,Int.toNat_natCast]
    have:V=-1:=by
     rw[hV',if_neg]
     intro ha
     have:=List.all_eq_true.1 ha (s.getD k 0) (by rw[List.getD_eq_getElem?_getD,List.getElem?_eq_getElem hlt];exact List.getElem_mem hlt)
     exact(digc_iff.1 this).1 d1
    subst this
    exact post_data (.inl rfl) [2] rfl trivial rfl
   by_cases d2:(57:Int)<((s.getD k 0).toNat:Int)
   ·simp only[go_sem,k1,k2,d1,d2,decide_true,decide_false,Int.toNat_natCast]
    have:V=-1:=by
     rw[hV',if_neg]
     intro ha
     have:=List.all_eq_true.1 ha (s.getD k 0) (by rw[List.getD_eq_getElem?_getD,List.getElem?_eq_getElem hlt];exact List.getElem_mem hlt)
     exact(digc_iff.1 this).2 d2
    subst this
    exact post_data (.inl rfl) [2] rfl trivial rfl
   have hdg:digc (s.getD k 0)=true:=digc_iff.2 ⟨d1,d2⟩
   simp only[go_sem,k1,k2,d1,d2,decide_true,decide_false,Int.toNat_natCast]
   have hw:=wrap_u8 (n:=((s.getD k 0).toNat:Int) - 48) (by omega) (by omega)
   refine⟨inR_i64.2 (by omega),?_⟩
   simp only[go_sem,bin_sub8,hw]
   have hall':(s.take (k+1)).all digc=true:=by rw[htk];simp only[List.all_append,hall,List.all_cons,List.all_nil,hdg,Bool.and_self]
   refine⟨inR_i64.2 (by omega),inR_i64.2 (by omega),inR_i64.2 (by omega),k+1,⟨by omega,hall'⟩,by omega,?_⟩
   rw[htk,numF_snoc]
   exact le_slots' (by simp only[go_sem,Int.natCast_add,Int.natCast_one,Int.cast_ofNat_Int])
  ·have k1:¬(k:Int)<(s.length:Int):=by omega
   have hke:k=s.length:=by omega
   subst hke
   rw[List.take_length]at hall
   simp only[go_sem,k1,decide_false,List.take_length]
   have:V=numF s:=by rw[hV',if_pos hall]
   rw[this]
   exact post_data (.inl rfl) [2] rfl trivial rfl
def kindP(w:Str):Nat:=if w=[116,97,107,101] then 1 else if w=[103,105,118,101] then 2 else if w=[108,111,99,107] then 3 else if w=[117,110,108,111,99,107] then 4 else if w=[99,97,108,108] then 5 else 0
def kindPR(ds:List D)(v:AV):Prop:=∃s:Str,ds=[.str s]/\v=.dat (.int .i64 (kindP s))
theorem pkind_ok:OkF Tryz.prog 77 (dataC kindPR):=by
 refine okF_data Tryz.func77 rfl (by decide) ?_
 rintro ds v ⟨s,rfl,rfl⟩
 generalize hv:kindP s=V
 unfold kindP at hv
 refine sem_of_awp (Γ:=tbl []) okG_nil _ _ _ ?_
 by_cases h1:s=[116,97,107,101]
 ·rw[if_pos h1]at hv;subst hv
  simp only[go_sem,Tryz.ntmps77,eq_true h1,decide_true]
  exact post_data (.inl rfl) [2] rfl trivial rfl
 rw[if_neg h1]at hv
 by_cases h2:s=[103,105,118,101]
 ·rw[if_pos h2]at hv;subst hv
  simp only[go_sem,Tryz.ntmps77,eq_false h1,eq_true h2,decide_true,decide_false]
  exact post_data (.inl rfl) [2] rfl trivial rfl
 rw[if_neg h2]at hv
 by_cases h3:s=[108,111,99,107]
 ·rw[if_pos h3]at hv;subst hv
  simp only[go_sem,Tryz.ntmps77,eq_false h1,eq_false h2,eq_true h3,decide_true,decide_false]
  exact post_data (.inl rfl) [2] rfl trivial rfl
 rw[if_neg h3]at hv
 by_cases h4:s=[117,110,108,111,99,107]
 ·rw[if_pos h4]at hv;subst hv
  simp only[go_sem,Tryz.ntmps77,eq_false h1,eq_false h2,eq_false h3,eq_true h4,decide_true,decide_false]
  exact post_data (.inl rfl) [2] rfl trivial rfl
 rw[if_neg h4]at hv
 by_cases h5:s=[99,97,108,108]
 ·rw[if_pos h5]at hv;subst hv
  simp only[go_sem,Tryz.ntmps77,eq_false h1,eq_false h2,eq_false h3,eq_false h4,eq_true h5,decide_true,decide_false]
  exact post_data (.inl rfl) [2] rfl trivial rfl
 rw[if_neg h5]at hv;subst hv
 simp only[go_sem,Tryz.ntmps77,eq_false h1,eq_false h2,eq_false h3,eq_false h4,eq_false h5,decide_true,decide_false]
 exact post_data (.inl rfl) [2] rfl trivial rfl
end Go.AM
namespace Go.AM
open Go Go.Proofs
theorem ext_count(s:Str)(c:UInt8):ExtOk Tryz.prog 127 [.dat (.str s),.dat (.int .u8 c.toNat)] (.dat (.int .i64 (s.count c))):=by
 refine ext_of (e:=Extern.BytealgCount.count) Tryz.func127 (by decide) rfl (by kernel_rfl) (by kernel_rfl) ?_
 intro F φ w vs hs
 simp only[AV.Rs]at hs
 obtain⟨v1,r1,rfl,h1,v2,r2,rfl,h2,rfl⟩:=hs
 obtain⟨rfl,hl⟩:=R_str.1 h1
 obtain⟨rfl,_⟩:=R_int.1 h2
 refine⟨_,Lib.run_countString _ _ _,?_⟩
 have e:((c.toNat:Nat):Int).toNat.toUInt8=c:=by simp
 rw[e]
 have:=List.count_le_length (a:=c) (l:=s)
 simp only[maxLen]at hl
 exact R_int.2 ⟨rfl,inR_i64.2 (by show -9223372036854775808<=((s.count c:Nat):Int)/\((s.count c:Nat):Int)<=9223372036854775807;omega)⟩
def cntR(ds:List D)(v:AV):Prop:=∃(s:Str) (c:UInt8),ds=[.str s,.str [c]]/\v=.dat (.int .i64 (s.count c))
theorem count_ok:OkF Tryz.prog 111 (dataC cntR):=by
 refine okF_data Tryz.func111 rfl (by decide) ?_
 rintro ds v ⟨s,c,rfl,rfl⟩
 refine sem_of_awpK [4] (Γ:=tbl []) okG_nil _ _ _ ?_
 simp only[go_sem,Tryz.ntmps111,List.length_cons,List.length_nil,eq_self,decide_true]
 refine sem_regionE (Γ:=tbl []) okG_nil ?_
 refine .inr ?_
 simp only[go_sem]
 refine .inr ?_
 simp only[go_sem]
 refine .inr ?_
 simp only[go_sem,List.length_cons,List.length_nil]
 refine .inl ?_
 refine⟨_,ext_count s c,?_⟩
 simp only[go_sem]
 refine .inr ?_
 simp only[go_sem]
 exact post_data (.inl rfl) [4] rfl trivial rfl
def gspR(ds:List D)(xs:List D):Prop:=∃(s:Str) (c:UInt8),ds=[.str s,.str [c],.int .i64 0,.int .i64 (-1)]/\s.length<=1000000/\xs=(splitC c s).map .str
abbrev tabGs:List (Nat×Contract):=[(111,dataC cntR),(92,dataC idxTR)]
theorem tabGs_ok:OkG Tryz.prog (tbl tabGs):=okG_cons count_ok (okG_cons strIndex_ok okG_nil)
theorem genSplit_ok:OkF Tryz.prog 94 (madeC (madeS none gspR)):=by
 refine okF_made Tryz.func94 rfl (by decide) ?_
 rintro ds v ob ⟨xs,⟨s,c,rfl,hmx,rfl⟩,rfl,rfl⟩
 have hcl:=List.count_le_length (a:=c) (l:=s)
 have hsc:=splitC_count c s
 refine sem_of_awp (Γ:=tbl tabGs) tabGs_ok _ _ _ ?_
 have c0:([c]=([]:Str))=False:=by simp
 have m1:((-1:Int)=0)=False:=by simp
 have m2:((-1:Int)<0)=True:=by simp
 simp only[go_sem,Tryz.ntmps94,c0,m1,m2,decide_true,decide_false]
 refine call_data cntR (mem_ix 0 rfl) [.str s,.str [c]] _ rfl ⟨s,c,rfl,rfl⟩ (.inl rfl) ?_
 have hmin:min ((s.count c:Int)+1) ((s.length:Int)+1)=((s.count c+1:Nat):Int):=by omega
 have hm1:((s.count c+1:Nat):Int) - 1=((s.count c:Nat):Int):=by omega
 simp only[go_sem,hmin,hm1,Int.toNat_natCast]
 refine⟨inR_i64.2 (by omega),inR_i64.2 (by omega),Int.le_refl _,by omega,inR_i64.2 (by omega),?_⟩
 refine sem_loop (fun x:Nat×Str=>⟨slotsOf 66 [(0,.dat (.str x.2)),(1,.dat (.str [c])),(2,.dat (.int .i64 0)),(3,.dat (.int .i64 (s.count c:Nat))),(9,.sl 0 0 (s.count c+1)),(10,.dat (.int .i64 x.1))],[.row none (((splitC c s).take x.1).map D.str++List.replicate (s.count c+1 - x.1) (.str []))],0,[]⟩)
  (fun x=>x.1<=s.count c/\splitC c x.2=(splitC c s).drop x.1/\x.2.length<=s.length) (fun x=>s.count c - x.1) (0,s) ⟨Nat.zero_le _,rfl,Nat.le_refl _⟩ ?_ ?_
 ·exact le_slots' (by simp only[go_sem,Int.natCast_zero,List.take_zero,List.map_nil,List.nil_append,Nat.sub_zero])
 rintro ⟨i,r⟩ ⟨h1,h2,h3⟩
 simp only at h1 h2 h3
 refine sem_of_awp (Γ:=tbl tabGs) tabGs_ok _ _ _ ?_
 have hrc:=splitC_count c r
 have hdl:(splitC c r).length=s.count c+1 - i:=by rw[h2,List.length_drop,hsc]
 have htl:(((splitC c s).take i).map D.str).length=i:=by rw[List.length_map,List.length_take,hsc];omega
 by_cases hi:i<s.count c
 ·have k1:(i:Int)<((s.count c:Nat):Int):=by omega
  simp only[go_sem,k1,decide_true]
  refine call_data idxTR (mem_ix 1 rfl) [.str r,.str [c]] _ rfl ⟨r,c,rfl,rfl⟩ (.inl rfl) ?_
  have hge:0<=idxB r c:=by
   rcases Int.lt_or_le (idxB r c) 0 with h|h
   ·have:=splitC_none h
    rw[this]at hdl;simp at hdl;omega
   ·exact h
  obtain⟨m,hm⟩:∃m:Nat,idxB r c=m:=⟨(idxB r c).toNat,by omega⟩
  have hml:m<r.length:=by
   rcases idxB_lt c r with h|⟨_,h⟩ <;> rw[hm]at h <;> omega
  have hsp:=splitC_some hm
  have hdc:(splitC c s).drop i=r.take m :: splitC c (r.drop (m+1)):=by rw[← h2,hsp]
  have hdr:(splitC c s).drop (i+1)=splitC c (r.drop (m+1)):=by
   have:=congrArg (List.drop 1) hdc
   rw[List.drop_drop]at this
   rw[this];rfl
  have htk:(splitC c s).take (i+1)=(splitC c s).take i++[r.take m]:=take_of_drop hdc
  have m3:(m:Int)+0=m:=by omega
  simp only[go_sem,hm,eq_false (show ¬((m:Nat):Int)<0 by omega),decide_false,m3,Int.toNat_natCast]
  have e1:((m:Int)+1).toNat=m+1:=by omega
  have e2:((r.length:Int) - ((m:Int)+1)).toNat=r.length - (m+1):=by omega
  have e3:(r.drop (m+1)).take (r.length - (m+1))=r.drop (m+1):=List.take_of_length_le (by simp)
  refine⟨inR_i64.2 (by omega),by omega,by omega,by rw[List.length_map]at htl;omega,inR_i64.2 (by omega),by omega,by omega,Int.le_refl _,inR_i64.2 (by omega),(i+1,r.drop (m+1)),⟨by simp only;omega,hdr.symm,by simp only[List.length_drop];omega⟩,by simp only;omega,?_⟩
  have e4:((m:Int) - 0).toNat=m:=by omega
  rw[e1,e2,e3,e4]
  have hrow:(((splitC c s).take i).map D.str++List.replicate (s.count c+1 - i) (D.str [])).set i (.str (r.take m))=((splitC c s).take (i+1)).map D.str++List.replicate (s.count c+1 - (i+1)) (.str []):=by
   obtain⟨k,hk⟩:∃k,s.count c+1 - i=k+1:=⟨s.count c - i,by omega⟩
   rw[hk,show s.count c+1 - (i+1)=k by omega,htk,List.map_append,List.replicate_succ,List.set_append_right _ _ (by omega),htl,Nat.sub_self]
   simp
  rw[hrow]
  exact le_slots' (by simp only[go_sem,Int.natCast_add,Int.cast_ofNat_Int])
 ·have k1:¬(i:Int)<((s.count c:Nat):Int):=by omega
  have hie:i=s.count c:=by omega
  have hr1:splitC c r=[r]:=by
   refine splitC_none' r fun b hb e=>?_
   subst e
   have:=List.count_pos_iff.2 hb
   omega
  have hall:splitC c s=(splitC c s).take i++[r]:=by
   rw[← hr1,h2,List.take_append_drop]
  simp only[go_sem,k1,decide_false,Int.toNat_natCast]
  have e1:((i:Int)+1 - 0).toNat=(splitC c s).length:=by rw[hsc];omega
  have hrow:(((splitC c s).take i).map D.str++List.replicate (s.count c+1 - i) (D.str [])).set i (.str r)=(splitC c s).map D.str:=by
   rw[show s.count c+1 - i=0+1 by omega,List.replicate_succ,List.set_append_right _ _ (by omega),htl,Nat.sub_self]
   conv=>rhs;rw[hall]
   simp
  refine⟨by omega,by rw[List.length_map]at htl;omega,inR_i64.2 (by omega),by omega,by omega,?_⟩
  rw[e1,hrow]
  exact post_own (.inl rfl) [8] rfl rfl (fun _ h=>h)
end Go.AM
namespace Go.AM
open Go Go.Proofs
def splR(ds:List D)(xs:List D):Prop:=∃(s:Str) (c:UInt8),ds=[.str s,.str [c]]/\s.length<=1000000/\xs=(splitC c s).map .str
theorem split_ok:OkF Tryz.prog 74 (madeC (madeS none splR)):=by
 refine okF_made Tryz.func74 rfl (by decide) ?_
 rintro ds v ob ⟨xs,⟨s,c,rfl,hmx,rfl⟩,rfl,rfl⟩
 refine sem_of_awp (Γ:=tbl [(94,madeC (madeS none gspR))]) (okG_cons genSplit_ok okG_nil) _ _ _ ?_
 simp only[go_sem,Tryz.ntmps74]
 refine call_made (madeS none gspR) (mem_ix 0 rfl) [.str s,.str [c],.int .i64 0,.int .i64 (-1)] _ _ rfl rfl ⟨_,⟨s,c,rfl,hmx,rfl⟩,rfl,rfl⟩ ?_
 simp only[go_sem,AV.shift,Obj.shift,AV.shifts,List.map_cons,List.map_nil,List.nil_append,List.length_nil,Nat.zero_add]
 exact post_own (.inl rfl) [4] rfl rfl (fun _ h=>h)
def isER(ds:List D)(v:AV):Prop:=∃s:Str,ds=[.str s]/\v=.dat (.bool (decide (s=[])))
theorem isE_ok:OkF Tryz.prog 75 (dataC isER):=by
 refine okF_data Tryz.func75 rfl (by decide) ?_
 rintro ds v ⟨s,rfl,rfl⟩
 refine sem_of_awp (Γ:=tbl []) okG_nil _ _ _ ?_
 simp only[go_sem,Tryz.ntmps75]
 exact post_data (.inl rfl) [2] rfl trivial rfl
abbrev strsD(l:List Str):List D:=l.map .str
def idxER(xs:List AV)(obs:List Obj)(v0:AV)(obs' ex:List Obj)(mv0:List Nat):Prop:=∃u:List Str,u.length<=2000000/\xs=[.sl 0 0 u.length,.fn 75 []]/\obs=[.row none (strsD u)]/\v0=.dat (.int .i64 (idxG [] 0 u))/\obs'=[.row none (strsD u)]/\ex=[]/\mv0=[]
abbrev tabIE:List (Nat×Contract):=[(75,dataC isER)]
theorem tabIE_ok:OkG Tryz.prog (tbl tabIE):=okG_cons isE_ok okG_nil
theorem idxE_ok:OkF Tryz.prog 93 (lentC idxER):=by
 refine okF_lent Tryz.func93 rfl (by decide) ?_
 rintro xs obs v0 obs' ex mv0 ⟨u,hu,rfl,rfl,rfl,rfl,rfl,rfl⟩
 generalize hv:idxG [] 0 u=V
 refine sem_of_awp (Γ:=tbl tabIE) tabIE_ok _ _ _ ?_
 have fin:∀s (b c:Int),b=c->s.getD 4 .top=.dat (.int .i64 b)->post Tryz.prog Tryz.f93 (.dat (.int .i64 c)) ([.row none (strsD u)]++[]) [] .ret ⟨s,[.row none (strsD u)],1,[]⟩:=fun s b c e h=>by
  subst e
  refine post_resO (.inl rfl) [.tmp 4] rfl (fun _ h=>h) ?_
  simp only[go_sem,h]
  exact Le.refl _
 simp only[go_sem,Tryz.ntmps93]
 refine sem_loop (fun k:Nat=>⟨slotsOf 19 [(0,.sl 0 0 u.length),(1,.fn 75 []),(4,.dat (.int .i64 0)),(7,.dat (.int .i64 u.length)),(8,.dat (.int .i64 k))],[.row none (strsD u)],1,[]⟩)
  (fun k=>k<=u.length/\idxG [] k (u.drop k)=V) (fun k=>u.length - k) 0 ⟨Nat.zero_le _,hv⟩ ?_ ?_
 ·exact le_slots' (by simp only[go_sem,Int.natCast_zero])
 ·rintro k ⟨hk,hI⟩
  refine sem_of_awp (Γ:=tbl tabIE) tabIE_ok _ _ _ ?_
  cases hd:u.drop k with
  | nil =>
   have:=end_of_drop hd hk
   have hk2:¬(k:Int)<u.length:=by omega
   simp only[go_sem,hk2,decide_false]
   refine fin _ _ _ ?_ (by rfl)
   rw[← hI,hd];rfl
  | cons c q =>
   have hlt:=lt_of_drop hd
   have hk2:(k:Int)<u.length:=by omega
   have hk0:(0:Int)<=k:=Int.natCast_nonneg k
   have hn:=nth_of_drop (f:=D.str) hd
   rw[hd,idxG]at hI
   simp only[go_sem,hk2,hk0,hn,hlt,decide_true]
   refine call_data isER (mem_ix 0 rfl) _ _ rfl ⟨c,rfl,rfl⟩ (.inl rfl) ?_
   by_cases he:c=[]
   ·subst he
    simp only[go_sem,decide_true]
    rw[if_pos rfl]at hI
    exact fin _ _ _ hI (by rfl)
   ·simp only[go_sem,he,decide_false]
    rw[if_neg (fun h=>he h.symm)]at hI
    refine⟨inR_i64.2 (by omega),k+1,⟨by omega,by rw[drop_cons hd];exact hI⟩,by omega,?_⟩
    exact le_slots' (by simp only[go_sem,Int.natCast_add,Int.cast_ofNat_Int])
def nonE(w:Str):Bool:=!decide (w=[])
def delR(xs:List AV)(obs:List Obj)(v0:AV)(obs' ex:List Obj)(mv0:List Nat):Prop:=∃u:List Str,u.length<=2000000/\xs=[.sl 0 0 u.length,.fn 75 []]/\obs=[.row none (strsD u)] /\
 v0=.sl 0 0 (u.filter nonE).length/\obs'=[.row none (strsD (u.filter nonE))]/\ex=[]/\mv0=[]
theorem idxG_first{u:List Str}:∀{k:Nat} {v:Int},idxG [] k u=v->(v=-1/\u.filter nonE=u)∨∃i:Nat,v=((k+i:Nat):Int)/\i<u.length/\(u.take i).filter nonE=u.take i/\u.getD i []=[]:=by
 induction u with
 | nil=>intro k v h;exact .inl ⟨h.symm,rfl⟩
 | cons y r ih =>
  intro k v h
  rw[idxG]at h
  by_cases hy:([]:Str)=y
  ·rw[if_pos hy]at h
   exact .inr ⟨0,by simpa using h.symm,by simp,rfl,by simp[← hy]⟩
  ·rw[if_neg hy]at h
   have hn:nonE y=true:=by simp[nonE];exact fun e=>hy e.symm
   rcases ih h with⟨h1,h2⟩|⟨i,h1,h2,h3,h4⟩
   ·exact .inl ⟨h1,by rw[List.filter_cons,if_pos hn,h2]⟩
   ·exact .inr ⟨i+1,by omega,by simpa using h2,by rw[List.take_succ_cons,List.filter_cons,if_pos hn,h3],by simpa using h4⟩
abbrev tabDf:List (Nat×Contract):=[(75,dataC isER),(93,lentC idxER)]
theorem tabDf_ok:OkG Tryz.prog (tbl tabDf):=okG_cons isE_ok (okG_cons idxE_ok okG_nil)
theorem deleteFunc_ok:OkF Tryz.prog 73 (lentC delR):=by
 refine okF_lent Tryz.func73 rfl (by decide) ?_
 rintro xs obs v0 obs' ex mv0 ⟨u,hu,rfl,rfl,rfl,rfl,rfl,rfl⟩
 refine sem_of_awp (Γ:=tbl tabDf) tabDf_ok _ _ _ ?_
 simp only[go_sem,Tryz.ntmps73]
 refine call_lent idxER (mem_ix 1 rfl) [0] ⟨u,hu,rfl,rfl,rfl,rfl,rfl,rfl⟩ (by decide) (by simp) rfl rfl rfl (by simp only[go_sem,AV.unders,AV.under]) (by simp only[List.mem_singleton,forall_eq];trivial) (fun j hj=>by
    obtain rfl:j=0:=by simp at hj;exact hj
    rfl) ?_
 have fin:∀s (x y:List Str),x=y->s.getD 4 .top=.sl 0 0 x.length->post Tryz.prog Tryz.f73 (.sl 0 0 y.length) ([.row none (strsD y)]++[]) [] .ret ⟨s,[.row none (strsD x)],1,[]⟩:=fun s x y e h=>by
  subst e
  refine post_resO (.inl rfl) [.tmp 4] rfl (fun _ h=>h) ?_
  simp only[go_sem,h]
  exact Le.refl _
 rcases idxG_first (k:=0) (u:=u) rfl with⟨h1,h2⟩|⟨i0,h1,h2,h3,h4⟩
 ·simp only[go_sem,h1,eq_self,decide_true]
  exact fin _ _ _ h2.symm rfl
 ·rw[Nat.zero_add]at h1
  have hne:=eq_false (show ¬((i0:Nat):Int)=-1 by omega)
  simp only[go_sem,h1,hne,decide_false]
  refine⟨inR_i64.2 (by omega),?_⟩
  refine sem_loop (fun x:Nat×Nat×List Str=>⟨slotsOf 42 [(0,.sl 0 0 u.length),(1,.fn 75 []),(5,.dat (.int .i64 x.1)),(6,.dat (.int .i64 x.2.1))],[.row none (strsD x.2.2)],1,[]⟩)
   (fun x=>x.1<x.2.1/\x.2.1<=u.length/\x.2.2.length=u.length/\x.2.2.take x.1=(u.take x.2.1).filter nonE/\x.2.2.drop x.2.1=u.drop x.2.1) (fun x=>u.length - x.2.1) (i0,i0+1,u) ⟨by simp only;omega,by simp only;omega,rfl,?_,rfl⟩ ?_ ?_
  ·show u.take i0=(u.take (i0+1)).filter nonE
   rw[List.take_succ_eq_append_getElem h2,List.filter_append,h3]
   have:u[i0]=[]:=by rw[List.getD_eq_getElem?_getD,List.getElem?_eq_getElem h2]at h4;exact h4
   simp[this,nonE]
  ·exact le_slots' (by simp only[go_sem,Int.natCast_add,Int.cast_ofNat_Int])
  rintro ⟨i,j,R⟩ ⟨g1,g2,g3,g4,g5⟩
  simp only at g1 g2 g3 g4 g5
  refine sem_of_awp (Γ:=tbl tabDf) tabDf_ok _ _ _ ?_
  cases hd:u.drop j with
  | nil =>
   have:=end_of_drop hd g2
   have hk2:¬(j:Int)<u.length:=by omega
   simp only[go_sem,hk2,decide_false,Int.toNat_natCast]
   have e1:((i:Int) - 0).toNat=i:=by omega
   have e2:List.take i (strsD R)=strsD (u.filter nonE):=by
    have:u.take j=u:=by rw[this,List.take_length]
    rw[this]at g4
    rw[← g4];simp[strsD,List.map_take]
   have e3:i=(u.filter nonE).length:=by
    have:=congrArg List.length e2
    simp only[strsD,List.length_take,List.length_map]at this
    omega
   refine⟨by omega,Int.le_refl _,by omega,by omega,?_⟩
   rw[e1,e2]
   exact fin _ _ _ rfl (by rw[← e3];rfl)
  | cons c q =>
   have hlt:=lt_of_drop hd
   have hk2:(j:Int)<u.length:=by omega
   have hk0:(0:Int)<=j:=Int.natCast_nonneg j
   have hn:=nth_of_drop (f:=D.str) (g5.trans hd)
   simp only[go_sem,hk2,hk0,hn,hlt,g3,decide_true]
   refine call_data isER (mem_ix 0 rfl) _ _ rfl ⟨c,rfl,rfl⟩ (.inl rfl) ?_
   by_cases he:c=[]
   ·subst he
    simp only[go_sem,decide_true,Bool.not_true]
    have hd1:=drop_cons hd
    have hR1:R.drop (j+1)=u.drop (j+1):=by
     have:=congrArg (List.drop 1) g5
     rwa [List.drop_drop,List.drop_drop]at this
    refine⟨inR_i64.2 (by omega),(i,j+1,R),⟨by simp only;omega,by simp only;omega,g3,?_,hR1⟩,by simp only;omega,?_⟩
    ·simp only
     rw[take_of_drop hd,List.filter_append,g4];simp[nonE]
    ·exact le_slots' (by simp only[go_sem,Int.natCast_add,Int.cast_ofNat_Int])
   ·simp only[go_sem,he,decide_false,Bool.not_false]
    have hR1:R.drop (j+1)=u.drop (j+1):=by
     have:=congrArg (List.drop 1) g5
     rwa [List.drop_drop,List.drop_drop]at this
    have hset:(strsD R).set i (D.str c)=strsD (R.set i c):=by simp[strsD,List.map_set]
    refine⟨by omega,by omega,inR_i64.2 (by omega),inR_i64.2 (by omega),(i+1,j+1,R.set i c),⟨by simp only;omega,by simp only;omega,by simpa using g3,?_,?_⟩,by simp only;omega,?_⟩
    ·show (R.set i c).take (i+1)=(u.take (j+1)).filter nonE
     rw[take_of_drop hd,List.filter_append,← g4]
     have h5:[c].filter nonE=[c]:=by simp[nonE,he]
     rw[h5,List.take_succ_eq_append_getElem (by rw[List.length_set];omega),List.getElem_set_self,List.take_set_of_le (Nat.le_refl _)]
    ·show (R.set i c).drop (j+1)=u.drop (j+1)
     rw[List.drop_set_of_lt (by omega)];exact hR1
    ·rw[hset]
     exact le_slots' (by simp only[go_sem,Int.natCast_add,Int.cast_ofNat_Int])
theorem wordsW_filter(s:Str):wordsW s=(splitC 32 s).filter nonE:=rfl
def wdsR(ds:List D)(xs:List D):Prop:=∃s:Str,ds=[.str s]/\s.length<=1000000/\xs=strsD (wordsW s)
abbrev tabWd:List (Nat×Contract):=[(74,madeC (madeS none splR)),(73,lentC delR)]
theorem tabWd_ok:OkG Tryz.prog (tbl tabWd):=okG_cons split_ok (okG_cons deleteFunc_ok okG_nil)
theorem pwords_ok:OkF Tryz.prog 39 (madeC (madeS none wdsR)):=by
 refine okF_made Tryz.func39 rfl (by decide) ?_
 rintro ds v ob ⟨xs,⟨s,rfl,hmx,rfl⟩,rfl,rfl⟩
 refine sem_of_awp (Γ:=tbl tabWd) tabWd_ok _ _ _ ?_
 simp only[go_sem,Tryz.ntmps39]
 refine call_made (madeS none splR) (mem_ix 0 rfl) [.str s,.str [32]] _ _ rfl rfl ⟨_,⟨s,32,rfl,hmx,rfl⟩,rfl,rfl⟩ ?_
 simp only[go_sem,AV.shift,Obj.shift,AV.shifts,List.map_cons,List.map_nil,List.nil_append,List.length_nil,Nat.zero_add]
 have hl:(splitC 32 s).length<=2000000:=by have:=splitC_count 32 s;have:=List.count_le_length (a:=32) (l:=s);omega
 refine call_lent delR (mem_ix 1 rfl) [0] ⟨splitC 32 s,hl,rfl,rfl,rfl,rfl,rfl,rfl⟩ (by decide) (by simp) rfl rfl rfl (by simp only[go_sem,AV.unders,AV.under]) (by simp only[List.mem_singleton,forall_eq];trivial) (fun j hj=>by
    obtain rfl:j=0:=by simp at hj;exact hj
    rfl) ?_
 simp only[go_sem]
 exact post_own (.inl rfl) [2] rfl (by simp[wordsW_filter,strsD];rfl) (fun _ h=>h)
end Go.AM
namespace Go.AM
open Go Go.Proofs
def usD(u:US):D:=.agg [.int .i64 u.cls,.int .i64 u.line,.str u.name,.int .i64 u.kind,.int .i64 0,.int .i64 u.cnt,.bool u.deep]
def tabC(f:Nat->AV):Nat->List PCls->List AV
 | _,[]=>[]
 | i,c :: r=>.dat (.str c.name) :: .dat (.int .i64 c.workers) :: .dat (.bool c.server) :: f i :: tabC f (i+1) r
def recO(s:PSys)(us:List US):List Obj:=[.box [.sl 1 0 s.pools.length,.sl 2 0 s.locks.length,.sl 3 0 s.classes.length,.sl 4 0 us.length],.row (some 3) (s.pools.map poolD),.row none (strsD s.locks),.tab 4 (tabC (fun _=>.nils) 0 s.classes),.row (some 7) (us.map usD)]
theorem tabC_under:∀(l:List PCls) (i n:Nat),AV.unders n (tabC (fun _=>.nils) i l)
 | [],_,_=>by simp only[tabC,AV.unders]
 | c :: r,i,n=>by simp only[tabC,AV.unders,AV.under,true_and];exact tabC_under r (i+1) n
theorem recO_under(s:PSys)(us:List US):∀x∈recO s us,x.under 5:=by
 intro x hx
 simp only[recO,List.mem_cons,List.not_mem_nil,or_false]at hx
 rcases hx with rfl|rfl|rfl|rfl|rfl
 ·simp[Obj.under,AV.unders,AV.under]
 ·trivial
 ·trivial
 ·exact tabC_under _ _ _
 ·trivial
theorem kindP_S{w:Str}(h:11<=kindS w):kindP w=kindS w - 10/\1<=kindP w/\kindP w<=5:=by
 unfold kindS at h
 split at h
 ·omega
 split at h
 ·omega
 split at h
 ·omega
 split at h
 ·omega
 rename_i h1 h2 h3 h4
 unfold kindP kindS
 rw[if_neg h1,if_neg h2,if_neg h3,if_neg h4]
 (repeat' split) <;> first|omega|(rename_i h5 h6 h7 h8 h9;simp only[h5,h6,h7,h8,h9,if_false]at h;omega)
def useW(w:List Str)(line:Nat)(s:PSys)(us:List US):Int×List US :=
 if formW w (kindS (w.getD 0 []))=false∨s.classes.length=0 then (4,us) else
 (0,us++[⟨s.classes.length - 1,line,w.getD 1 [],kindS (w.getD 0 []) - 10,if kindS (w.getD 0 [])=11∨kindS (w.getD 0 [])=12 then numN (w.getD 2 []) else 0,decide (3<w.length)⟩])
def rstpR(xs:List AV)(obs:List Obj)(v0:AV)(obs' ex:List Obj)(mv0:List Nat):Prop:=∃(s:PSys) (us:List US) (w:List Str) (line:Nat),
 xs=[.ptr 0 0 0,.dat (.sl none (strsD w)),.dat (.int .i64 line)]/\obs=recO s us/\w≠[]/\w.length<=1000000/\(∀x∈w,x.length<=1000000)/\us.length<=100000/\s.classes.length<=100000/\11<=kindS (w.getD 0 [])/\line<=1000000 /\
 v0=.dat (.int .i64 (useW w line s us).1)/\obs'=recO s (useW w line s us).2/\ex=[]/\mv0=[4]
abbrev tabRs:List (Nat×Contract):=[(77,dataC kindPR),(31,dataC isNmR),(76,dataC numR)]
theorem tabRs_ok:OkG Tryz.prog (tbl tabRs):=okG_cons pkind_ok (okG_cons isName_ok (okG_cons pnumber_ok okG_nil))
theorem tabC_kills(o:Nat):∀(l:List PCls) (i:Nat),AV.kills o (tabC (fun _=>.nils) i l)=tabC (fun _=>.nils) i l
 | [],_=>rfl
 | c :: r,i=>by simp only[tabC,AV.kills,AV.kill];rw[tabC_kills o r (i+1)]
theorem rstep_fin{s:PSys}{us:List US}{U:Int×List US}{sl:List AV}{ex:List Obj}{d:D}(u:US)(h6:sl.getD 6 .top=.dat (.int .i64 0))(hU:U=(0,us++[u]))(hd:d=usD u) :
  post Tryz.prog Tryz.f41 (.dat (.int .i64 U.1)) (recO s U.2++[]) [4] .ret ⟨sl,[.box [.sl 1 0 s.pools.length,.sl 2 0 s.locks.length,.sl 3 0 s.classes.length,.sl 4 0 (us.length+1)],.row (some 3) (s.pools.map poolD),.row none (s.locks.map D.str),.tab 4 (AV.kills 4 (tabC (fun _=>.nils) 0 s.classes)),
   .row (some 7) (List.take us.length (us.map usD)++[d])]++ex,5,addMv 5 [] [4]⟩:=by
 subst hU;subst hd
 refine post_resO (mv':=[4]) (.inl rfl) [.tmp 6] rfl (fun _ h=>h) ?_
 simp only[go_sem,h6,List.append_nil]
 have e1:List.take us.length (us.map usD)++[usD u]=(us++[u]).map usD:=by rw[List.take_of_length_le (by simp)];simp
 have e2:us.length+1=(us++[u]).length:=by simp
 rw[tabC_kills,e1,e2]
 exact le_drop (own:=recO s (us++[u])) (Nat.le_refl 5) (by simp only[AV.unders,AV.under];exact⟨trivial,trivial⟩) (recO_under s (us++[u]))
theorem rstep41_ok:OkF Tryz.prog 41 (lentC rstpR):=by
 refine okF_lent Tryz.func41 rfl (by decide) ?_
 rintro xs obs v0 obs' ex mv0 ⟨s,us,w,line,rfl,rfl,hw0,hwl,hwx,hul,hcl,hk,hln,rfl,rfl,rfl,rfl⟩
 obtain⟨hkp,hk1,hk5⟩:=kindP_S hk
 generalize hu:useW w line s us=U
 have hl0:0<w.length:=by cases w with|nil=>exact absurd rfl hw0|cons a r=>simp
 have fin:∀sl own (e:Int),sl.getD 6 .top=.dat (.int .i64 e)->U=(e,us)->post Tryz.prog Tryz.f41 (.dat (.int .i64 U.1)) (recO s U.2++[]) [4] .ret ⟨sl,recO s us++own,5,[]⟩:=fun sl own e h hU=>by
  subst hU
  refine post_resO (mv':=[]) (.inl rfl) [.tmp 6] rfl (by simp) ?_
  simp only[go_sem,h,List.append_nil]
  exact le_drop (own:=recO s us) (Nat.le_refl 5) (by simp only[AV.unders,AV.under];exact⟨trivial,trivial⟩) (recO_under s us)
 have bad:formW w (kindS (w.getD 0 []))=false->U=(4,us):=fun h=>by rw[← hu];unfold useW;rw[if_pos (.inl h)]
 have bt1:(false == true)=false:=rfl
 have bt2:(false == false)=true:=rfl
 have bt3:(true == true)=true:=rfl
 have bt4:(true == false)=false:=rfl
 refine sem_of_awp (Γ:=tbl tabRs) tabRs_ok _ _ _ ?_
 have n0:D.nth (strsD w) 0=.str (w.getD 0 []):=D.nth_map hl0
 have z0:(0:Int)<w.length:=by omega
 simp only[go_sem,Tryz.ntmps41,recO,n0,z0]
 refine call_data kindPR (mem_ix 0 rfl) _ _ rfl ⟨w.getD 0 [],rfl,rfl⟩ (.inl rfl) ?_
 rw[hkp]
 have hK:kindS (w.getD 0 [])=11∨kindS (w.getD 0 [])=12∨kindS (w.getD 0 [])=13∨kindS (w.getD 0 [])=14∨kindS (w.getD 0 [])=15:=by omega
 rcases hK with hK|hK|hK|hK|hK
 ·rw[hK]
  simp only[go_sem]
  by_cases n4:w.length=4
  ·obtain⟨a,b,c,d,rfl⟩:∃a b c d,w=[a,b,c,d]:=by
    match w,n4 with
    | [a,b,c,d],_=>exact⟨a,b,c,d,rfl⟩
   by_cases hd:d=[100,101,101,112]
   ·have hd':=eq_true hd
    have n3d:D.nth [D.str a,D.str b,D.str c,D.str d] 3=.str d:=rfl
    simp only[go_sem,n3d,hd',List.map_cons,List.map_nil,List.length_cons,List.length_nil,decide_true,decide_false,bt1,bt2,bt3,bt4,Bool.not_true,Bool.not_false,strsD]
    refine call_data isNmR (mem_ix 1 rfl) [.str b] _ rfl ⟨b,rfl,rfl⟩ (.inl rfl) ?_
    by_cases hnm:isNm b=true
    ·simp only[go_sem,hnm,Bool.not_true]
     refine call_data numR (mem_ix 2 rfl) [.str c] _ rfl ⟨c,rfl,hwx c (by simp),rfl⟩ (.inl rfl) ?_
     by_cases hc:numN c<0
     ·simp only[go_sem,hc,decide_true]
      exact fin _ _ _ rfl (bad (by rw[hK];simp[formW,wantK,deepW,hd,show ¬0<=numN c by omega]))
     ·have hc':=eq_false hc
      simp only[go_sem,hc',decide_false]
      have hf:formW [a,b,c,d] 11=true:=by simp[formW,wantK,deepW,hnm,hd,show 0<=numN c by omega]
      by_cases hc0:s.classes.length=0
      ·have hc0':((s.classes.length:Nat):Int)=0:=by omega
       simp only[go_sem,hc0',decide_true]
       exact fin _ _ _ rfl (by rw[← hu];unfold useW;rw[if_pos (.inr hc0)])
      ·have hc0':=eq_false (show ¬((s.classes.length:Nat):Int)=0 by omega)
       simp only[go_sem,hc0',decide_false]
       refine sem_drawU [(22,[0])] [(19,[4]),(0,[4]),(5,[4]),(6,[4]),(7,[4]),(8,[4])] (pf:=[]) (mf:=[]) mixed tabRs_ok pureNo growNo noMk (ones [0,1,2,3,4,5,6,7,8,9,10,11,12,13,14,15,16,17,18,19,20,21,22]) (by kernel_rfl) ?_
       have nb:D.nth [D.str a,D.str b,D.str c] 1=.str b:=rfl
       simp only[go_sem,nb]
       refine⟨inR_i64.2 (by omega),by omega,by omega,?_⟩
       refine rstep_fin ⟨s.classes.length - 1,line,b,1,numN c,true⟩ rfl ?_ ?_
       ·rw[← hu];unfold useW;rw[if_neg (by rw[hK,hf];simp[hc0]),hK];simp
       ·have:((s.classes.length - 1:Nat):Int)=(s.classes.length:Int) - 1:=by omega
        simp only[usD,this];rfl
    ·have hnm':isNm b=false:=by simpa using hnm
     simp only[go_sem,hnm',Bool.not_false]
     exact fin _ _ _ rfl (bad (by rw[hK];simp[formW,hnm']))
   ·have hd':=eq_false hd
    have n3d:D.nth [D.str a,D.str b,D.str c,D.str d] 3=.str d:=rfl
    simp only[go_sem,n3d,hd',List.map_cons,List.map_nil,List.length_cons,List.length_nil,decide_true,decide_false,bt1,bt2,bt3,bt4,Bool.not_true,Bool.not_false,strsD]
    exact fin _ _ _ rfl (bad (by rw[hK];simp[formW,wantK,deepW,hd]))
  have n4':=eq_false (show ¬(w.length:Int)=4 by omega)
  by_cases n3:w.length=3
  ·obtain⟨a,b,c,rfl⟩:∃a b c,w=[a,b,c]:=by
    match w,n3 with
    | [a,b,c],_=>exact⟨a,b,c,rfl⟩
   simp only[go_sem,List.map_cons,List.map_nil,List.length_cons,List.length_nil,decide_true,decide_false,bt1,bt2,bt3,bt4,Bool.not_true,Bool.not_false,strsD]
   refine call_data isNmR (mem_ix 1 rfl) [.str b] _ rfl ⟨b,rfl,rfl⟩ (.inl rfl) ?_
   by_cases hnm:isNm b=true
   ·simp only[go_sem,hnm,Bool.not_true]
    refine call_data numR (mem_ix 2 rfl) [.str c] _ rfl ⟨c,rfl,hwx c (by simp),rfl⟩ (.inl rfl) ?_
    by_cases hc:numN c<0
    ·simp only[go_sem,hc,decide_true]
     exact fin _ _ _ rfl (bad (by rw[hK];simp[formW,wantK,deepW,show ¬0<=numN c by omega]))
    ·have hc':=eq_false hc
     simp only[go_sem,hc',decide_false]
     have hf:formW [a,b,c] 11=true:=by simp[formW,wantK,deepW,hnm,show 0<=numN c by omega]
     by_cases hc0:s.classes.length=0
     ·have hc0':((s.classes.length:Nat):Int)=0:=by omega
      simp only[go_sem,hc0',decide_true]
      exact fin _ _ _ rfl (by rw[← hu];unfold useW;rw[if_pos (.inr hc0)])
     ·have hc0':=eq_false (show ¬((s.classes.length:Nat):Int)=0 by omega)
      simp only[go_sem,hc0',decide_false]
      refine sem_drawU [(22,[0])] [(19,[4]),(0,[4]),(5,[4]),(6,[4]),(7,[4]),(8,[4])] (pf:=[]) (mf:=[]) mixed tabRs_ok pureNo growNo noMk (ones [0,1,2,3,4,5,6,7,8,9,10,11,12,13,14,15,16,17,18,19,20,21,22]) (by kernel_rfl) ?_
      have nb:D.nth [D.str a,D.str b,D.str c] 1=.str b:=rfl
      simp only[go_sem,nb]
      refine⟨inR_i64.2 (by omega),by omega,by omega,?_⟩
      refine rstep_fin ⟨s.classes.length - 1,line,b,1,numN c,false⟩ rfl ?_ ?_
      ·rw[← hu];unfold useW;rw[if_neg (by rw[hK,hf];simp[hc0]),hK];simp
      ·have:((s.classes.length - 1:Nat):Int)=(s.classes.length:Int) - 1:=by omega
       simp only[usD,this];rfl
   ·have hnm':isNm b=false:=by simpa using hnm
    simp only[go_sem,hnm',Bool.not_false]
    exact fin _ _ _ rfl (bad (by rw[hK];simp[formW,hnm']))
  ·have n3':=eq_false (show ¬(w.length:Int)=3 by omega)
   simp only[go_sem,n4',n3',bt4,decide_true,decide_false,Bool.not_false,Bool.not_true]
   exact fin _ _ _ rfl (bad (by rw[hK];simp[formW,wantK,deepW,n3,n4]))
 ·rw[hK]
  simp only[go_sem]
  by_cases n3:w.length=3
  ·obtain⟨a,b,c,rfl⟩:∃a b c,w=[a,b,c]:=by
    match w,n3 with
    | [a,b,c],_=>exact⟨a,b,c,rfl⟩
   simp only[go_sem,List.map_cons,List.map_nil,List.length_cons,List.length_nil,decide_true,decide_false,bt1,bt2,bt3,bt4,Bool.not_true,Bool.not_false,strsD]
   refine call_data isNmR (mem_ix 1 rfl) [.str b] _ rfl ⟨b,rfl,rfl⟩ (.inl rfl) ?_
   by_cases hnm:isNm b=true
   ·simp only[go_sem,hnm,Bool.not_true]
    refine call_data numR (mem_ix 2 rfl) [.str c] _ rfl ⟨c,rfl,hwx c (by simp),rfl⟩ (.inl rfl) ?_
    by_cases hc:numN c<0
    ·simp only[go_sem,hc,decide_true]
     exact fin _ _ _ rfl (bad (by rw[hK];simp[formW,wantK,deepW,show ¬0<=numN c by omega]))
    ·have hc':=eq_false hc
     simp only[go_sem,hc',decide_false]
     have hf:formW [a,b,c] 12=true:=by simp[formW,wantK,deepW,hnm,show 0<=numN c by omega]
     by_cases hc0:s.classes.length=0
     ·have hc0':((s.classes.length:Nat):Int)=0:=by omega
      simp only[go_sem,hc0',decide_true]
      exact fin _ _ _ rfl (by rw[← hu];unfold useW;rw[if_pos (.inr hc0)])
     ·have hc0':=eq_false (show ¬((s.classes.length:Nat):Int)=0 by omega)
      simp only[go_sem,hc0',decide_false]
      refine sem_drawU [(22,[0])] [(19,[4]),(0,[4]),(5,[4]),(6,[4]),(7,[4]),(8,[4])] (pf:=[]) (mf:=[]) mixed tabRs_ok pureNo growNo noMk (ones [0,1,2,3,4,5,6,7,8,9,10,11,12,13,14,15,16,17,18,19,20,21,22]) (by kernel_rfl) ?_
      have nb:D.nth [D.str a,D.str b,D.str c] 1=.str b:=rfl
      simp only[go_sem,nb]
      refine⟨inR_i64.2 (by omega),by omega,by omega,?_⟩
      refine rstep_fin ⟨s.classes.length - 1,line,b,2,numN c,false⟩ rfl ?_ ?_
      ·rw[← hu];unfold useW;rw[if_neg (by rw[hK,hf];simp[hc0]),hK];simp
      ·have:((s.classes.length - 1:Nat):Int)=(s.classes.length:Int) - 1:=by omega
       simp only[usD,this];rfl
   ·have hnm':isNm b=false:=by simpa using hnm
    simp only[go_sem,hnm',Bool.not_false]
    exact fin _ _ _ rfl (bad (by rw[hK];simp[formW,hnm']))
  ·have n3':=eq_false (show ¬(w.length:Int)=3 by omega)
   simp only[go_sem,n3',bt4,decide_true,decide_false,Bool.not_false,Bool.not_true]
   exact fin _ _ _ rfl (bad (by rw[hK];simp[formW,wantK,n3]))
 ·rw[hK]
  simp only[go_sem]
  by_cases n2:w.length=2
  ·obtain⟨a,b,rfl⟩:∃a b,w=[a,b]:=by
    match w,n2 with
    | [a,b],_=>exact⟨a,b,rfl⟩
   simp only[go_sem,List.map_cons,List.map_nil,List.length_cons,List.length_nil,decide_true,decide_false,bt1,bt2,bt3,bt4,Bool.not_true,Bool.not_false,strsD]
   refine call_data isNmR (mem_ix 1 rfl) [.str b] _ rfl ⟨b,rfl,rfl⟩ (.inl rfl) ?_
   by_cases hnm:isNm b=true
   ·simp only[go_sem,hnm,Bool.not_true]
    have hf:formW [a,b] 13=true:=by simp[formW,wantK,deepW,hnm]
    by_cases hc0:s.classes.length=0
    ·have hc0':((s.classes.length:Nat):Int)=0:=by omega
     simp only[go_sem,hc0',decide_true]
     exact fin _ _ _ rfl (by rw[← hu];unfold useW;rw[if_pos (.inr hc0)])
    ·have hc0':=eq_false (show ¬((s.classes.length:Nat):Int)=0 by omega)
     simp only[go_sem,hc0',decide_false]
     refine sem_drawU [(22,[0])] [(19,[4]),(0,[4]),(5,[4]),(6,[4]),(7,[4]),(8,[4])] (pf:=[]) (mf:=[]) mixed tabRs_ok pureNo growNo noMk (ones [0,1,2,3,4,5,6,7,8,9,10,11,12,13,14,15,16,17,18,19,20,21,22]) (by kernel_rfl) ?_
     have nb:D.nth [D.str a,D.str b] 1=.str b:=rfl
     simp only[go_sem,nb]
     refine⟨inR_i64.2 (by omega),by omega,by omega,?_⟩
     refine rstep_fin ⟨s.classes.length - 1,line,b,3,0,false⟩ rfl ?_ ?_
     ·rw[← hu];unfold useW;rw[if_neg (by rw[hK,hf];simp[hc0]),hK];simp
     ·have:((s.classes.length - 1:Nat):Int)=(s.classes.length:Int) - 1:=by omega
      simp only[usD,this];rfl
   ·have hnm':isNm b=false:=by simpa using hnm
    simp only[go_sem,hnm',Bool.not_false]
    exact fin _ _ _ rfl (bad (by rw[hK];simp[formW,hnm']))
  ·have n2':=eq_false (show ¬(w.length:Int)=2 by omega)
   have hb:=bad (by rw[hK];simp[formW,wantK,n2])
   by_cases n3:w.length=3
   ·have n3':=eq_true (show (w.length:Int)=3 by omega)
    simp only[go_sem,n2',n3',bt1,decide_true,decide_false,Bool.not_false,Bool.not_true]
    exact fin _ _ _ rfl hb
   have n3':=eq_false (show ¬(w.length:Int)=3 by omega)
   simp only[go_sem,n2',n3',bt2,decide_true,decide_false,Bool.not_false,Bool.not_true]
   exact fin _ _ _ rfl hb
 ·rw[hK]
  simp only[go_sem]
  by_cases n2:w.length=2
  ·obtain⟨a,b,rfl⟩:∃a b,w=[a,b]:=by
    match w,n2 with
    | [a,b],_=>exact⟨a,b,rfl⟩
   simp only[go_sem,List.map_cons,List.map_nil,List.length_cons,List.length_nil,decide_true,decide_false,bt1,bt2,bt3,bt4,Bool.not_true,Bool.not_false,strsD]
   refine call_data isNmR (mem_ix 1 rfl) [.str b] _ rfl ⟨b,rfl,rfl⟩ (.inl rfl) ?_
   by_cases hnm:isNm b=true
   ·simp only[go_sem,hnm,Bool.not_true]
    have hf:formW [a,b] 14=true:=by simp[formW,wantK,deepW,hnm]
    by_cases hc0:s.classes.length=0
    ·have hc0':((s.classes.length:Nat):Int)=0:=by omega
     simp only[go_sem,hc0',decide_true]
     exact fin _ _ _ rfl (by rw[← hu];unfold useW;rw[if_pos (.inr hc0)])
    ·have hc0':=eq_false (show ¬((s.classes.length:Nat):Int)=0 by omega)
     simp only[go_sem,hc0',decide_false]
     refine sem_drawU [(22,[0])] [(19,[4]),(0,[4]),(5,[4]),(6,[4]),(7,[4]),(8,[4])] (pf:=[]) (mf:=[]) mixed tabRs_ok pureNo growNo noMk (ones [0,1,2,3,4,5,6,7,8,9,10,11,12,13,14,15,16,17,18,19,20,21,22]) (by kernel_rfl) ?_
     have nb:D.nth [D.str a,D.str b] 1=.str b:=rfl
     simp only[go_sem,nb]
     refine⟨inR_i64.2 (by omega),by omega,by omega,?_⟩
     refine rstep_fin ⟨s.classes.length - 1,line,b,4,0,false⟩ rfl ?_ ?_
     ·rw[← hu];unfold useW;rw[if_neg (by rw[hK,hf];simp[hc0]),hK];simp
     ·have:((s.classes.length - 1:Nat):Int)=(s.classes.length:Int) - 1:=by omega
      simp only[usD,this];rfl
   ·have hnm':isNm b=false:=by simpa using hnm
    simp only[go_sem,hnm',Bool.not_false]
    exact fin _ _ _ rfl (bad (by rw[hK];simp[formW,hnm']))
  ·have n2':=eq_false (show ¬(w.length:Int)=2 by omega)
   have hb:=bad (by rw[hK];simp[formW,wantK,n2])
   by_cases n3:w.length=3
   ·have n3':=eq_true (show (w.length:Int)=3 by omega)
    simp only[go_sem,n2',n3',bt1,decide_true,decide_false,Bool.not_false,Bool.not_true]
    exact fin _ _ _ rfl hb
   have n3':=eq_false (show ¬(w.length:Int)=3 by omega)
   simp only[go_sem,n2',n3',bt2,decide_true,decide_false,Bool.not_false,Bool.not_true]
   exact fin _ _ _ rfl hb
 ·rw[hK]
  simp only[go_sem]
  by_cases n2:w.length=2
  ·obtain⟨a,b,rfl⟩:∃a b,w=[a,b]:=by
    match w,n2 with
    | [a,b],_=>exact⟨a,b,rfl⟩
   simp only[go_sem,List.map_cons,List.map_nil,List.length_cons,List.length_nil,decide_true,decide_false,bt1,bt2,bt3,bt4,Bool.not_true,Bool.not_false,strsD]
   refine call_data isNmR (mem_ix 1 rfl) [.str b] _ rfl ⟨b,rfl,rfl⟩ (.inl rfl) ?_
   by_cases hnm:isNm b=true
   ·simp only[go_sem,hnm,Bool.not_true]
    have hf:formW [a,b] 15=true:=by simp[formW,wantK,deepW,hnm]
    by_cases hc0:s.classes.length=0
    ·have hc0':((s.classes.length:Nat):Int)=0:=by omega
     simp only[go_sem,hc0',decide_true]
     exact fin _ _ _ rfl (by rw[← hu];unfold useW;rw[if_pos (.inr hc0)])
    ·have hc0':=eq_false (show ¬((s.classes.length:Nat):Int)=0 by omega)
     simp only[go_sem,hc0',decide_false]
     refine sem_drawU [(22,[0])] [(19,[4]),(0,[4]),(5,[4]),(6,[4]),(7,[4]),(8,[4])] (pf:=[]) (mf:=[]) mixed tabRs_ok pureNo growNo noMk (ones [0,1,2,3,4,5,6,7,8,9,10,11,12,13,14,15,16,17,18,19,20,21,22]) (by kernel_rfl) ?_
     have nb:D.nth [D.str a,D.str b] 1=.str b:=rfl
     simp only[go_sem,nb]
     refine⟨inR_i64.2 (by omega),by omega,by omega,?_⟩
     refine rstep_fin ⟨s.classes.length - 1,line,b,5,0,false⟩ rfl ?_ ?_
     ·rw[← hu];unfold useW;rw[if_neg (by rw[hK,hf];simp[hc0]),hK];simp
     ·have:((s.classes.length - 1:Nat):Int)=(s.classes.length:Int) - 1:=by omega
      simp only[usD,this];rfl
   ·have hnm':isNm b=false:=by simpa using hnm
    simp only[go_sem,hnm',Bool.not_false]
    exact fin _ _ _ rfl (bad (by rw[hK];simp[formW,hnm']))
  ·have n2':=eq_false (show ¬(w.length:Int)=2 by omega)
   have hb:=bad (by rw[hK];simp[formW,wantK,n2])
   by_cases n3:w.length=3
   ·have n3':=eq_true (show (w.length:Int)=3 by omega)
    simp only[go_sem,n2',n3',bt1,decide_true,decide_false,Bool.not_false,Bool.not_true]
    exact fin _ _ _ rfl hb
   have n3':=eq_false (show ¬(w.length:Int)=3 by omega)
   simp only[go_sem,n2',n3',bt2,decide_true,decide_false,Bool.not_false,Bool.not_true]
   exact fin _ _ _ rfl hb
end Go.AM

