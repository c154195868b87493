/- Own work over the model of the kit. -/
import Derived.Test.YtddnngfkgpbemaaE13
import Derived.Test.YtddnngfkgpbemaaE9
import Derived.Test.YtddnngfkgpbemaaE12
import Derived.Shelf.SlSortCmp.NoneTotal
import Derived.Test.YtddnngfkgpbemaaProg
set_option linter.unnecessarySimpa false
set_option linter.unusedSimpArgs false
set_option linter.unusedVariables false
set_option maxHeartbeats 4000000
set_option maxRecDepth 100000
namespace Go.AM
open Go Go.Proofs
theorem mixed:Try.prog.follows .mixedOrders=true:=by kernel_rfl
theorem noMk{Γ:Nat->Contract}:MakeFns Γ []:=fun g _ _ _ _ _ h=>by rcases h with h|h <;> cases h
theorem pureNo{Γ:Nat->Contract}:PureFns Γ []:=fun g _ _ _ _ _ h=>by cases h
theorem made_of{l:List (Nat×Contract)}{mf:List Nat}(h:∀g C,(g,C)∈l->(∃R,C=dataC R)∨∃R,C=madeC R):MakeFns (tbl l) mf:=by
 rintro g args own v own' mv hg ⟨C,hm,hC⟩
 rcases h g C hm with⟨R,rfl⟩|⟨R,rfl⟩
 ·obtain⟨_,_,_,h1,h2,_⟩:=hC
  exact⟨⟨[],by rw[h1,List.append_nil]⟩,h2⟩
 ·obtain⟨_,_,ob,_,_,_,_,h1,h2⟩:=hC
  exact⟨⟨_,h1⟩,h2⟩
abbrev Str:=List UInt8
structure PPool where
 name:Str
 size:Int
 res:Int
deriving Inhabited,DecidableEq
structure PStep where
 kind:Int
 on:Int
 cnt:Int
 deep:Bool
deriving Inhabited,DecidableEq
structure PCls where
 name:Str
 workers:Int
 server:Bool
 steps:List PStep
deriving Inhabited,DecidableEq
structure PSys where
 pools:List PPool
 locks:List Str
 classes:List PCls
deriving Inhabited,DecidableEq
abbrev intsD(u:List Int):List D:=u.map (.int .i64)
abbrev boolsD(b:List Bool):List D:=b.map .bool
def poolD(p:PPool):D:=.agg [.str p.name,.int .i64 p.size,.int .i64 p.res]
def stepD(s:PStep):D:=.agg [.int .i64 s.kind,.int .i64 s.on,.int .i64 s.cnt,.bool s.deep]
def stepsD(l:List PStep):D:=.sl (some 4) (l.map stepD)
def clsD(c:PCls):D:=.agg [.str c.name,.int .i64 c.workers,.bool c.server,stepsD c.steps]
def sysD(s:PSys):D:=.agg [.sl (some 3) (s.pools.map poolD),.sl none (s.locks.map .str),.sl (some 4) (s.classes.map clsD)]
def PStep.ok(s:PStep):Prop:=inR .i64 s.kind/\inR .i64 s.on/\inR .i64 s.cnt
def PPool.ok(p:PPool):Prop:=inR .i64 p.size/\inR .i64 p.res
def PCls.ok(c:PCls):Prop:=inR .i64 c.workers/\(∀s∈c.steps,s.ok)/\c.steps.length<4611686018427387904
structure PSys.ok (s:PSys):Prop where
 pools:∀p∈s.pools,p.ok
 classes:∀c∈s.classes,c.ok
 np:s.pools.length<4611686018427387904
 nl:s.locks.length<4611686018427387904
 nc:s.classes.length<4611686018427387904
end Go.AM
namespace Go.AM
open Go Go.Proofs Go.Sort
def ispR(ds:List D)(v:AV):Prop:=∃a b:Int,ds=[.int .i64 a,.int .i64 b]/\0<=a/\a<4/\0<=b/\b<16/\v=.dat (.bool true)
theorem isPage_ok:OkF Try.prog 26 (dataC ispR):=by
 refine okF_data Try.func26 rfl (by decide) ?_
 rintro ds v ⟨a,b,rfl,h1,h2,h3,h4,rfl⟩
 refine sem_of_awp (Γ:=tbl []) okG_nil _ _ _ ?_
 simp only[go_sem,Try.ntmps26,h1,h2,h3,h4,decide_true]
 exact post_data (.inl rfl) [4] rfl trivial rfl
def atR(ds:List D)(v:AV):Prop:=∃x:Elm 3,ds=[x.d]/\v=.dat (plD x)
theorem at_ok:OkF Try.prog 17 (dataC atR):=by
 refine okF_data Try.func17 rfl (by decide) ?_
 rintro ds v ⟨x,rfl,rfl⟩
 rw[Elm.d3]
 unfold plD
 generalize x.1.getD 0 0=a
 generalize x.1.getD 1 0=b
 generalize x.1.getD 2 0=c
 refine sem_of_awp (Γ:=tbl []) okG_nil _ _ _ ?_
 simp only[go_sem,Try.ntmps17]
 refine post_res (.inl rfl) [.cell 2 55] rfl ?_
 simp only[go_sem]
 exact le_fin (by simp only[go_sem]) (by simp only[go_sem])
def chkWR(ds:List D)(v:AV):Prop:=∃L:List (Elm 3),L.length<=1000000/\PgOk L/\ds=[.sl (some 3) (L.map Elm.d)]/\v=.dat (.int .i64 0)
abbrev tabCW:List (Nat×Contract):=[(26,dataC ispR),(17,dataC atR)]
theorem tabCW_ok:OkG Try.prog (tbl tabCW):=okG_cons isPage_ok (okG_cons at_ok okG_nil)
theorem wide0:wideKey Try.prog 55 (.agg [.int .i64 0,.int .i64 0])=true:=by kernel_rfl
theorem seenM_len(L:List (Elm 3)):(seenM L).length=L.length:=by unfold seenM;rw[List.length_map]
theorem wcheck_ok:OkF Try.prog 12 (dataC chkWR):=by
 refine okF_data Try.func12 rfl (by decide) ?_
 rintro ds v ⟨L,hL,⟨hr,hn⟩,rfl,rfl⟩
 refine sem_of_awp (Γ:=tbl tabCW) tabCW_ok _ _ _ ?_
 have hl:(L.map Elm.d).length=L.length:=List.length_map _
 simp only[go_sem,Try.ntmps12,hl]
 refine sem_loop (fun k:Nat=>⟨slotsOf 33 [(0,.dat (.sl (some 3) (L.map Elm.d))),(2,.dat (.int .i64 0)),(3,.map 0),(7,.dat (.sl (some 3) (L.map Elm.d))),(8,.dat (.int .i64 L.length)),(9,.dat (.int .i64 k))],
  [.map (seenM (L.take k))],0,[]⟩) (fun k=>k<=L.length) (fun k=>L.length - k) 0 (Nat.zero_le _) ?_ ?_
 ·exact le_slots' (by simp only[go_sem,Int.natCast_zero])
 intro k hk
 refine sem_of_awp (Γ:=tbl tabCW) tabCW_ok _ _ _ ?_
 rcases Nat.lt_or_ge k L.length with hlt|hge
 ·have k1:(k:Int)<L.length:=by omega
  have k2:(0:Int)<=k:=by omega
  obtain⟨r1,r2,r3,r4,r5⟩:=hr L[k] (List.getElem_mem hlt)
  have hnth:=nth_elm hlt
  have hsn:=seenM_snoc hn hlt
  have r6:¬L[k].1.getD 2 0<0:=by omega
  have hkeys:((seenM (L.take k)).all fun x=>D.isKeyP Try.prog 55 T55.desc x.1)=true:=seenM_keys wide0
  have hkey:D.isKeyP Try.prog 55 T55.desc (plD L[k])=true:=isKeyP_of wide0 ⟨rfl,L[k].inR 0,rfl,L[k].inR 1,trivial⟩
  simp only[go_sem,k1,k2,hl,hnth,Int.toNat_natCast,Elm.d3,decide_true]
  refine call_data ispR (by simp) _ _ rfl ⟨_,_,rfl,r1,r2,r3,r4,rfl⟩ (.inl rfl) ?_
  simp only[go_sem,r6,decide_false]
  refine call_data atR (by simp) _ _ rfl ⟨L[k],by rw[Elm.d3],rfl⟩ (.inl rfl) ?_
  simp only[go_sem,hkeys,hkey,hsn]
  refine⟨inR_i64.2 (by omega),k+1,by omega,by omega,?_⟩
  refine le_end (own:=[_]) (ex:=[_]) (Nat.zero_le _) ?_ ?_ ?_
  ·simp only[go_sem,Int.natCast_add,Int.cast_ofNat_Int]
  ·simp only[go_sem]
  ·simp only[go_sem,Obj.under,AV.unders,AV.under]
 ·obtain rfl:k=L.length:=by omega
  have k1:¬(L.length:Int)<L.length:=by omega
  simp only[go_sem,k1,hl,List.take_length,seenM_len,decide_true,decide_false]
  exact⟨inR_i64.2 (by omega),post_data (.inl rfl) [2] rfl trivial rfl⟩
end Go.AM
namespace Go.AM
open Go Go.Proofs Go.Sort
def cmp3(a b:Int):Int:=if a<b then -1 else if b<a then 1 else 0
def nanR(ds:List D)(v:AV):Prop:=∃a:Int,ds=[.int .i64 a]/\v=.dat (.bool false)
theorem isNaN_ok:OkF Try.prog 30 (dataC nanR):=by
 refine okF_data Try.func30 rfl (by decide) ?_
 rintro ds v ⟨a,rfl,rfl⟩
 refine sem_of_awp (Γ:=tbl []) okG_nil _ _ _ ?_
 simp only[go_sem,Try.ntmps30,eq_self,decide_true]
 exact post_data (.inl rfl) [2] rfl trivial rfl
def cmpR3(ds:List D)(v:AV):Prop:=∃a b:Int,ds=[.int .i64 a,.int .i64 b]/\v=.dat (.int .i64 (cmp3 a b))
abbrev tabNaN:List (Nat×Contract):=[(30,dataC nanR)]
theorem tabNaN_ok:OkG Try.prog (tbl tabNaN):=okG_cons isNaN_ok okG_nil
theorem compare_ok:OkF Try.prog 21 (dataC cmpR3):=by
 refine okF_data Try.func21 rfl (by decide) ?_
 rintro ds v ⟨a,b,rfl,rfl⟩
 refine sem_of_awp (Γ:=tbl tabNaN) tabNaN_ok _ _ _ ?_
 simp only[go_sem,Try.ntmps21]
 refine call_data nanR (by simp) _ _ rfl ⟨a,rfl,rfl⟩ (.inl rfl) ?_
 simp only[go_sem]
 refine call_data nanR (by simp) _ _ rfl ⟨b,rfl,rfl⟩ (.inl rfl) ?_
 by_cases h1:a<b
 ·have:cmp3 a b=-1:=by unfold cmp3;rw[if_pos h1]
  simp only[go_sem,h1,decide_true,this]
  exact post_data (.inl rfl) [4] rfl trivial rfl
 by_cases h2:b<a
 ·have:cmp3 a b=1:=by unfold cmp3;rw[if_neg h1,if_pos h2]
  simp only[go_sem,h1,h2,decide_true,decide_false,this]
  exact post_data (.inl rfl) [4] rfl trivial rfl
 ·have:cmp3 a b=0:=by unfold cmp3;rw[if_neg h1,if_neg h2]
  simp only[go_sem,h1,h2,decide_true,decide_false,this]
  exact post_data (.inl rfl) [4] rfl trivial rfl
def orV:List Int->Int
 | []=>0
 | a :: r=>if a=0 then orV r else a
def orR(ds:List D)(v:AV):Prop:=∃l:List Int,l.length<=1000/\ds=[.sl none (l.map (D.int .i64))]/\v=.dat (.int .i64 (orV l))
theorem or_ok:OkF Try.prog 20 (dataC orR):=by
 refine okF_data Try.func20 rfl (by decide) ?_
 rintro ds v ⟨l,hl,rfl,rfl⟩
 generalize hV:orV l=V
 have hll:(l.map (D.int .i64)).length=l.length:=List.length_map _
 refine sem_of_awp (Γ:=tbl []) okG_nil _ _ _ ?_
 simp only[go_sem,Try.ntmps20,hll]
 refine sem_loop (fun k:Nat=>⟨slotsOf 18 [(0,.dat (.sl none (l.map (D.int .i64)))),(2,.dat (.int .i64 0)),(3,.dat (.int .i64 0)),(6,.dat (.sl none (l.map (D.int .i64)))),(7,.dat (.int .i64 l.length)),(8,.dat (.int .i64 k))],
  [],0,[]⟩) (fun k=>k<=l.length/\orV (l.drop k)=V) (fun k=>l.length - k) 0 ⟨Nat.zero_le _,hV⟩ ?_ ?_
 ·exact le_slots' (by simp only[go_sem,Int.natCast_zero])
 rintro k ⟨hk,hI⟩
 refine sem_of_awp (Γ:=tbl []) okG_nil _ _ _ ?_
 cases hd:l.drop k with
 | nil =>
  have:=end_of_drop hd hk
  have hk2:¬(k:Int)<l.length:=by omega
  rw[hd]at hI
  have hI0:V=0:=hI.symm
  simp only[go_sem,hk2,hll,hI0]
  exact post_data (.inl rfl) [2] rfl trivial rfl
 | cons c q =>
  have hlt:=lt_of_drop hd
  have hk2:(k:Int)<l.length:=by omega
  have hk0:(0:Int)<=k:=Int.natCast_nonneg k
  have hn:=nth_of_drop (f:=D.int .i64) hd
  rw[hd,orV]at hI
  by_cases he:c=0
  ·rw[if_pos he]at hI
   simp only[go_sem,hk2,hk0,hll,hn,he,eq_self,decide_true]
   refine⟨inR_i64.2 (by omega),k+1,⟨by omega,by rw[drop_cons hd];exact hI⟩,by omega,?_⟩
   exact le_slots' (by simp only[go_sem,Int.natCast_add,Int.cast_ofNat_Int])
  ·rw[if_neg he]at hI
   subst hI
   simp only[go_sem,hk2,hk0,hll,hn,he,decide_false]
   exact post_data (.inl rfl) [2] rfl trivial rfl
theorem orV_cons(a b:Int)(r:List Int):orV (cmp3 a b :: r)=if a<b then -1 else if b<a then 1 else orV r:=by
 show (if cmp3 a b=0 then orV r else cmp3 a b)=_
 unfold cmp3
 by_cases h1:a<b
 ·rw[if_pos h1,if_pos h1,if_neg (by decide)]
 by_cases h2:b<a
 ·rw[if_neg h1,if_neg h1,if_pos h2,if_pos h2,if_neg (by decide)]
 ·rw[if_neg h1,if_neg h1,if_neg h2,if_neg h2,if_pos rfl]
theorem orV_lex(x y:Elm 3):orV [cmp3 (x.1.getD 2 0) (y.1.getD 2 0),cmp3 (x.1.getD 0 0) (y.1.getD 0 0),cmp3 (x.1.getD 1 0) (y.1.getD 1 0)]=lexE 3 [2,0,1] x y:=by
 rw[orV_cons,orV_cons,orV_cons]
 rfl
theorem orV_lex2(x y:Elm 2):orV [cmp3 (x.1.getD 0 0) (y.1.getD 0 0),cmp3 (x.1.getD 1 0) (y.1.getD 1 0)]=lexE 2 [0,1] x y:=by
 rw[orV_cons,orV_cons]
 rfl
end Go.AM
namespace Go.AM
open Go Go.Proofs Go.Sort Go.Shelf
abbrev cfP:Elm 3->Elm 3->Int:=lexE 3 [2,0,1]
abbrev tabCP:List (Nat×Contract):=[(21,dataC cmpR3),(20,frzC (dataC orR))]
theorem tabCP_ok:OkG Try.prog (tbl tabCP):=okG_cons compare_ok (okG_cons (okF_frz or_ok) okG_nil)
theorem pureCP:PureFns (tbl tabCP) [21]:=by
 refine pure_of2 fun g C hm hg=>?_
 simp only[List.mem_cons,List.not_mem_nil,or_false,Prod.mk.injEq]at hm hg
 rcases hm with⟨_,rfl⟩|⟨h,rfl⟩
 ·exact .inl ⟨_,rfl⟩
 ·subst h;exact absurd hg (by decide)
theorem wcompare_ok:OkF Try.prog 15 (dataC (cmpER 3 cfP)):=by
 refine okF_data Try.func15 rfl (by decide) ?_
 rintro ds v ⟨x,y,rfl,rfl⟩
 have hor:=orV_lex x y
 generalize hV:cfP x y=V
 rw[show lexE 3 [2,0,1] x y=V from hV]at hor
 rw[Elm.d3,Elm.d3]
 refine sem_of_awp (Γ:=tbl tabCP) tabCP_ok _ _ _ ?_
 simp only[go_sem,Try.ntmps15]
 refine sem_drawX [] [] (pf:=[21]) (mf:=[]) mixed tabCP_ok pureCP noMk (ones [0,1,2,3,4,5,6,7,8,9,10,11,12,13,14,15,16,17]) (by kernel_rfl) ?_
 simp only[go_sem]
 refine call_data cmpR3 (by simp) _ _ rfl ⟨_,_,rfl,rfl⟩ (.inl rfl) ?_
 simp only[go_sem]
 refine call_data cmpR3 (by simp) _ _ rfl ⟨_,_,rfl,rfl⟩ (.inl rfl) ?_
 simp only[go_sem]
 refine call_data cmpR3 (by simp) _ _ rfl ⟨_,_,rfl,rfl⟩ (.inl rfl) ?_
 simp only[go_sem]
 refine call_frzdata orR (by simp) 2 rfl _ _ (by rfl) ⟨[_,_,_],by simp,rfl,rfl⟩ (.inr rfl) ?_
 simp only[go_sem,hor]
 exact post_data (.inl rfl) [4] rfl trivial rfl
def cloneER(ds:List D)(v:AV)(ob:List Obj):Prop:=∃L:List (Elm 3),L.length<=1000000/\ds=[.sl (some 3) (L.map Elm.d)]/\v=.sl 0 0 L.length/\ob=[.row (some 3) (L.map Elm.d)]
theorem cloneE_ok:OkF Try.prog 13 (madeC cloneER):=by
 refine okF_made Try.func13 rfl (by decide) ?_
 rintro ds v ob ⟨L,hl,rfl,rfl,rfl⟩
 refine sem_of_awpK [1] (Γ:=tbl []) okG_nil _ _ _ ?_
 simp only[go_sem,Try.ntmps13]
 refine sem_regionF (Γ:=tbl []) okG_nil ?_
 by_cases h:L=[]
 ·subst h
  refine .inr ?_
  simp only[go_sem,List.map_nil]
  refine .inl ⟨rfl,.inl rfl,⟨_,by simp[ev];rfl⟩,⟨36,by kernel_rfl⟩,?_⟩
  intro b
  cases b
  ·simp only[go_sem,awpOpsF]
   refine post_resO (.inl rfl) [.tmp 2] rfl (fun _ h=>h) ?_
   simp only[go_sem]
   exact Le.refl _
  ·simp only[go_sem,awpOpsF]
   refine post_resO (.inl rfl) [.tmp 2] rfl (fun _ h=>h) ?_
   simp only[go_sem]
   exact le_addnil 0 (some 3) rfl (Nat.zero_le _)
 ·have hn:L.map Elm.d≠[]:=by simpa using h
  have hll:(L.map Elm.d).length=L.length:=List.length_map _
  simp only[awpOpsF]
  refine .inr ?_
  simp only[go_sem]
  refine .inr ⟨hn,?_⟩
  refine⟨by omega,by omega,?_⟩
  refine post_resO (.inl rfl) [.tmp 2] rfl (fun _ h=>h) ?_
  simp only[go_sem]
  exact Le.refl _
end Go.AM
namespace Go.AM
open Go Go.Proofs Go.Sort Go.Shelf
theorem sortE_ok{P:Program}{ρ:Ren}(L:SlLaysF0.n6 P ρ){k g:Nat}{fn:Func}{body:Code}(hk:0<k)(aE:∀w,(isAgg (ρ.t 24)).run P w=.ok true w)(zE:∀w,(Go.sizeOf (ρ.t 24)).run P w=.ok k w)
  (hf : P.funcs[ρ.f 6]? = some fn) (hb : fn.body = some body) (hname : fn.name ≠ "runtime.NumGoroutine") (cf : Elm k -> Elm k -> Int) (hO : SWO (ltOf cf)) (hT : ∀ x y, (ltOf cf) x y = false -> (ltOf cf) y x = false -> x = y)
  (eg:∀args w,(callFunc g args).run P w=.ok (.enter g args) w) (hcmp:OkF P g (dataC (cmpER k cf))):OkF P (ρ.f 6) (lentC (sortER k g cf)) :=
 sortE_of hk hf hb hname cf hcmp
  (fun blk off cap d w hl hH hblk hsz=>AnyQ.slices_SortFunc_total L k aE zE Elm.enc Elm.enc_len Elm.enc_one cf hO g #[] blk off cap d w eg hl hH hblk hsz hT)
  (fun p cap fv w=>AnyF.slices_SortFunc_none L p cap fv w)
end Go.AM
namespace Go.AM
open Go Go.Proofs Go.Shelf
def rSQ:Ren where
 f:=fun x=>match x with
  | 6=>18
  | 15=>28
  | 14=>29
  | 28=>41
  | 29=>42
  | 20=>43
  | 21=>44
  | 22=>45
  | 23=>46
  | 24=>47
  | 25=>48
  | 26=>49
  | 27=>50
  | 46=>56
  | 47=>52
  | 48=>53
  | 49=>57
  | 50=>58
  | 57=>60
  | n=>n
 t:=fun x=>match x with
  | 22=>53
  | 24=>55
  | 25=>60
  | 3=>3
  | 39=>71
  | 0=>0
  | 53=>86
  | 55=>88
  | 4=>4
  | 46=>79
  | 45=>78
  | 50=>83
  | 5=>5
  | 9=>9
  | 66=>94
  | 70=>98
  | 76=>102
  | 77=>103
  | n=>n
 g:=fun x=>match x with
  | n=>n
theorem laysSQ:SlLaysF0.n6 Try.prog rSQ where
 mixed:=by kernel_rfl
 f6:=⟨Try.f18.name,by decide,Eq.trans Try.func18 (congrArg some (by kernel_rfl))⟩
 f14:=⟨Try.f29.name,by decide,Eq.trans Try.func29 (congrArg some (by kernel_rfl))⟩
 f15:=Eq.trans Try.func28 (congrArg some (by kernel_rfl))
 f20:=⟨Try.f43.name,by decide,Eq.trans Try.func43 (congrArg some (by kernel_rfl))⟩
 f21:=⟨Try.f44.name,by decide,Eq.trans Try.func44 (congrArg some (by kernel_rfl))⟩
 f22:=⟨Try.f45.name,by decide,Eq.trans Try.func45 (congrArg some (by kernel_rfl))⟩
 f23:=⟨Try.f46.name,by decide,Eq.trans Try.func46 (congrArg some (by kernel_rfl))⟩
 f24:=⟨Try.f47.name,by decide,Eq.trans Try.func47 (congrArg some (by kernel_rfl))⟩
 f25:=⟨Try.f48.name,by decide,Eq.trans Try.func48 (congrArg some (by kernel_rfl))⟩
 f26:=⟨Try.f49.name,by decide,Eq.trans Try.func49 (congrArg some (by kernel_rfl))⟩
 f27:=⟨Try.f50.name,by decide,Eq.trans Try.func50 (congrArg some (by kernel_rfl))⟩
 f28:=Eq.trans Try.func41 (congrArg some (by kernel_rfl))
 f29:=Eq.trans Try.func42 (congrArg some (by kernel_rfl))
 f46:=⟨Try.f56.name,by decide,Eq.trans Try.func56 (congrArg some (by kernel_rfl))⟩
 f47:=Eq.trans Try.func52 (congrArg some (by kernel_rfl))
 f48:=Eq.trans Try.func53 (congrArg some (by kernel_rfl))
 f49:=⟨Try.f57.name,by decide,Eq.trans Try.func57 (congrArg some (by kernel_rfl))⟩
 f50:=⟨Try.f58.name,by decide,Eq.trans Try.func58 (congrArg some (by kernel_rfl))⟩
 f57:=⟨Try.f60.name,by decide,Eq.trans Try.func60 (congrArg some (by kernel_rfl))⟩
 t0:=Try.underlying0
 a0:=Try.isAgg0
 z0:=Try.sizeOf0
 v0:=Try.zeroValue0
 t3:=Try.underlying3
 a3:=Try.isAgg3
 z3:=Try.sizeOf3
 v3:=Try.zeroValue3
 t4:=Try.underlying4
 a4:=Try.isAgg4
 z4:=Try.sizeOf4
 v4:=Try.zeroValue4
 t5:=Try.underlying5
 a5:=Try.isAgg5
 z5:=Try.sizeOf5
 v5:=Try.zeroValue5
 t9:=Try.underlying9
 a9:=Try.isAgg9
 z9:=Try.sizeOf9
 v9:=Try.zeroValue9
 t22:=Try.underlying53
 a22:=Try.isAgg53
 z22:=Try.sizeOf53
 v22:=Try.zeroValue53
 t25:=Try.underlying60
 a25:=Try.isAgg60
 z25:=Try.sizeOf60
 v25:=Try.zeroValue60
 t39:=Try.underlying71
 a39:=Try.isAgg71
 z39:=Try.sizeOf71
 v39:=Try.zeroValue71
 t45:=Try.underlying78
 a45:=Try.isAgg78
 z45:=Try.sizeOf78
 v45:=Try.zeroValue78
 t46:=Try.underlying79
 a46:=Try.isAgg79
 z46:=Try.sizeOf79
 v46:=Try.zeroValue79
 t50:=Try.underlying83
 a50:=Try.isAgg83
 z50:=Try.sizeOf83
 v50:=Try.zeroValue83
 t53:=Try.underlying86
 a53:=Try.isAgg86
 z53:=Try.sizeOf86
 v53:=Try.zeroValue86
 t55:=Try.underlying88
 a55:=Try.isAgg88
 z55:=Try.sizeOf88
 v55:=Try.zeroValue88
 t66:=Try.underlying94
 a66:=Try.isAgg94
 z66:=Try.sizeOf94
 v66:=Try.zeroValue94
 t70:=Try.underlying98
 a70:=Try.isAgg98
 z70:=Try.sizeOf98
 v70:=Try.zeroValue98
 t76:=Try.underlying102
 a76:=Try.isAgg102
 z76:=Try.sizeOf102
 v76:=Try.zeroValue102
 t77:=Try.underlying103
 a77:=Try.isAgg103
 z77:=Try.sizeOf103
 v77:=Try.zeroValue103
end Go.AM
namespace Go.AM
open Go Go.Proofs Go.Sort Go.Shelf
abbrev cfQ:Elm 2->Elm 2->Int:=lexE 2 [0,1]
theorem Elm.d2(x:Elm 2):x.d=.agg [.int .i64 (x.1.getD 0 0),.int .i64 (x.1.getD 1 0)]:=by
 obtain⟨l,h1,h2⟩:=x
 match l,h1 with
 | [a,b],_=>rfl
theorem qcompare_ok:OkF Try.prog 19 (dataC (cmpER 2 cfQ)):=by
 refine okF_data Try.func19 rfl (by decide) ?_
 rintro ds v ⟨x,y,rfl,rfl⟩
 have hor:=orV_lex2 x y
 generalize hV:cfQ x y=V
 rw[show lexE 2 [0,1] x y=V from hV]at hor
 rw[Elm.d2,Elm.d2]
 refine sem_of_awp (Γ:=tbl tabCP) tabCP_ok _ _ _ ?_
 simp only[go_sem,Try.ntmps19]
 refine sem_drawX [] [] (pf:=[21]) (mf:=[]) mixed tabCP_ok pureCP noMk (ones [0,1,2,3,4,5,6,7,8,9,10,11,12]) (by kernel_rfl) ?_
 simp only[go_sem]
 refine call_data cmpR3 (by simp) _ _ rfl ⟨_,_,rfl,rfl⟩ (.inl rfl) ?_
 simp only[go_sem]
 refine call_data cmpR3 (by simp) _ _ rfl ⟨_,_,rfl,rfl⟩ (.inl rfl) ?_
 simp only[go_sem]
 refine call_frzdata orR (by simp) 2 rfl _ _ (by rfl) ⟨[_,_],by simp,rfl,rfl⟩ (.inr rfl) ?_
 simp only[go_sem,hor]
 exact post_data (.inl rfl) [4] rfl trivial rfl
theorem sortQ_ok:OkF Try.prog 18 (lentC (sortER 2 19 cfQ)) :=
 sortE_ok laysSQ (by decide) (fun w=>by rfl) (fun w=>by rfl) Try.func18 rfl (by decide) cfQ (lexE_swo 2 [0,1])
  (lexE_total (fun p hp=>by
   have:p=0∨p=1:=by omega
   rcases this with rfl|rfl <;> simp)) (fun args w=>by rfl) qcompare_ok
end Go.AM
namespace Go.AM
open Go Go.Proofs Go.Sort Go.Shelf
def pf(S:List (Elm 2))(j:Nat):Int:=(S.getD j default).1.getD 0 0
def pi(S:List (Elm 2))(j:Nat):Int:=(S.getD j default).1.getD 1 0
def goOn(S:List (Elm 2))(i n:Nat):Bool:=decide (pf S (i+n)=pf S i) && decide (pi S (i+n)=pi S i+n)
def runN(S:List (Elm 2))(i m:Nat):Nat->Nat->Nat
 | 0,n=>n
 | t+1,n=>if n<m/\i+n<S.length/\goOn S i n=true then runN S i m t (n+1) else n
def runL(S:List (Elm 2))(m:Nat):Nat->Nat->List (Nat×Nat)
 | 0,_=>[]
 | t+1,i=>if i<S.length then (i,runN S i m m 1) :: runL S m t (i+runN S i m m 1) else []
def runA(S:List (Elm 2))(p:Nat×Nat):AV:=.agg [.dat (.int .i64 (pf S p.1)),.dat (.int .i64 (pi S p.1)),.dat (.int .i64 p.2)]
def runD(S:List (Elm 2))(p:Nat×Nat):D:=.agg [.int .i64 (pf S p.1),.int .i64 (pi S p.1),.int .i64 p.2]
theorem runN_spec(S:List (Elm 2))(i m:Nat):∀t n,1<=n->n<=m->i+n<=S.length->(∀k,k<n->goOn S i k=true)->n<=runN S i m t n/\runN S i m t n<=m/\i+runN S i m t n<=S.length/\∀k,k<runN S i m t n->goOn S i k=true
 | 0,n,h1,h2,h3,h4=>⟨Nat.le_refl _,h2,h3,h4⟩
 | t+1,n,h1,h2,h3,h4=>by
  unfold runN
  by_cases h:n<m/\i+n<S.length/\goOn S i n=true
  ·rw[if_pos h]
   obtain⟨g1,g2,g3,g4⟩:=runN_spec S i m t (n+1) (by omega) (by omega) (by omega) (fun k hk=>by
    rcases Nat.lt_or_ge k n with h'|h'
    ·exact h4 k h'
    ·obtain rfl:k=n:=by omega
     exact h.2.2)
   exact⟨by omega,g2,g3,g4⟩
  ·rw[if_neg h];exact⟨Nat.le_refl _,h2,h3,h4⟩
theorem goOn_zero(S:List (Elm 2))(i:Nat):goOn S i 0=true:=by simp[goOn]
theorem runN_one{S:List (Elm 2)}{i m:Nat}(hi:i<S.length)(hm:1<=m):1<=runN S i m m 1/\runN S i m m 1<=m/\i+runN S i m m 1<=S.length/\∀k,k<runN S i m m 1->goOn S i k=true :=
 runN_spec S i m m 1 (Nat.le_refl _) hm (by omega) (fun k hk=>by
  obtain rfl:k=0:=by omega
  exact goOn_zero S i)
theorem runN_stop{S:List (Elm 2)}{i m n:Nat}(h:¬(n<m/\i+n<S.length/\goOn S i n=true)):∀t,runN S i m t n=n
 | 0=>rfl
 | t+1=>by unfold runN;rw[if_neg h]
theorem eq22:eqOk Try.prog 55 (.dat (.agg [.int .i64 0,.int .i64 0])) (.dat (.agg [.int .i64 0,.int .i64 0]))=true:=by kernel_rfl
theorem flat2{a b c d:Int}{q r:IntKind}:D.flatEqs [.int q a,.int r b] [.int q c,.int r d]=(decide (a=c) && decide (b=d)):=by simp[D.flatEqs,D.flatEq]
theorem eql_place{a b c d:Int}{K:AV->Prop}(h1:inR .i64 a)(h2:inR .i64 b)(h3:inR .i64 c)(h4:inR .i64 d):binTop Try.prog .eql 55 (.dat (.agg [.int .i64 a,.int .i64 b])) (.dat (.agg [.int .i64 c,.int .i64 d])) K=K (.dat (.bool (decide (a=c) && decide (b=d)))):=by
 have ha:numsD [.int .i64 a,.int .i64 b] [.int .i64 0,.int .i64 0]:=⟨rfl,h1,rfl,h2,trivial⟩
 have hb:numsD [.int .i64 c,.int .i64 d] [.int .i64 0,.int .i64 0]:=⟨rfl,h3,rfl,h4,trivial⟩
 rw[bin_eql_agg eq22 ha hb,flat2]
theorem nth_elm2{S:List (Elm 2)}{i:Nat}(h:i<S.length):D.nth (S.map Elm.d) i=.agg [.int .i64 (pf S i),.int .i64 (pi S i)]:=by
 rw[show D.nth (S.map Elm.d) i=(S.getD i default).d from D.nth_map h,Elm.d2];rfl
theorem pf_in(S:List (Elm 2))(j:Nat):inR .i64 (pf S j):=Elm.inR _ 0
theorem pi_in(S:List (Elm 2))(j:Nat):inR .i64 (pi S j):=Elm.inR _ 1
def rnsC:Contract:=fun args own v own' mv=>∃(a b y:Nat) (S:List (Elm 2)) (m:Nat) (W:Nat->List Obj) (M:List Nat),S.length<=1000000/\1<=m/\m<=1000000/\(∀j,j<S.length->pi S j<=1000000) /\
 (∀k,(W k).getD a .dead=.box [.dat (.sl (some 2) (S.map Elm.d))]/\(W k).getD b .dead=.box [.dat (.int .i64 m)]/\(W k).length=(W 0).length) /\
 (∀o∈M,o≠a/\o≠b/\o≠y) /\
 (∀k p,(runL S m S.length 0)[k]?=some p->∃r cs mv',(W k).getD y .dead=.lp r cs/\r.params.size=1/\RoundW Try.prog y r [runA S p] (W k) true (W (k+1)) mv'/\∀o∈mv',o∈M) /\
 args=[.yld y,.ptr a 0 0,.ptr b 0 0]/\own=W 0/\v=.tup []/\mv=M/\own'=W (runL S m S.length 0).length
theorem PutE_eff{d:Tmp}{K:S->Prop}{sl:List AV}{own own':List Obj}{n:Nat}{m kl:List Nat}{v:AV}:PutE (some d) K ⟨sl,own,n,m⟩ v own' kl=K ⟨(killAll kl sl).set d v,own',n,addMv n m kl⟩:=rfl
theorem mem_addMv2:∀(kl mv:List Nat) (n0 o:Nat),o∈addMv n0 mv kl->o∈mv∨o∈kl
 | [],mv,n0,o,h=>.inl (by simpa [addMv] using h)
 | k :: kl,mv,n0,o,h=>by
  simp only[addMv]at h
  rcases mem_addMv2 kl _ n0 o h with h1|h1
  ·split at h1
   ·split at h1
    ·exact .inl h1
    ·rcases List.mem_append.1 h1 with h2|h2
     ·exact .inl h2
     ·exact .inr (by simp at h2;simp[h2])
   ·exact .inl h1
  ·exact .inr (List.mem_cons_of_mem _ h1)
theorem killAll_same:∀(kl:List Nat) (s:List AV),(∀a∈s,∀o∈kl,a.kill o=a)->killAll kl s=s
 | [],_,_=>rfl
 | o :: kl,s,h=>by
  simp only[killAll]
  have e:AV.kills o s=s:=by
   have:∀l:List AV,(∀a∈l,a.kill o=a)->AV.kills o l=l:=by
    intro l
    induction l with
    | nil=>intro _;rfl
    | cons a l ih=>intro hl;simp only[AV.kills];rw[hl a (by simp),ih (fun b hb=>hl b (by simp[hb]))]
   exact this s fun a ha=>h a ha o (by simp)
  rw[e]
  exact killAll_same kl s fun a ha k hk=>h a ha k (by simp[hk])
def datB:AV->Bool
 | .dat _=>true
 | _=>false
theorem kills_dats(o:Nat):∀vs:List AV,vs.all datB=true->AV.kills o vs=vs
 | [],_=>rfl
 | v :: vs,h=>by
  simp only[List.all_cons,Bool.and_eq_true]at h
  have hv:v.kill o=v:=by
   obtain⟨h,_⟩:=h
   cases v <;> simp only[datB,Bool.false_eq_true]at h
   rfl
  simp only[AV.kills,hv,kills_dats o vs h.2]
def okB(a b y:Nat):AV->Bool
 | .agg vs=>vs.all datB
 | .tup vs=>vs.all datB
 | .rptr _ _=>true
 | .top=>true
 | .dat _=>true
 | .yld m=>m == y
 | .ptr m _ _=>m == a || m == b
 | _=>false
theorem okB_kill{a b y:Nat}{kl:List Nat}(h:∀o∈kl,o≠a/\o≠b/\o≠y){sl:List AV}(hs:sl.all (okB a b y)=true):killAll kl sl=sl:=by
 refine killAll_same kl sl fun v hv o ho=>?_
 have h1:=List.all_eq_true.1 hs v hv
 have h2:=h o ho
 cases v <;> simp only[okB,Bool.or_eq_true,beq_iff_eq,Bool.false_eq_true]at h1
 case dat d=>rfl
 case rptr g d=>rfl
 case tup vs=>simp only[AV.kill,kills_dats o vs h1]
 case agg vs=>simp only[AV.kill,kills_dats o vs h1]
 case ptr m p q=>simp only[AV.kill];rw[if_neg];omega
 case yld m=>simp only[AV.kill];rw[if_neg];omega
 case top=>rfl
theorem runs_iter_ok:OkF Try.prog 32 rnsC:=by
 refine okF_of_sem Try.func32 rfl (by decide) ?_
 rintro args own v own' mv ⟨a,b,y,S,m,W,M,hS,hm1,hm2,hpi,hW,hM,hstep,rfl,rfl,rfl,rfl,rfl⟩
 generalize hR:runL S m S.length 0=R at *
 have hsl:(S.map Elm.d).length=S.length:=List.length_map _
 have g0:=fun k=>(hW k).1
 have g1:=fun k=>(hW k).2.1
 have g2:=fun k=>(hW k).2.2
 refine sem_of_awpK [3,5] (Γ:=tbl []) okG_nil _ _ _ ?_
 simp only[go_sem,Try.ntmps32,List.length_cons,List.length_nil]
 refine sem_loop (fun p:Nat×Nat=>⟨slotsOf 63 [(0,.yld y),(1,.ptr a 0 0),(2,.ptr b 0 0),(4,.dat (.int .i64 p.2))],W p.1,(W 0).length,mv⟩)
  (fun p=>p.2<=S.length/\p.1<=R.length/\∃t,S.length<=t+p.2/\R.drop p.1=runL S m t p.2) (fun p=>S.length - p.2) (0,0) ⟨Nat.zero_le _,Nat.zero_le _,S.length,Nat.le_refl _,hR.symm⟩ ?_ ?_
 ·exact Le.trans (le_mvs (by simp)) (le_slots' (by simp only[go_sem,Int.natCast_zero]))
 rintro ⟨k,i⟩ ⟨hi,hk,t,ht,hdrop⟩
 simp only at hi hk ht hdrop ⊢
 refine sem_of_awpK [3,5] (Γ:=tbl []) okG_nil _ _ _ ?_
 rcases Nat.lt_or_ge i S.length with hlt|hge
 ·have k1:(i:Int)<S.length:=by omega
  simp only[go_sem,g0,hsl,k1,decide_true]
  obtain⟨t,rfl⟩:∃t',t=t'+1:=⟨t - 1,by omega⟩
  rw[show runL S m (t+1) i=(i,runN S i m m 1) :: runL S m t (i+runN S i m m 1) by rw[runL,if_pos hlt]]at hdrop
  obtain⟨n1,n2,n3,n4⟩:=runN_one (S:=S) (m:=m) hlt hm1
  generalize hN:runN S i m m 1=N at *
  have hget:R[k]?=some (i,N):=by
   have:(R.drop k)[0]?=some (i,N):=by rw[hdrop];rfl
   rw[List.getElem?_drop]at this
   simpa using this
  have hkR:k<R.length:=(List.getElem?_eq_some_iff.1 hget).1
  have hdrop2:R.drop (k+1)=runL S m t (i+N):=by
   have:(R.drop k).drop 1=runL S m t (i+N):=by rw[hdrop];rfl
   rwa [List.drop_drop]at this
  obtain⟨r,cs,mv',y1,y2,y3,y4⟩:=hstep k (i,N) hget
  have hk1:∀o∈mv',o≠a/\o≠b/\o≠y:=fun o ho=>hM o (y4 o ho)
  have hpi0:=hpi i hlt
  have hpb:=inR_i64.1 (pi_in S i)
  have hnx:=nth_elm2 hlt
  have i2:(0:Int)<=i:=by omega
  refine sem_loop (fun n:Nat=>⟨slotsOf 63 [(0,.yld y),(1,.ptr a 0 0),(2,.ptr b 0 0),(4,.dat (.int .i64 i)),(5,.dat (.int .i64 n))],W k,(W 0).length,mv⟩)
   (fun n=>1<=n/\n<=m/\i+n<=S.length/\∃u,m<=u+n/\runN S i m u n=N) (fun n=>m - n) 1 ⟨Nat.le_refl _,hm1,by omega,m,by omega,hN⟩ ?_ ?_
  ·exact le_slots' (by simp only[go_sem,Int.natCast_one])
  rintro n ⟨c1,c2,c3,u,c4,c5⟩
  refine sem_of_awpK [3,5] (Γ:=tbl []) okG_nil _ _ _ ?_
  simp only[go_sem]
  refine sem_drawX [] [] (pf:=[]) (mf:=[]) mixed okG_nil pureNo noMk (ones [0,1,2,3,4,5,6,7,8,9,10,11,12,13,14,15,16,17,18,19,20,21,22,23,24,25,26,27,28,29,30,31,32]) (by kernel_rfl) ?_
  have hgo:(decide (pf S (i+n)=pf S i) && decide (pi S (i+n)=pi S i+n))=goOn S i n:=rfl
  by_cases h1:n<m
  case' neg =>
   have h1':¬(n:Int)<m:=by omega
   have hnN:n=N:=by rw[← c5];exact(runN_stop (fun h=>h1 h.1) u).symm
   simp only[go_sem,g0,g1,h1',decide_false]
  case' pos =>
   have h1':(n:Int)<m:=by omega
   by_cases h2:i+n<S.length
   case' neg =>
    have h2':¬(i:Int)+n<S.length:=by omega
    have hnN:n=N:=by rw[← c5];exact(runN_stop (fun h=>h2 h.2.1) u).symm
    simp only[go_sem,g0,g1,hsl,h1',h2',decide_true,decide_false]
    refine⟨inR_i64.2 (by omega),?_⟩
   case' pos =>
    have h2':(i:Int)+n<S.length:=by omega
    have h3':(0:Int)<=(i:Int)+n:=by omega
    have h4':((i:Int)+n).toNat=i+n:=by omega
    have hny:=nth_elm2 h2
    have hin:=inR_i64.2 (show -9223372036854775808<=pi S i+n/\pi S i+n<=9223372036854775807 by omega)
    have heq:=fun K=>eql_place (K:=K) (pf_in S (i+n)) (pi_in S (i+n)) (pf_in S i) hin
    simp only[go_sem,g0,g1,hsl,h1',h2',h3',h4',i2,k1,hnx,hny,heq,hgo,Option.map_some,Int.toNat_natCast,decide_true]
    refine⟨inR_i64.2 (by omega),inR_i64.2 (by omega),hin,?_⟩
    cases hg:goOn S i n with
    | true =>
     simp only[go_sem]
     obtain⟨u,rfl⟩:∃u',u=u'+1:=⟨u - 1,by omega⟩
     rw[runN,if_pos ⟨h1,h2,hg⟩]at c5
     refine⟨inR_i64.2 (by omega),n+1,⟨by omega,by omega,by omega,u,by omega,c5⟩,by omega,?_⟩
     exact le_slots' (by simp only[go_sem,Int.natCast_add,Int.cast_ofNat_Int])
    | false =>
     have hnN:n=N:=by rw[← c5];exact(runN_stop (fun h=>by rw[hg]at h;cases h.2.2) u).symm
     simp only[go_sem]
     subst hnN
     refine sem_drawYd (pf:=[]) mixed okG_nil pureNo [0,1,2,3,4,5,6,7,8,9,10,11,12] 13 14 (by kernel_rfl) ?_
     simp only[go_sem,g0,i2,k1,hsl,hnx,Int.toNat_natCast,decide_true]
     refine⟨r,cs,true,W (k+1),mv',y1,y2,y3,?_⟩
     rw[PutE_eff,okB_kill hk1 (by simp[okB,datB])]
     have hmv2:∀o∈addMv (W 0).length mv mv',o∈mv:=fun o ho=>(mem_addMv2 _ _ _ _ ho).elim id (y4 o)
     generalize addMv (W 0).length mv mv'=mv2 at hmv2
     simp only[go_sem]
     refine⟨inR_i64.2 (by omega),(k+1,i+n),⟨by simp only;omega,by simp only;omega,t,by simp only;omega,hdrop2⟩,by simp only;omega,?_⟩
     exact Le.trans (le_mvs hmv2) (le_slots' (by simp only[go_sem,Int.natCast_add]))
  all_goals
   subst hnN
   refine sem_drawYd (pf:=[]) mixed okG_nil pureNo [0,1,2,3,4,5,6,7,8,9,10,11,12] 13 14 (by kernel_rfl) ?_
   simp only[go_sem,g0,i2,k1,hsl,hnx,Int.toNat_natCast,decide_true]
   refine⟨r,cs,true,W (k+1),mv',y1,y2,y3,?_⟩
   rw[PutE_eff,okB_kill hk1 (by simp[okB,datB])]
   have hmv2:∀o∈addMv (W 0).length mv mv',o∈mv:=fun o ho=>(mem_addMv2 _ _ _ _ ho).elim id (y4 o)
   generalize addMv (W 0).length mv mv'=mv2 at hmv2
   simp only[go_sem]
   refine⟨inR_i64.2 (by omega),(k+1,i+n),⟨by simp only;omega,by simp only;omega,t,by simp only;omega,hdrop2⟩,by simp only;omega,?_⟩
   exact Le.trans (le_mvs hmv2) (le_slots' (by simp only[go_sem,Int.natCast_add]))
 ·obtain rfl:i=S.length:=by omega
  have k1:¬(S.length:Int)<S.length:=by omega
  have hnil:R.drop k=[]:=by
   rw[hdrop]
   cases t with
   | zero=>rfl
   | succ t=>unfold runL;rw[if_neg (by omega)]
  have hkl:k=R.length:=by
   have:=List.drop_eq_nil_iff.1 hnil;omega
  subst hkl
  simp only[go_sem,g0,hsl,k1,decide_false]
  refine post_resO (mv':=mv) (.inr rfl) [] rfl (fun _ h=>h) ?_
  simp only[go_sem]
  exact Le.refl _
end Go.AM
namespace Go.AM
open Go Go.Proofs Go.Sort Go.Shelf
def sOk(S:List (Elm 2))(m:Nat):Prop:=S.length<=1000000/\1<=m/\m<=1000000/\∀j,j<S.length->pi S j<=1000000
abbrev rnsL(S:List (Elm 2))(m:Nat):List (Nat×Nat):=runL S m S.length 0
abbrev capO(S:List (Elm 2))(m:Nat):List Obj:=[.box [.dat (.sl (some 2) (S.map Elm.d))],.box [.dat (.int .i64 m)]]
def apsR(xs:List AV)(obs:List Obj)(v0:AV)(obs' ex:List Obj)(mv0:List Nat):Prop:=∃(S:List (Elm 2)) (m:Nat),sOk S m/\xs=[.nils,.fn 32 [.ptr 0 0 0,.ptr 1 0 0]]/\obs=capO S m/\v0=.sl 3 0 (rnsL S m).length/\obs'=capO S m/\ex=[.dead,.row (some 3) ((rnsL S m).map (runD S))]/\mv0=[]
abbrev tabAS:List (Nat×Contract):=[(32,rnsC)]
theorem tabAS_ok:OkG Try.prog (tbl tabAS):=okG_cons runs_iter_ok okG_nil
theorem runL_len(S:List (Elm 2))(m:Nat):∀t i,(runL S m t i).length<=t
 | 0,_=>Nat.le_refl _
 | t+1,i=>by
  unfold runL
  split
  ·rw[List.length_cons];have:=runL_len S m t (i+runN S i m m 1);omega
  ·exact Nat.zero_le _
theorem appendSeq_ok:OkF Try.prog 31 (lentC apsR):=by
 refine okF_lent Try.func31 rfl (by decide) ?_
 rintro xs obs v0 obs' ex mv0 ⟨S,m,⟨hS,hm1,hm2,hpi⟩,rfl,rfl,rfl,rfl,rfl,rfl⟩
 refine sem_of_awpK [1] (Γ:=tbl tabAS) tabAS_ok _ _ _ ?_
 simp only[go_sem,Try.ntmps31]
 refine sem_le (le_addnilR 2 0 (some 3) rfl rfl (by simp)) ?_
 refine sem_of_awp (Γ:=tbl tabAS) tabAS_ok _ _ _ ?_
 simp only[go_sem]
 refine sem_range tabAS_ok rfl ?_
 intro fn dfr
 generalize hr:newLoop fn dfr _ _ _=r
 have hRlen:(rnsL S m).length<=1000000:=Nat.le_trans (runL_len S m _ _) hS
 generalize hRL:rnsL S m=R at *
 let sl:List AV:=[.nils,.fn 32 [.ptr 0 0 0,.ptr 1 0 0],.ptr 2 0 0,.top,.nils,.top,.fn 32 [.ptr 0 0 0,.ptr 1 0 0],.top,.top,.top,.top,.top,.top]
 let W:Nat->List Obj:=fun k=>[.box [.dat (.sl (some 2) (S.map Elm.d))],.box [.dat (.int .i64 m)],.box [.sl 3 0 (R.take k).length],.row (some 3) ((R.take k).map (runD S)),.lp r sl]
 have hstep:∀k p,R[k]?=some p->∃r' cs mv',(W k).getD 4 .dead=.lp r' cs/\r'.params.size=1/\RoundW Try.prog 4 r' [runA S p] (W k) true (W (k+1)) mv'/\∀o∈mv',o∈[3]:=by
  intro k p hp
  have hk:k<R.length:=(List.getElem?_eq_some_iff.1 hp).1
  have hpe:R[k]=p:=(List.getElem?_eq_some_iff.1 hp).2
  have htk:R.take (k+1)=R.take k++[p]:=by rw[List.take_succ_eq_append_getElem hk,hpe]
  refine⟨r,sl,[3],rfl,by rw[← hr];rfl,?_,fun o h=>h⟩
  have h:=round_ok (P:=Try.prog) (o:=4) (r:=r) (cs:=sl) (args:=[runA S p]) (own:=W k) (b:=true) (ownB:=[.box [.dat (.sl (some 2) (S.map Elm.d))],.box [.dat (.int .i64 m)],.box [.sl 3 0 (R.take (k+1)).length],.row (some 3) ((R.take (k+1)).map (runD S)),.dead]) (mvB:=[3]) (pend:=none) rfl (by rw[← hr];rfl) (by rw[← hr];rfl) (by simp) (by
   subst hr
   show sem Try.prog _ _ ⟨_,_,5,[]⟩
   have hown:((W k).map (Obj.killAll [4])).set 4 .dead=[.box [.dat (.sl (some 2) (S.map Elm.d))],.box [.dat (.int .i64 m)],.box [.sl 3 0 (R.take k).length],.row (some 3) ((R.take k).map (runD S)),.dead]:=rfl
   have hs:setPs [7] (killAll [4] [runA S p]) (killAll [4] sl)=[.nils,.fn 32 [.ptr 0 0 0,.ptr 1 0 0],.ptr 2 0 0,.top,.nils,.top,.fn 32 [.ptr 0 0 0,.ptr 1 0 0],.agg [.dat (.int .i64 (pf S p.1)),.dat (.int .i64 (pi S p.1)),.dat (.int .i64 p.2)],.top,.top,.top,.top,.top]:=rfl
   show sem Try.prog _ _ ⟨setPs [7] (killAll [4] [runA S p]) (killAll [4] sl),((W k).map (Obj.killAll [4])).set 4 .dead,5,[]⟩
   rw[hown,hs]
   have r1:((R.take k).map (runD S)).length=(R.take k).length:=List.length_map _
   have r2:List.take (R.take k).length ((R.take k).map (runD S))=(R.take k).map (runD S):=List.take_of_length_le (by rw[r1];exact Nat.le_refl _)
   have r3:(R.take k).map (runD S)++[.agg [.int .i64 (pf S p.1),.int .i64 (pi S p.1),.int .i64 p.2]]=(R.take (k+1)).map (runD S):=by rw[htk,List.map_append];rfl
   have r4:(R.take k).length+1=(R.take (k+1)).length:=by rw[htk,List.length_append];rfl
   generalize R.take (k+1)=R2 at *
   generalize hR1e:R.take k=R1 at *
   refine sem_of_awp (Γ:=tbl []) okG_nil _ _ _ ?_
   simp only[go_sem,newLoop]
   refine sem_of_awp (Γ:=tbl []) okG_nil _ _ _ ?_
   simp only[go_sem,r1,r2,r3,r4]
   have hR1:R1.length<=1000000:=by
    rw[← hR1e,List.length_take];omega
   refine⟨by omega,by omega,⟨rfl,rfl⟩,?_⟩
   refine le_end (own:=[_,_,_,_,_]) (ex:=[_,_]) (Nat.le_refl _) ?_ ?_ ?_
   ·simp only[go_sem]
   ·simp only[go_sem]
   ·simp only[go_sem,Obj.under,AV.unders,AV.under])
  exact h
 have hWl:W R.length=[.box [.dat (.sl (some 2) (S.map Elm.d))],.box [.dat (.int .i64 m)],.box [.sl 3 0 R.length],.row (some 3) (R.map (runD S)),.lp r sl]:=by
  show [_,_,_,_,_]=_
  rw[List.take_length]
 refine⟨.tup [],W R.length,[3],r,sl,⟨rnsC,by simp,0,1,4,S,m,W,[3],hS,hm1,hm2,hpi,fun k=>⟨rfl,rfl,rfl⟩,by simp,?_,rfl,rfl,rfl,rfl,by rw[← hRL]⟩,by rw[hWl];rfl,by rw[← hr];simp[newLoop],by rw[hWl];simp,by simp,?_⟩
 ·show ∀k p,(rnsL S m)[k]?=some p->_
  rw[hRL]
  exact hstep
 rw[hWl,show r.pending=none by rw[← hr];rfl]
 show inBlk 0 _ .normal ⟨[.nils,.fn 32 [.ptr 0 0 0,.ptr 1 0 0],.ptr 2 0 0,.top,.nils,.top,.fn 32 [.ptr 0 0 0,.ptr 1 0 0],.top,.top,.top,.top,.top,.top],[.box [.dat (.sl (some 2) (S.map Elm.d))],.box [.dat (.int .i64 m)],.box [.sl 3 0 R.length],.row (some 3) (R.map (runD S)),.dead],2,[]⟩
 simp only[go_sem]
 refine post_resO (.inl rfl) [.tmp 4] rfl (fun _ h=>h) ?_
 simp only[go_sem]
 refine Le.trans (le_dead 2) ?_
 refine le_end (own:=[_,_,_,_]) (ex:=[_]) (by simp) ?_ ?_ ?_
 ·simp only[go_sem]
 ·simp only[go_sem]
 ·simp only[go_sem,Obj.under,AV.unders,AV.under]
abbrev tabCo:List (Nat×Contract):=[(31,lentC apsR)]
theorem tabCo_ok:OkG Try.prog (tbl tabCo):=okG_cons appendSeq_ok okG_nil
def colR(xs:List AV)(obs:List Obj)(v0:AV)(obs' ex:List Obj)(mv0:List Nat):Prop:=∃(S:List (Elm 2)) (m:Nat),sOk S m/\xs=[.fn 32 [.ptr 0 0 0,.ptr 1 0 0]]/\obs=capO S m/\v0=.sl 3 0 (rnsL S m).length/\obs'=capO S m/\ex=[.dead,.row (some 3) ((rnsL S m).map (runD S))]/\mv0=[]
theorem collect_ok:OkF Try.prog 22 (lentC colR):=by
 refine okF_lent Try.func22 rfl (by decide) ?_
 rintro xs obs v0 obs' ex mv0 ⟨S,m,hS,rfl,rfl,rfl,rfl,rfl,rfl⟩
 refine sem_of_awp (Γ:=tbl tabCo) tabCo_ok _ _ _ ?_
 simp only[go_sem,Try.ntmps22]
 refine call_lent apsR (by simp) [0,1] ⟨S,m,hS,rfl,rfl,rfl,rfl,rfl,rfl⟩ (by decide) (by simp) rfl rfl rfl (by simp only[go_sem,AV.unders,AV.under]) (by simp only[List.mem_cons,List.not_mem_nil,or_false,forall_eq_or_imp,forall_eq];trivial) (fun j hj=>by
  have:j=0∨j=1:=by simp at hj;omega
  rcases this with rfl|rfl <;> rfl) ?_
 have he:emb [0,1] 2 3=3:=rfl
 simp only[go_sem,he]
 refine post_resO (.inl rfl) [.tmp 2] rfl (fun _ h=>h) ?_
 simp only[go_sem]
 exact Le.refl _
end Go.AM
namespace Go.AM
open Go Go.Proofs Go.Sort Go.Shelf
def plE(x:Elm 3):Elm 2:=⟨[x.1.getD 0 0,x.1.getD 1 0],rfl,fun z hz=>by
 simp only[List.mem_cons,List.not_mem_nil,or_false]at hz
 rcases hz with rfl|rfl
 ·exact x.inR 0
 ·exact x.inR 1⟩
def rnR(ds:List D)(v:AV)(ob:List Obj):Prop:=∃(S:List (Elm 2)) (m:Nat),ds=[.sl (some 2) (S.map Elm.d),.int .i64 m]/\v=.fn 32 [.ptr 0 0 0,.ptr 1 0 0]/\ob=capO S m
theorem runs_ok:OkF Try.prog 23 (madeC rnR):=by
 refine okF_made Try.func23 rfl (by decide) ?_
 rintro ds v ob ⟨S,m,rfl,rfl,rfl⟩
 refine sem_of_awp (Γ:=tbl []) okG_nil _ _ _ ?_
 simp only[go_sem,Try.ntmps23]
 refine post_resO (.inl rfl) [.tmp 4] rfl (fun _ h=>h) ?_
 simp only[go_sem]
 exact Le.refl _
noncomputable def srtP (L:List (Elm 3)):List (Elm 2):=srtE cfQ (L.map plE)
theorem srtP_perm(L:List (Elm 3)):(srtP L).Perm (L.map plE):=srtE_perm _ _
theorem srtP_ok{L:List (Elm 3)}{m:Nat}(hL:L.length<=1000000)(h:PgOk L)(h1:1<=m)(h2:m<=1000000):sOk (srtP L) m:=by
 refine⟨by rw[(srtP_perm L).length_eq,List.length_map];exact hL,h1,h2,fun j hj=>?_⟩
 have hm:(srtP L).getD j default∈L.map plE:=by
  rw[List.getD_eq_getElem?_getD,List.getElem?_eq_getElem hj]
  exact(srtP_perm L).mem_iff.1 (List.getElem_mem hj)
 obtain⟨x,hx,he⟩:=List.mem_map.1 hm
 have:=(h.1 x hx).2.2.2.1
 unfold pi
 rw[← he]
 show x.1.getD 1 0<=1000000
 omega
def runsWR(ds:List D)(v:AV):Prop:=∃(L:List (Elm 3)) (m:Nat),L.length<=1000000/\PgOk L/\1<=m/\m<=1000000/\ds=[.sl (some 3) (L.map Elm.d),.int .i64 m]/\v=.tup [.dat (.sl (some 3) ((rnsL (srtP L) m).map (runD (srtP L)))),.dat (.int .i64 0)]
abbrev tabRW:List (Nat×Contract):=[(12,dataC chkWR),(17,dataC atR),(18,lentC (sortER 2 19 cfQ)),(23,madeC rnR),(22,lentC colR)]
theorem tabRW_ok:OkG Try.prog (tbl tabRW):=okG_cons wcheck_ok (okG_cons at_ok (okG_cons sortQ_ok (okG_cons runs_ok (okG_cons collect_ok okG_nil))))
theorem wruns_ok:OkF Try.prog 10 (dataC runsWR):=by
 refine okF_data Try.func10 rfl (by decide) ?_
 rintro ds v ⟨L,m,hL,hok,h1,h2,rfl,rfl⟩
 have hm:¬(m:Int)<1:=by omega
 have hl:(L.map Elm.d).length=L.length:=List.length_map _
 refine sem_of_awpK [7,13] (Γ:=tbl tabRW) tabRW_ok _ _ _ ?_
 simp only[go_sem,Try.ntmps10]
 refine call_data chkWR (by simp) _ _ rfl ⟨L,hL,hok,rfl,rfl⟩ (.inl rfl) ?_
 simp only[go_sem,hm,eq_self,decide_true,decide_false]
 refine sem_le (le_addnil 7 (some 2) rfl (Nat.zero_le _)) ?_
 refine sem_of_awpK [13] (Γ:=tbl tabRW) tabRW_ok _ _ _ ?_
 simp only[go_sem,hl]
 refine sem_loop (fun k:Nat=>⟨slotsOf 35 [(0,.dat (.sl (some 3) (L.map Elm.d))),(1,.dat (.int .i64 m)),(7,.sl 0 0 ((L.take k).map plE).length),(17,.dat (.sl (some 3) (L.map Elm.d))),(18,.dat (.int .i64 L.length)),(19,.dat (.int .i64 k))],
  [.row (some 2) (((L.take k).map plE).map Elm.d)],0,[]⟩) (fun k=>k<=L.length) (fun k=>L.length - k) 0 (Nat.zero_le _) ?_ ?_
 ·simp only[List.take_zero,List.map_nil,List.length_nil]
  exact le_slots' (by simp only[go_sem,Int.natCast_zero])
 intro k hk
 refine sem_of_awpK [13] (Γ:=tbl tabRW) tabRW_ok _ _ _ ?_
 rcases Nat.lt_or_ge k L.length with hlt|hge
 ·have k1:(k:Int)<L.length:=by omega
  have k2:(0:Int)<=k:=by omega
  have hnth:=nth_elm hlt
  have htk:(L.take (k+1)).map plE=(L.take k).map plE++[plE L[k]]:=by rw[List.take_succ_eq_append_getElem hlt,List.map_append];rfl
  have hAl:((L.take k).map plE).length<=1000000:=by rw[List.length_map,List.length_take];omega
  generalize hA2:(L.take (k+1)).map plE=A2 at *
  generalize (L.take k).map plE=A at *
  generalize L[k]=x at *
  have r1:(A.map Elm.d).length=A.length:=List.length_map _
  have r2:List.take A.length (A.map Elm.d)=A.map Elm.d:=List.take_of_length_le (by rw[r1];exact Nat.le_refl _)
  have r3:A.map Elm.d++[.agg [.int .i64 (x.1.getD 0 0),.int .i64 (x.1.getD 1 0)]]=A2.map Elm.d:=by rw[htk,List.map_append];rfl
  have r4:A.length+1=A2.length:=by rw[htk,List.length_append];rfl
  simp only[go_sem,k1,k2,hl,hnth,Int.toNat_natCast,Elm.d3,decide_true]
  refine call_data atR (by simp) _ _ rfl ⟨x,by rw[Elm.d3],rfl⟩ (.inl rfl) ?_
  simp only[go_sem,plD,r1,r2,r3,r4]
  refine⟨by omega,by omega,inR_i64.2 (by omega),k+1,by omega,by omega,?_⟩
  have r5:(L.take (k+1)).length=A2.length:=by rw[← hA2,List.length_map]
  simp only[hA2]
  refine le_end (own:=[_]) (ex:=[_,_]) (Nat.zero_le _) ?_ ?_ ?_
  ·simp only[go_sem,r5,Int.natCast_add,Int.cast_ofNat_Int]
  ·simp only[go_sem]
  ·simp only[go_sem,Obj.under,AV.unders,AV.under]
 obtain rfl:k=L.length:=by omega
 have k1:¬(L.length:Int)<L.length:=by omega
 have hsok:=srtP_ok hL hok h1 h2
 simp only[go_sem,k1,hl,List.take_length,decide_false]
 have e1:AV.sl 0 0 L.length=AV.sl 0 0 (L.map plE).length:=by rw[List.length_map]
 have hPl:(L.map plE).length<=1000000:=by rw[List.length_map];exact hL
 rw[e1]
 refine call_lent (sortER 2 19 cfQ) (by simp) [0] ⟨L.map plE,hPl,rfl,rfl,rfl,rfl,rfl,rfl⟩ (by decide) (by simp) rfl rfl rfl (by simp only[go_sem,AV.unders,AV.under]) (by simp only[List.mem_singleton,forall_eq];trivial) (fun j hj=>by
  obtain rfl:j=0:=by simp at hj;exact hj
  rfl) ?_
 simp only[go_sem]
 have hlen:((srtE cfQ (L.map plE)).map Elm.d).length=L.length:=by rw[List.length_map,srtE_len,List.length_map]
 have htk:List.take L.length ((srtE cfQ (L.map plE)).map Elm.d)=(srtE cfQ (L.map plE)).map Elm.d:=List.take_of_length_le (by rw[hlen];exact Nat.le_refl _)
 refine sem_le (le_freeze 0 (ag:=some 2) (xs:=(srtE cfQ (L.map plE)).map Elm.d) rfl (Nat.zero_le _)) ?_
 refine sem_of_awp (Γ:=tbl tabRW) tabRW_ok _ _ _ ?_
 simp only[go_sem,hlen,htk,List.drop_zero,Nat.le_refl,if_true]
 refine call_made rnR (by simp) _ _ _ rfl rfl ⟨srtP L,m,rfl,rfl,rfl⟩ ?_
 simp only[go_sem,AV.shift,Obj.shift,AV.shifts]
 refine call_lent colR (by simp) [1,2] ⟨srtP L,m,hsok,rfl,rfl,rfl,rfl,rfl,rfl⟩ (by decide) (by simp) rfl rfl rfl (by simp only[go_sem,AV.unders,AV.under]) (by simp only[List.mem_cons,List.not_mem_nil,or_false,forall_eq_or_imp,forall_eq];trivial) (fun j hj=>by
  have:j=0∨j=1:=by simp at hj;omega
  rcases this with rfl|rfl <;> rfl) ?_
 have he:emb [1,2] 3 3=4:=rfl
 have hR1:((rnsL (srtP L) m).map (runD (srtP L))).length=(rnsL (srtP L) m).length:=List.length_map _
 have hR2:List.take (rnsL (srtP L) m).length ((rnsL (srtP L) m).map (runD (srtP L)))=(rnsL (srtP L) m).map (runD (srtP L)):=List.take_of_length_le (by rw[hR1];exact Nat.le_refl _)
 simp only[go_sem,he]
 refine post_res (.inl rfl) [.tmp 4,.tmp 5] rfl ?_
 simp only[go_sem]
 refine Le.trans (le_freeze 4 (ag:=some 3) (xs:=(rnsL (srtP L) m).map (runD (srtP L))) rfl (Nat.zero_le _)) ?_
 simp only[go_sem,hR1,hR2,List.drop_zero,Nat.le_refl,if_true]
 exact le_fin (by simp only[go_sem]) (by simp only[go_sem])
end Go.AM
namespace Go.AM
open Go Go.Proofs Go.Sort Go.Shelf
abbrev Pl:=Int×Int
def inRg(f i c:Int)(p:Pl):Bool:=decide (p.1=f) && decide (i<=p.2) && decide (p.2<i+c)
def clnF(f i c:Int)(x:FR):FR:=if inRg f i c (plc x) then x.clean else x
def dpl(l:List FR):List Pl:=(l.filter (·.d)).map plc
theorem dpl_len(l:List FR):(dpl l).length=cntF l:=by unfold dpl cntF;rw[List.length_map]
theorem dpl_cln(f i c:Int):∀l:List FR,dpl (l.map (clnF f i c))=(dpl l).filter fun p=>!inRg f i c p
 | []=>rfl
 | x :: l=>by
  have ih:=dpl_cln f i c l
  unfold dpl at ih ⊢
  rw[List.map_cons,List.filter_cons,List.filter_cons]
  unfold clnF at ih ⊢
  by_cases h:inRg f i c (plc x)=true
  ·rw[if_pos h]
   cases hd:x.d with
   | true =>
    rw[if_neg (by simp[FR.clean]),if_pos rfl,List.map_cons,List.filter_cons_of_neg (by simp[h])]
    exact ih
   | false =>
    rw[if_neg (by simp[FR.clean]),if_neg (by simp)]
    exact ih
  ·have h':inRg f i c (plc x)=false:=by simpa using h
   rw[if_neg h]
   cases hd:x.d with
   | true =>
    rw[if_pos rfl,if_pos rfl,List.map_cons,List.map_cons,List.filter_cons_of_pos (by simp[h'])]
    rw[ih]
   | false =>
    rw[if_neg (by simp),if_neg (by simp)]
    exact ih
def plOf(x:Elm 2):Pl:=(x.1.getD 0 0,x.1.getD 1 0)
def plS(S:List (Elm 2)):List Pl:=S.map plOf
theorem plS_get{S:List (Elm 2)}{j:Nat}(h:j<(plS S).length):(plS S)[j]=(pf S j,pi S j):=by
 have h':j<S.length:=by unfold plS at h;rwa [List.length_map]at h
 have e:S.getD j default=S[j]:=by rw[List.getD_eq_getElem?_getD,List.getElem?_eq_getElem h'];rfl
 have h1:(plS S)[j]?=some (pf S j,pi S j):=by
  unfold plS pf pi
  rw[List.getElem?_map,List.getElem?_eq_getElem h',e]
  rfl
 rw[List.getElem?_eq_getElem h]at h1
 exact Option.some.inj h1
theorem plS_len(S:List (Elm 2)):(plS S).length=S.length:=by unfold plS;rw[List.length_map]
theorem plS_perm{F:List FR}{n:Nat}(h:FInv n F):(plS (srtP (pgs F))).Perm (dpl F):=by
 have h1:(plS (srtP (pgs F))).Perm (((pgs F).map plE).map plOf):=(srtP_perm _).map _
 have e:((pgs F).map plE).map plOf=dpl F:=by
  unfold pgs dpl
  rw[List.map_map,List.map_map]
  apply List.map_congr_left
  intro y hy
  have hok:=h.2.1 y (List.mem_filter.1 hy).1
  show ((pgE y).1.getD 0 0,(pgE y).1.getD 1 0)=plc y
  rw[pgE_val hok]
  rfl
 rwa [e]at h1
theorem dpl_nodup{F:List FR}(h:(F.map plc).Nodup):(dpl F).Nodup:=h.sublist ((List.filter_sublist).map plc)
theorem run_clean{S:List (Elm 2)}{i c:Nat}(hnd:(plS S).Nodup)(h3:i+c<=S.length)(h4:∀k,k<c->goOn S i k=true) :
  ((plS S).drop i).filter (fun p=>!inRg (pf S i) (pi S i) c p)=(plS S).drop (i+c):=by
 have hsp:(plS S).drop i=((plS S).drop i).take c++(plS S).drop (i+c):=by
  rw[← List.drop_drop,List.take_append_drop]
 rw[hsp,List.filter_append]
 have hrun:∀k,k<c->pf S (i+k)=pf S i/\pi S (i+k)=pi S i+k:=fun k hk=>by
  have:=h4 k hk
  simpa [goOn] using this
 have e1:(((plS S).drop i).take c).filter (fun p=>!inRg (pf S i) (pi S i) c p)=[]:=by
  rw[List.filter_eq_nil_iff]
  intro p hp
  obtain⟨j,hj,rfl⟩:=List.getElem_of_mem hp
  rw[List.length_take,List.length_drop,plS_len]at hj
  rw[List.getElem_take,List.getElem_drop,plS_get]
  have hjc:j<c:=(Nat.lt_min.1 hj).1
  obtain⟨q1,q2⟩:=hrun j hjc
  rw[q1,q2]
  clear q1 q2 hj
  have:inRg (pf S i) (pi S i) c (pf S i,pi S i+j)=true:=by
   have a1:pi S i<=pi S i+(j:Int):=by omega
   have a2:pi S i+(j:Int)<pi S i+(c:Int):=by omega
   simp only[inRg,Bool.and_eq_true,decide_eq_true_eq]
   exact⟨⟨trivial,a1⟩,a2⟩
  simp[this]
 have e2:((plS S).drop (i+c)).filter (fun p=>!inRg (pf S i) (pi S i) c p)=(plS S).drop (i+c):=by
  rw[List.filter_eq_self]
  intro p hp
  obtain⟨j,hj,rfl⟩:=List.getElem_of_mem hp
  rw[List.length_drop,plS_len]at hj
  have hlt:i+c+j<(plS S).length:=by rw[plS_len];omega
  rw[List.getElem_drop]
  cases hin:inRg (pf S i) (pi S i) c ((plS S)[i+c+j]'hlt) with
  | false=>rfl
  | true =>
   exfalso
   rw[plS_get hlt]at hin
   simp only[inRg,Bool.and_eq_true,decide_eq_true_eq]at hin
   obtain⟨⟨a1,a2⟩,a3⟩:=hin
   obtain⟨k,hk⟩:∃k:Nat,pi S (i+c+j)=pi S i+k:=⟨(pi S (i+c+j) - pi S i).toNat,by omega⟩
   have hkc:k<c:=by omega
   obtain⟨q1,q2⟩:=hrun k hkc
   have hlt2:i+k<(plS S).length:=by rw[plS_len];omega
   have:=(List.pairwise_iff_getElem.1 hnd) (i+k) (i+c+j) hlt2 hlt (by omega)
   rw[plS_get hlt2,plS_get hlt]at this
   exact this (Prod.ext (by rw[q1,a1]) (by rw[q2,hk]))
 rw[e1,e2,List.nil_append]
theorem cln_step{G:List FR}{S:List (Elm 2)}{i c:Nat}(hnd:(plS S).Nodup)(h3:i+c<=S.length)(h4:∀k,k<c->goOn S i k=true)(hp:(dpl G).Perm ((plS S).drop i)) :
  (dpl (G.map (clnF (pf S i) (pi S i) c))).Perm ((plS S).drop (i+c)):=by
 rw[dpl_cln,← run_clean hnd h3 h4]
 exact hp.filter _
def clnK(f i c:Int)(G:List FR)(j:Nat):List FR:=(G.take j).map (clnF f i c)++G.drop j
theorem clnK_len(f i c:Int)(G:List FR){j:Nat}(h:j<=G.length):(clnK f i c G j).length=G.length:=by
 unfold clnK;rw[List.length_append,List.length_map,List.length_take,List.length_drop];omega
theorem clnK_zero(f i c:Int)(G:List FR):clnK f i c G 0=G:=by simp[clnK]
theorem clnK_all(f i c:Int)(G:List FR):clnK f i c G G.length=G.map (clnF f i c):=by simp[clnK]
theorem clnK_get(f i c:Int)(G:List FR){j:Nat}(h:j<G.length):(clnK f i c G j).getD j default=G[j]:=by
 unfold clnK
 rw[List.getD_eq_getElem?_getD,List.getElem?_append_right (by simp;omega),List.getElem?_drop]
 simp[Nat.min_eq_left (Nat.le_of_lt h),List.getElem?_eq_getElem h]
theorem clnK_succ(f i c:Int)(G:List FR){j:Nat}(h:j<G.length):clnK f i c G (j+1)=(clnK f i c G j).set j (clnF f i c G[j]):=by
 unfold clnK
 rw[List.take_succ_eq_append_getElem h,List.map_append,List.drop_eq_getElem_cons h]
 have hl:((G.take j).map (clnF f i c)).length=j:=by rw[List.length_map,List.length_take];omega
 rw[List.set_append_right _ _ (by rw[hl];exact Nat.le_refl _),hl,Nat.sub_self,List.append_assoc]
 rfl
end Go.AM
namespace Go.AM
open Go Go.Proofs Go.Sort
def frD(x:FR):D:=.agg [.int .i64 4,.int .i64 0,.int .i64 0,.int .i64 0,.int .i64 x.f,.int .i64 x.i,.int .i64 0,.int .i64 0,.int .i64 0,.int .i64 x.s,.bool x.d,.bool false,.bool false,.int .i64 0,.sl none [],.sl none []]
theorem nth_frD{l:List FR}{i:Nat}(h:i<l.length):D.nth (l.map frD) i=frD (l.getD i default):=D.nth_map h
def countsR(ds:List D)(v:AV):Prop:=∃x:FR,ds=[frD x]/\v=.dat (.bool x.d)
theorem counts_ok:OkF Try.prog 16 (dataC countsR):=by
 refine okF_data Try.func16 rfl (by decide) ?_
 rintro ds v ⟨⟨f,i,s,d⟩,rfl,rfl⟩
 refine sem_of_awp (Γ:=tbl []) okG_nil _ _ _ ?_
 cases d
 ·simp only[go_sem,Try.ntmps16,frD]
  exact post_data (.inl rfl) [2] rfl trivial rfl
 ·simp only[go_sem,Try.ntmps16,frD]
  exact post_data (.inl rfl) [2] rfl trivial rfl
abbrev frO(l:List FR):Obj:=.row (some 16) (l.map frD)
def countR(xs:List AV)(obs:List Obj)(v0:AV)(obs' ex:List Obj)(mv0:List Nat):Prop:=∃l:List FR,l.length<=1000000/\xs=[.sl 0 0 l.length]/\obs=[frO l]/\v0=.dat (.int .i64 (cntF l))/\obs'=[frO l]/\ex=[]/\mv0=[]
theorem cntF_take{l:List FR}{k:Nat}(h:k<l.length):cntF (l.take (k+1))=cntF (l.take k)+if (l.getD k default).d then 1 else 0:=by
 unfold cntF
 rw[List.take_succ_eq_append_getElem h,List.filter_append,List.length_append,List.getD_eq_getElem?_getD,List.getElem?_eq_getElem h]
 simp only[Option.getD_some,List.filter_cons,List.filter_nil]
 split <;> rfl
theorem cntF_le(l:List FR)(k:Nat):cntF (l.take k)<=k:=by
 unfold cntF
 refine Nat.le_trans (List.length_filter_le _ _) ?_
 rw[List.length_take];omega
abbrev tabCN:List (Nat×Contract):=[(16,dataC countsR)]
theorem tabCN_ok:OkG Try.prog (tbl tabCN):=okG_cons counts_ok okG_nil
theorem count_ok:OkF Try.prog 8 (lentC countR):=by
 refine okF_lent Try.func8 rfl (by decide) ?_
 rintro xs obs v0 obs' ex mv0 ⟨l,hl,rfl,rfl,rfl,rfl,rfl,rfl⟩
 refine sem_of_awp (Γ:=tbl tabCN) tabCN_ok _ _ _ ?_
 have hll:(l.map frD).length=l.length:=List.length_map _
 simp only[go_sem,Try.ntmps8]
 refine sem_loop (fun k:Nat=>⟨slotsOf 19 [(0,.sl 0 0 l.length),(3,.dat (.int .i64 (cntF (l.take k)))),(6,.dat (.int .i64 l.length)),(7,.dat (.int .i64 k))],[frO l],1,[]⟩)
  (fun k=>k<=l.length) (fun k=>l.length - k) 0 (Nat.zero_le _) ?_ ?_
 ·have c0:cntF ([]:List FR)=0:=rfl
  exact le_slots' (by simp only[go_sem,Int.natCast_zero,List.take_zero,c0])
 intro k hk
 refine sem_of_awp (Γ:=tbl tabCN) tabCN_ok _ _ _ ?_
 rcases Nat.lt_or_ge k l.length with hlt|hge
 ·have k1:(k:Int)<l.length:=by omega
  have k2:(0:Int)<=k:=by omega
  have hct:=cntF_take hlt
  have hcl:=cntF_le l k
  have hnx:=nth_frD hlt
  simp only[go_sem,k1,k2,hll,hnx,hlt,Int.toNat_natCast,decide_true]
  refine call_data countsR (by simp) _ _ rfl ⟨_,rfl,rfl⟩ (.inl rfl) ?_
  cases hd:(l.getD k default).d with
  | true =>
   rw[hd,if_pos rfl]at hct
   simp only[go_sem]
   refine⟨inR_i64.2 (by omega),inR_i64.2 (by omega),k+1,by omega,by omega,?_⟩
   rw[hct]
   exact le_slots' (by simp only[go_sem,Int.natCast_add,Int.cast_ofNat_Int])
  | false =>
   rw[hd,if_neg (by decide),Nat.add_zero]at hct
   simp only[go_sem]
   refine⟨inR_i64.2 (by omega),k+1,by omega,by omega,?_⟩
   rw[hct]
   exact le_slots' (by simp only[go_sem,Int.natCast_add,Int.cast_ofNat_Int])
 ·obtain rfl:k=l.length:=by omega
  have k1:¬(l.length:Int)<l.length:=by omega
  simp only[go_sem,k1,List.take_length,decide_false]
  refine post_resO (.inl rfl) [.tmp 2] rfl (fun _ h=>h) ?_
  simp only[go_sem]
  exact Le.refl _
def oldR(xs:List AV)(obs:List Obj)(v0:AV)(obs' ex:List Obj)(mv0:List Nat):Prop:=∃l:List FR,l.length<=1000000/\xs=[.sl 0 0 l.length]/\obs=[frO l]/\v0=.dat (.int .i64 (oldN l l.length))/\obs'=[frO l]/\ex=[]/\mv0=[]
theorem oldest_ok:OkF Try.prog 9 (lentC oldR):=by
 refine okF_lent Try.func9 rfl (by decide) ?_
 rintro xs obs v0 obs' ex mv0 ⟨l,hl,rfl,rfl,rfl,rfl,rfl,rfl⟩
 refine sem_of_awp (Γ:=tbl []) okG_nil _ _ _ ?_
 have hll:(l.map frD).length=l.length:=List.length_map _
 simp only[go_sem,Try.ntmps9]
 refine sem_loop (fun k:Nat=>⟨slotsOf 41 [(0,.sl 0 0 l.length),(3,.dat (.int .i64 (oldN l k))),(6,.sl 0 0 l.length),(7,.dat (.int .i64 l.length)),(8,.dat (.int .i64 k))],[frO l],1,[]⟩)
  (fun k=>k<=l.length) (fun k=>l.length - k) 0 (Nat.zero_le _) ?_ ?_
 ·exact le_slots' (by simp only[go_sem,Int.natCast_zero,oldN])
 intro k hk
 refine sem_of_awpK [6] (Γ:=tbl []) okG_nil _ _ _ ?_
 rcases Nat.lt_or_ge k l.length with hlt|hge
 ·have k1:(k:Int)<l.length:=by omega
  have k2:(0:Int)<=k:=by omega
  have hsp:=oldN_spec l k (by omega)
  have hon:oldN l (k+1)=if (l.getD k default).d=true/\(oldN l k<0∨(l.getD k default).s<(l.getD (oldN l k).toNat default).s) then (k:Int) else oldN l k:=rfl
  have hnx:=nth_frD hlt
  generalize l.getD k default=y at *
  obtain⟨f,i,s,d⟩:=y
  simp only at hon
  cases d with
  | false =>
   rw[if_neg (fun h=>by cases h.1)]at hon
   simp only[go_sem,k1,k2,hll,hnx,hlt,Int.toNat_natCast,decide_true,frD]
   refine⟨inR_i64.2 (by omega),k+1,by omega,by omega,?_⟩
   rw[hon]
   refine le_end (own:=[_]) (ex:=[_]) (Nat.le_refl _) ?_ ?_ ?_
   ·simp only[go_sem,Int.natCast_add,Int.cast_ofNat_Int]
   ·simp only[go_sem]
   ·simp only[go_sem,Obj.under,AV.unders,AV.under]
  | true =>
   simp only[go_sem,k1,k2,hll,hnx,hlt,Int.toNat_natCast,decide_true,frD]
   refine sem_drawX [] [] (pf:=[]) (mf:=[]) mixed okG_nil pureNo noMk (ones [0,1,2,3,4,5,6,7,8,9,10,11]) (by kernel_rfl) ?_
   rcases hsp with⟨h1,_⟩|⟨a,h1,h2,h3,_⟩
   ·rw[h1,if_pos ⟨rfl,.inl (by decide)⟩]at hon
    have h0:((-1:Int)<0)=True:=by simp
    rw[h1]
    simp only[go_sem,decide_true]
    refine⟨inR_i64.2 (by omega),k+1,by omega,by omega,?_⟩
    rw[hon]
    refine le_end (own:=[_]) (ex:=[_]) (Nat.le_refl _) ?_ ?_ ?_
    ·simp only[go_sem,Int.natCast_add,Int.cast_ofNat_Int]
    ·simp only[go_sem]
    ·simp only[go_sem,Obj.under,AV.unders,AV.under]
   ·have ha:a<l.length:=by omega
    have a0:¬(a:Int)<0:=by omega
    have a1:(0:Int)<=a:=by omega
    have a2:(a:Int)<l.length:=by omega
    have hny:=nth_frD ha
    rw[h1]
    rw[h1,Int.toNat_natCast]at hon
    by_cases hs:s<(l.getD a default).s
    ·rw[if_pos ⟨rfl,.inr hs⟩]at hon
     simp only[go_sem,a0,a1,a2,hll,hny,ha,hs,Int.toNat_natCast,decide_true,decide_false,frD]
     refine⟨inR_i64.2 (by omega),k+1,by omega,by omega,?_⟩
     rw[hon]
     refine le_end (own:=[_]) (ex:=[_]) (Nat.le_refl _) ?_ ?_ ?_
     ·simp only[go_sem,Int.natCast_add,Int.cast_ofNat_Int]
     ·simp only[go_sem]
     ·simp only[go_sem,Obj.under,AV.unders,AV.under]
    ·rw[if_neg (fun h=>h.2.elim (fun h=>by omega) hs)]at hon
     simp only[go_sem,a0,a1,a2,hll,hny,ha,hs,Int.toNat_natCast,decide_true,decide_false,frD]
     refine⟨inR_i64.2 (by omega),k+1,by omega,by omega,?_⟩
     rw[hon]
     refine le_end (own:=[_]) (ex:=[_]) (Nat.le_refl _) ?_ ?_ ?_
     ·simp only[go_sem,Int.natCast_add,Int.cast_ofNat_Int]
     ·simp only[go_sem]
     ·simp only[go_sem,Obj.under,AV.unders,AV.under]
 ·obtain rfl:k=l.length:=by omega
  have k1:¬(l.length:Int)<l.length:=by omega
  simp only[go_sem,k1,List.take_length,decide_false]
  refine post_resO (.inl rfl) [.tmp 2] rfl (fun _ h=>h) ?_
  simp only[go_sem]
  exact Le.refl _
end Go.AM

