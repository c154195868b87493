/- Own work over the model of the kit. -/
import Derived.Test.YtddnngfkgpbemaaD14
import Derived.Test.YtddnngfkgpbemaaD13
import Derived.Shelf.SlSortCmp.NoneTotal
import Derived.Test.YtddnngfkgpbemaaProg
import Derived.Test.YtddnngfkgpbemaaD5
set_option linter.constructorNameAsVariable false
set_option linter.unnecessarySimpa false
set_option linter.unusedSimpArgs false
set_option linter.unusedVariables false
set_option maxHeartbeats 4000000
set_option maxRecDepth 100000
namespace Go.AM
open Go Go.Proofs Go.Sort Go.Shelf
abbrev cfP:Elm 3->Elm 3->Int:=lexE 3 [2,0,1]
abbrev tabCP:List (Nat×Contract):=[(21,dataC cmpR3),(20,frzC (dataC orR))]
theorem tabCP_ok:OkG Try.prog (tbl tabCP):=okG_cons compare_ok (okG_cons (okF_frz or_ok) okG_nil)
theorem pureCP:PureFns (tbl tabCP) [21]:=by
 refine pure_of2 fun g C hm hg=>?_
 simp only[List.mem_cons,List.not_mem_nil,or_false,Prod.mk.injEq]at hm hg
 rcases hm with⟨_,rfl⟩|⟨h,rfl⟩
 ·exact .inl ⟨_,rfl⟩
 ·subst h;exact absurd hg (by decide)
theorem wcompare_ok:OkF Try.prog 15 (dataC (cmpER 3 cfP)):=by
 refine okF_data Try.func15 rfl (by decide) ?_
 rintro ds v ⟨x,y,rfl,rfl⟩
 have hor:=orV_lex x y
 generalize hV:cfP x y=V
 rw[show lexE 3 [2,0,1] x y=V from hV]at hor
 rw[Elm.d3,Elm.d3]
 refine sem_of_awp (Γ:=tbl tabCP) tabCP_ok _ _ _ ?_
 simp only[go_sem,Try.ntmps15]
 refine sem_drawX [] [] (pf:=[21]) (mf:=[]) mixed tabCP_ok pureCP noMk (ones [0,1,2,3,4,5,6,7,8,9,10,11,12,13,14,15,16,17]) (by kernel_rfl) ?_
 simp only[go_sem]
 refine call_data cmpR3 (by simp) _ _ rfl ⟨_,_,rfl,rfl⟩ (.inl rfl) ?_
 simp only[go_sem]
 refine call_data cmpR3 (by simp) _ _ rfl ⟨_,_,rfl,rfl⟩ (.inl rfl) ?_
 simp only[go_sem]
 refine call_data cmpR3 (by simp) _ _ rfl ⟨_,_,rfl,rfl⟩ (.inl rfl) ?_
 simp only[go_sem]
 refine call_frzdata orR (by simp) 2 rfl _ _ (by rfl) ⟨[_,_,_],by simp,rfl,rfl⟩ (.inr rfl) ?_
 simp only[go_sem,hor]
 exact post_data (.inl rfl) [4] rfl trivial rfl
def cloneER(ds:List D)(v:AV)(ob:List Obj):Prop:=∃L:List (Elm 3),L.length<=1000000/\ds=[.sl (some 3) (L.map Elm.d)]/\v=.sl 0 0 L.length/\ob=[.row (some 3) (L.map Elm.d)]
theorem cloneE_ok:OkF Try.prog 13 (madeC cloneER):=by
 refine okF_made Try.func13 rfl (by decide) ?_
 rintro ds v ob ⟨L,hl,rfl,rfl,rfl⟩
 refine sem_of_awpK [1] (Γ:=tbl []) okG_nil _ _ _ ?_
 simp only[go_sem,Try.ntmps13]
 refine sem_regionF (Γ:=tbl []) okG_nil ?_
 by_cases h:L=[]
 ·subst h
  refine .inr ?_
  simp only[go_sem,List.map_nil]
  refine .inl ⟨rfl,.inl rfl,⟨_,by simp[ev];rfl⟩,⟨36,by kernel_rfl⟩,?_⟩
  intro b
  cases b
  ·simp only[go_sem,awpOpsF]
   refine post_resO (.inl rfl) [.tmp 2] rfl (fun _ h=>h) ?_
   simp only[go_sem]
   exact Le.refl _
  ·simp only[go_sem,awpOpsF]
   refine post_resO (.inl rfl) [.tmp 2] rfl (fun _ h=>h) ?_
   simp only[go_sem]
   exact le_addnil 0 (some 3) rfl (Nat.zero_le _)
 ·have hn:L.map Elm.d≠[]:=by simpa using h
  have hll:(L.map Elm.d).length=L.length:=List.length_map _
  simp only[awpOpsF]
  refine .inr ?_
  simp only[go_sem]
  refine .inr ⟨hn,?_⟩
  refine⟨by omega,by omega,?_⟩
  refine post_resO (.inl rfl) [.tmp 2] rfl (fun _ h=>h) ?_
  simp only[go_sem]
  exact Le.refl _
end Go.AM
namespace Go.AM
open Go Go.Proofs Go.Sort Go.Shelf
def minE(L:List (Elm 3)):Nat->Elm 3
 | 0=>L.getD 0 default
 | k+1=>if cfP (L.getD (k+1) default) (minE L k)<0 then L.getD (k+1) default else minE L k
theorem nth_elmD{L:List (Elm 3)}{i:Nat}(h:i<L.length):D.nth (L.map Elm.d) i=(L.getD i default).d:=D.nth_map h
def elC(x:Elm 3):List AV:=[.dat (.int .i64 (x.1.getD 0 0)),.dat (.int .i64 (x.1.getD 1 0)),.dat (.int .i64 (x.1.getD 2 0))]
abbrev tabMN:List (Nat×Contract):=[(15,dataC (cmpER 3 cfP))]
theorem tabMN_ok:OkG Try.prog (tbl tabMN):=okG_cons wcompare_ok okG_nil
theorem makeMN{mf:List Nat}:MakeFns (tbl tabMN) mf:=made_of fun g C hm=>by
 simp only[List.mem_cons,List.not_mem_nil,or_false,Prod.mk.injEq]at hm
 obtain⟨_,rfl⟩:=hm
 exact .inl ⟨_,rfl⟩
def minLR(xs:List AV)(obs:List Obj)(v0:AV)(obs' ex:List Obj)(mv0:List Nat):Prop:=∃L:List (Elm 3),L≠[]/\L.length<=1000000/\xs=[.dat (.sl (some 3) (L.map Elm.d)),.fn 15 []]/\obs=[]/\v0=.dat (minE L (L.length - 1)).d/\obs'=[]/\ex=[]/\mv0=[]
theorem minFunc_ok:OkF Try.prog 25 (lentC minLR):=by
 refine okF_lent Try.func25 rfl (by decide) ?_
 rintro xs obs v0 obs' ex mv0 ⟨L,hn,hl,rfl,rfl,rfl,rfl,rfl,rfl⟩
 have h0:0<L.length:=List.length_pos_iff.2 hn
 have hll:(L.map Elm.d).length=L.length:=List.length_map _
 have h1:¬(L.length:Int)<1:=by omega
 have h2:(0:Int)<L.length:=by omega
 have hn0:=nth_elmD h0
 generalize hM:minE L (L.length - 1)=M
 refine sem_of_awp (Γ:=tbl tabMN) tabMN_ok _ _ _ ?_
 simp only[go_sem,Try.ntmps25,hll,h1,h2,hn0,Elm.d3,decide_false]
 refine sem_loop (fun j:Nat=>⟨slotsOf 33 [(0,.dat (.sl (some 3) (L.map Elm.d))),(1,.fn 15 []),(4,.ptr 0 0 0),(5,.ptr 1 0 0),(6,.dat (.int .i64 ((j:Int)+1)))],
  [.box [.dat (.int .i64 0),.dat (.int .i64 0),.dat (.int .i64 0)],.box (elC (minE L j))],0,[]⟩) (fun j=>j+1<=L.length) (fun j=>L.length - j) 0 (by omega) ?_ ?_
 ·exact le_slots' (by simp only[go_sem,Int.natCast_zero,Int.zero_add])
 intro j hj
 refine sem_of_awpK [7] (Γ:=tbl tabMN) tabMN_ok _ _ _ ?_
 have hms:minE L (j+1)=if cfP (L.getD (j+1) default) (minE L j)<0 then L.getD (j+1) default else minE L j:=rfl
 rcases Nat.lt_or_ge (j+1) L.length with hlt|hge
 ·have k1:(j:Int)+1<L.length:=by omega
  have k2:(0:Int)<=(j:Int)+1:=by omega
  have k3:((j:Int)+1).toNat=j+1:=by omega
  have hnx:=nth_elmD hlt
  generalize L.getD (j+1) default=x at *
  generalize minE L j=m at *
  simp only[go_sem,k1,hll,decide_true,elC]
  refine sem_drawX [] [] (pf:=[]) (mf:=[dynF]) mixed tabMN_ok pureNo makeMN (ones [0,1,2,3,4,5,6,7]) (by kernel_rfl) ?_
  simp only[go_sem,k1,k2,k3,hll,hnx,decide_true,Elm.d3]
  refine call_data (cmpER 3 cfP) (by simp) [x.d,m.d] _ (by rw[Elm.d3,Elm.d3];rfl) ⟨x,m,rfl,rfl⟩ (.inl rfl) ?_
  by_cases hc:cfP x m<0
  ·rw[if_pos hc]at hms
   simp only[go_sem,hc,k1,k2,k3,hll,hnx,decide_true,Elm.d3]
   refine⟨inR_i64.2 (by omega),j+1,hlt,by omega,?_⟩
   simp only[hms]
   exact le_slots' (by simp only[go_sem,Int.natCast_add,Int.cast_ofNat_Int])
  ·rw[if_neg hc]at hms
   simp only[go_sem,hc,decide_false]
   refine⟨inR_i64.2 (by omega),j+1,hlt,by omega,?_⟩
   simp only[hms]
   exact le_slots' (by simp only[go_sem,Int.natCast_add,Int.cast_ofNat_Int])
 ·have hje:L.length - 1=j:=by omega
  rw[hje]at hM
  have k1:¬(j:Int)+1<L.length:=by omega
  rw[hM]
  simp only[go_sem,k1,hll,decide_false,elC]
  refine post_resO (.inl rfl) [.cell 4 36] rfl (fun _ h=>h) ?_
  simp only[go_sem]
  exact Le.trans le_norm (le_end (own:=[]) (ex:=[_,_]) (Nat.zero_le _) (by simp only[go_sem]) (by simp only[go_sem]) (by simp only[go_sem]))
def eD(x:Elm 3):List D:=[.int .i64 (x.1.getD 0 0),.int .i64 (x.1.getD 1 0),.int .i64 (x.1.getD 2 0)]
def idxE:Nat->List (Elm 3)->Elm 3->Int
 | _,[],_=>-1
 | k,x :: r,y=>if D.flatEqs (eD y) (eD x) then k else idxE (k+1) r y
def idxER(ds:List D)(v:AV):Prop:=∃(L:List (Elm 3)) (y:Elm 3),L.length<=1000000/\ds=[.sl (some 3) (L.map Elm.d),y.d]/\v=.dat (.int .i64 (idxE 0 L y))
theorem eq00:eqOk Try.prog 36 (.dat (.agg [.int .i64 0,.int .i64 0,.int .i64 0])) (.dat (.agg [.int .i64 0,.int .i64 0,.int .i64 0]))=true:=by kernel_rfl
theorem eD_nums(x:Elm 3):numsD (eD x) [.int .i64 0,.int .i64 0,.int .i64 0]:=⟨rfl,x.inR 0,rfl,x.inR 1,rfl,x.inR 2,trivial⟩
theorem Elm.d3e(x:Elm 3):x.d=.agg (eD x):=x.d3
theorem indexE_ok:OkF Try.prog 24 (dataC idxER):=by
 refine okF_data Try.func24 rfl (by decide) ?_
 rintro ds v ⟨L,y,hl,rfl,rfl⟩
 have hll:(L.map Elm.d).length=L.length:=List.length_map _
 generalize hV:idxE 0 L y=V
 refine sem_of_awp (Γ:=tbl []) okG_nil _ _ _ ?_
 simp only[go_sem,Try.ntmps24,hll,Elm.d3]
 refine sem_loop (fun k:Nat=>⟨slotsOf 19 [(0,.dat (.sl (some 3) (L.map Elm.d))),(3,.rptr (some 3) (.agg (eD y))),(7,.dat (.int .i64 L.length)),(8,.dat (.int .i64 k))],
  [.dead],0,[]⟩) (fun k=>k<=L.length/\idxE k (L.drop k) y=V) (fun k=>L.length - k) 0 ⟨Nat.zero_le _,hV⟩ ?_ ?_
 ·refine Le.trans (le_freezeB 0 (ds:=eD y) rfl (Nat.zero_le _)) ?_
  exact le_slots' (by simp only[go_sem,Int.natCast_zero,eD])
 rintro k ⟨hk,hI⟩
 refine sem_of_awpK [4] (Γ:=tbl []) okG_nil _ _ _ ?_
 cases hd:L.drop k with
 | nil =>
  have:=end_of_drop hd hk
  have hk2:¬(k:Int)<L.length:=by omega
  rw[hd]at hI
  have hI0:V=-1:=hI.symm
  simp only[go_sem,hk2,hll,hI0]
  exact post_data (.inl rfl) [4] rfl trivial rfl
 | cons x q =>
  have hlt:=lt_of_drop hd
  have hk2:(k:Int)<L.length:=by omega
  have hk0:(0:Int)<=k:=Int.natCast_nonneg k
  have hn:D.nth (L.map Elm.d) k=x.d:=nth_of_drop hd
  rw[hd,idxE]at hI
  simp only[go_sem,hk2,hll]
  refine sem_drawX [] [] (pf:=[]) (mf:=[]) mixed okG_nil pureNo noMk (ones [0,1,2,3,4,5]) (by kernel_rfl) ?_
  simp only[go_sem,hk2,hk0,hll,hn,Elm.d3e,decide_true,bin_eql_agg eq00 (eD_nums y) (eD_nums x)]
  cases hb:D.flatEqs (eD y) (eD x) with
  | true =>
   rw[hb,if_pos rfl]at hI
   subst hI
   simp only[go_sem]
   exact post_data (.inl rfl) [4] rfl trivial rfl
  | false =>
   rw[hb,if_neg (by decide)]at hI
   simp only[go_sem]
   refine⟨inR_i64.2 (by omega),k+1,⟨by omega,by rw[drop_cons hd];exact hI⟩,by omega,?_⟩
   exact le_slots' (by simp only[go_sem,Int.natCast_add,Int.cast_ofNat_Int])
def nextWR(ds:List D)(v:AV):Prop:=∃L:List (Elm 3),L≠[]/\L.length<=1000000/\PgOk L/\ds=[.sl (some 3) (L.map Elm.d)]/\v=.dat (.int .i64 (idxE 0 L (minE L (L.length - 1))))
abbrev tabNW:List (Nat×Contract):=[(12,dataC chkWR),(25,lentC minLR),(24,dataC idxER)]
theorem tabNW_ok:OkG Try.prog (tbl tabNW):=okG_cons wcheck_ok (okG_cons minFunc_ok (okG_cons indexE_ok okG_nil))
theorem next_ok:OkF Try.prog 11 (dataC nextWR):=by
 refine okF_data Try.func11 rfl (by decide) ?_
 rintro ds v ⟨L,hn,hl,hok,rfl,rfl⟩
 have h0:0<L.length:=List.length_pos_iff.2 hn
 have hll:(L.map Elm.d).length=L.length:=List.length_map _
 have h1:¬(L.length:Int)=0:=by omega
 refine sem_of_awp (Γ:=tbl tabNW) tabNW_ok _ _ _ ?_
 simp only[go_sem,Try.ntmps11,hll,h1,decide_false]
 refine call_data chkWR (by simp) _ _ rfl ⟨L,hl,hok,rfl,rfl⟩ (.inl rfl) ?_
 simp only[go_sem,eq_self,decide_true]
 refine call_lent minLR (by simp) [] ⟨L,hn,hl,rfl,rfl,rfl,rfl,rfl,rfl⟩ (by simp) (by simp) rfl rfl rfl (by simp only[go_sem]) (by simp) (by simp) ?_
 simp only[go_sem]
 refine call_data idxER (by simp) _ _ rfl ⟨L,_,hl,rfl,rfl⟩ (.inl rfl) ?_
 simp only[go_sem]
 exact post_data (.inl rfl) [2] rfl trivial rfl
end Go.AM
namespace Go.AM
open Go Go.Proofs Go.Sort Go.Shelf
theorem sortE_ok{P:Program}{ρ:Ren}(L:SlLaysF0.n6 P ρ){k g:Nat}{fn:Func}{body:Code}(hk:0<k)(aE:∀w,(isAgg (ρ.t 24)).run P w=.ok true w)(zE:∀w,(Go.sizeOf (ρ.t 24)).run P w=.ok k w)
  (hf : P.funcs[ρ.f 6]? = some fn) (hb : fn.body = some body) (hname : fn.name ≠ "runtime.NumGoroutine") (cf : Elm k -> Elm k -> Int) (hO : SWO (ltOf cf)) (hT : ∀ x y, (ltOf cf) x y = false -> (ltOf cf) y x = false -> x = y)
  (eg:∀args w,(callFunc g args).run P w=.ok (.enter g args) w) (hcmp:OkF P g (dataC (cmpER k cf))):OkF P (ρ.f 6) (lentC (sortER k g cf)) :=
 sortE_of hk hf hb hname cf hcmp
  (fun blk off cap d w hl hH hblk hsz=>AnyQ.slices_SortFunc_total L k aE zE Elm.enc Elm.enc_len Elm.enc_one cf hO g #[] blk off cap d w eg hl hH hblk hsz hT)
  (fun p cap fv w=>AnyF.slices_SortFunc_none L p cap fv w)
end Go.AM
namespace Go.AM
open Go Go.Proofs Go.Shelf
def rSP:Ren where
 f:=fun x=>match x with
  | 6=>14
  | 15=>28
  | 14=>27
  | 28=>41
  | 29=>42
  | 20=>33
  | 21=>34
  | 22=>35
  | 23=>36
  | 24=>37
  | 25=>38
  | 26=>39
  | 27=>40
  | 46=>51
  | 47=>52
  | 48=>53
  | 49=>54
  | 50=>55
  | 57=>59
  | n=>n
 t:=fun x=>match x with
  | 22=>25
  | 24=>36
  | 25=>51
  | 3=>3
  | 39=>71
  | 0=>0
  | 53=>86
  | 55=>88
  | 4=>4
  | 46=>79
  | 45=>78
  | 50=>83
  | 5=>5
  | 9=>9
  | 66=>94
  | 70=>98
  | 76=>102
  | 77=>103
  | n=>n
 g:=fun x=>match x with
  | n=>n
theorem laysSP:SlLaysF0.n6 Try.prog rSP where
 mixed:=by kernel_rfl
 f6:=⟨Try.f14.name,by decide,Eq.trans Try.func14 (congrArg some (by kernel_rfl))⟩
 f14:=⟨Try.f27.name,by decide,Eq.trans Try.func27 (congrArg some (by kernel_rfl))⟩
 f15:=Eq.trans Try.func28 (congrArg some (by kernel_rfl))
 f20:=⟨Try.f33.name,by decide,Eq.trans Try.func33 (congrArg some (by kernel_rfl))⟩
 f21:=⟨Try.f34.name,by decide,Eq.trans Try.func34 (congrArg some (by kernel_rfl))⟩
 f22:=⟨Try.f35.name,by decide,Eq.trans Try.func35 (congrArg some (by kernel_rfl))⟩
 f23:=⟨Try.f36.name,by decide,Eq.trans Try.func36 (congrArg some (by kernel_rfl))⟩
 f24:=⟨Try.f37.name,by decide,Eq.trans Try.func37 (congrArg some (by kernel_rfl))⟩
 f25:=⟨Try.f38.name,by decide,Eq.trans Try.func38 (congrArg some (by kernel_rfl))⟩
 f26:=⟨Try.f39.name,by decide,Eq.trans Try.func39 (congrArg some (by kernel_rfl))⟩
 f27:=⟨Try.f40.name,by decide,Eq.trans Try.func40 (congrArg some (by kernel_rfl))⟩
 f28:=Eq.trans Try.func41 (congrArg some (by kernel_rfl))
 f29:=Eq.trans Try.func42 (congrArg some (by kernel_rfl))
 f46:=⟨Try.f51.name,by decide,Eq.trans Try.func51 (congrArg some (by kernel_rfl))⟩
 f47:=Eq.trans Try.func52 (congrArg some (by kernel_rfl))
 f48:=Eq.trans Try.func53 (congrArg some (by kernel_rfl))
 f49:=⟨Try.f54.name,by decide,Eq.trans Try.func54 (congrArg some (by kernel_rfl))⟩
 f50:=⟨Try.f55.name,by decide,Eq.trans Try.func55 (congrArg some (by kernel_rfl))⟩
 f57:=⟨Try.f59.name,by decide,Eq.trans Try.func59 (congrArg some (by kernel_rfl))⟩
 t0:=Try.underlying0
 a0:=Try.isAgg0
 z0:=Try.sizeOf0
 v0:=Try.zeroValue0
 t3:=Try.underlying3
 a3:=Try.isAgg3
 z3:=Try.sizeOf3
 v3:=Try.zeroValue3
 t4:=Try.underlying4
 a4:=Try.isAgg4
 z4:=Try.sizeOf4
 v4:=Try.zeroValue4
 t5:=Try.underlying5
 a5:=Try.isAgg5
 z5:=Try.sizeOf5
 v5:=Try.zeroValue5
 t9:=Try.underlying9
 a9:=Try.isAgg9
 z9:=Try.sizeOf9
 v9:=Try.zeroValue9
 t22:=Try.underlying25
 a22:=Try.isAgg25
 z22:=Try.sizeOf25
 v22:=Try.zeroValue25
 t25:=Try.underlying51
 a25:=Try.isAgg51
 z25:=Try.sizeOf51
 v25:=Try.zeroValue51
 t39:=Try.underlying71
 a39:=Try.isAgg71
 z39:=Try.sizeOf71
 v39:=Try.zeroValue71
 t45:=Try.underlying78
 a45:=Try.isAgg78
 z45:=Try.sizeOf78
 v45:=Try.zeroValue78
 t46:=Try.underlying79
 a46:=Try.isAgg79
 z46:=Try.sizeOf79
 v46:=Try.zeroValue79
 t50:=Try.underlying83
 a50:=Try.isAgg83
 z50:=Try.sizeOf83
 v50:=Try.zeroValue83
 t53:=Try.underlying86
 a53:=Try.isAgg86
 z53:=Try.sizeOf86
 v53:=Try.zeroValue86
 t55:=Try.underlying88
 a55:=Try.isAgg88
 z55:=Try.sizeOf88
 v55:=Try.zeroValue88
 t66:=Try.underlying94
 a66:=Try.isAgg94
 z66:=Try.sizeOf94
 v66:=Try.zeroValue94
 t70:=Try.underlying98
 a70:=Try.isAgg98
 z70:=Try.sizeOf98
 v70:=Try.zeroValue98
 t76:=Try.underlying102
 a76:=Try.isAgg102
 z76:=Try.sizeOf102
 v76:=Try.zeroValue102
 t77:=Try.underlying103
 a77:=Try.isAgg103
 z77:=Try.sizeOf103
 v77:=Try.zeroValue103
end Go.AM
namespace Go.AM
open Go Go.Proofs Go.Sort Go.Shelf
theorem sortP_ok:OkF Try.prog 14 (lentC (sortER 3 15 cfP)) :=
 sortE_ok laysSP (by decide) (fun w=>by rfl) (fun w=>by rfl) Try.func14 rfl (by decide) cfP (lexE_swo 3 [2,0,1])
  (lexE_total (fun p hp=>by
   have:p=0∨p=1∨p=2:=by omega
   rcases this with rfl|rfl|rfl <;> simp)) (fun args w=>by rfl) wcompare_ok
def ordWR(ds:List D)(v:AV):Prop:=∃L:List (Elm 3),L.length<=1000000/\PgOk L/\ds=[.sl (some 3) (L.map Elm.d)]/\v=.tup [.dat (.sl (some 3) ((srtE cfP L).map Elm.d)),.dat (.int .i64 0)]
abbrev tabOW:List (Nat×Contract):=[(12,dataC chkWR),(13,madeC cloneER),(14,lentC (sortER 3 15 cfP))]
theorem tabOW_ok:OkG Try.prog (tbl tabOW):=okG_cons wcheck_ok (okG_cons cloneE_ok (okG_cons sortP_ok okG_nil))
theorem order_ok:OkF Try.prog 7 (dataC ordWR):=by
 refine okF_data Try.func7 rfl (by decide) ?_
 rintro ds v ⟨L,hL,hok,rfl,rfl⟩
 refine sem_of_awp (Γ:=tbl tabOW) tabOW_ok _ _ _ ?_
 simp only[go_sem,Try.ntmps7]
 refine call_data chkWR (by simp) _ _ rfl ⟨L,hL,hok,rfl,rfl⟩ (.inl rfl) ?_
 simp only[go_sem,eq_self,decide_true]
 refine call_made cloneER (by simp) _ _ _ rfl rfl ⟨L,hL,rfl,rfl,rfl⟩ ?_
 simp only[go_sem,AV.shift,Obj.shift,AV.shifts]
 refine call_lent (sortER 3 15 cfP) (by simp) [0] ⟨L,hL,rfl,rfl,rfl,rfl,rfl,rfl⟩ (by decide) (by simp) rfl rfl rfl (by simp only[go_sem,AV.unders,AV.under]) (by simp only[List.mem_singleton,forall_eq];trivial) (fun j hj=>by
  obtain rfl:j=0:=by simp at hj;exact hj
  rfl) ?_
 simp only[go_sem]
 have hlen:((srtE cfP L).map Elm.d).length=L.length:=by rw[List.length_map,srtE_len]
 have htk:List.take L.length ((srtE cfP L).map Elm.d)=(srtE cfP L).map Elm.d:=List.take_of_length_le (by rw[hlen];exact Nat.le_refl _)
 refine post_res (.inl rfl) [.tmp 2,.tmp 3] rfl ?_
 simp only[go_sem]
 refine Le.trans (le_freeze 0 (ag:=some 3) (xs:=(srtE cfP L).map Elm.d) rfl (Nat.zero_le _)) ?_
 simp only[go_sem,hlen,htk,List.drop_zero,Nat.le_refl,if_true]
 exact le_fin (by simp only[go_sem]) (by simp only[go_sem])
end Go.AM
namespace Go.AM
open Go Go.Proofs Go.Sort Go.Shelf
def pA:Elm 3:=⟨[0,0,5],rfl,by simp only[List.mem_cons,List.not_mem_nil,or_false,forall_eq_or_imp,forall_eq];exact⟨inR_i64.2 (by decide),inR_i64.2 (by decide),inR_i64.2 (by decide)⟩⟩
def pB:Elm 3:=⟨[0,1,3],rfl,by simp only[List.mem_cons,List.not_mem_nil,or_false,forall_eq_or_imp,forall_eq];exact⟨inR_i64.2 (by decide),inR_i64.2 (by decide),inR_i64.2 (by decide)⟩⟩
theorem pAB_ok:PgOk [pA,pB]:=by
 refine⟨fun x hx=>?_,by decide⟩
 simp only[List.mem_cons,List.not_mem_nil,or_false]at hx
 rcases hx with rfl|rfl <;> decide
theorem srt_AB:∃x y:Elm 3,srtE cfP [pA,pB]=[x,y]/\x.1.getD 2 0=3:=by
 obtain⟨h1,h2⟩:=srt_times (k:=3) (p:=2) (ps:=[0,1]) [pA,pB]
 have hl:(srtE cfP [pA,pB]).length=2:=srtE_len _ _
 match hs:srtE cfP [pA,pB],hl with
 | [x,y],_ =>
  refine⟨x,y,rfl,?_⟩
  have e:srtE (lexE 3 (2 :: [0,1])) [pA,pB]=[x,y]:=hs
  rw[e]at h1 h2
  have h3:x.1.getD 2 0<=y.1.getD 2 0:=by simpa using h1
  have h4:[x.1.getD 2 0,y.1.getD 2 0].Perm [5,3]:=h2
  have m1:x.1.getD 2 0∈[(5:Int),3]:=h4.mem_iff.1 (by simp)
  simp only[List.mem_cons,List.not_mem_nil,or_false]at m1
  rcases m1 with m1|m1
  ·rw[m1]at h4 h3
   have:=h4.cons_inv
   have m2:y.1.getD 2 0∈[(3:Int)]:=this.mem_iff.1 (by simp)
   simp only[List.mem_cons,List.not_mem_nil,or_false]at m2
   omega
  ·exact m1
theorem nth_z{a:D}{r:List D}:D.nth (a :: r) 0=a:=rfl
theorem idx_AB:idxE 0 [pA,pB] (minE [pA,pB] 1)=1:=by decide
def fAB:List FR:=[⟨0,0,5,true⟩,⟨0,1,3,true⟩]
abbrev tabAW16:List (Nat×Contract):=[(7,dataC ordWR),(11,dataC nextWR),(9,lentC oldR),(8,lentC countR)]
theorem tabAW16_ok:OkG Try.prog (tbl tabAW16):=okG_cons order_ok (okG_cons next_ok (okG_cons oldest_ok (okG_cons count_ok okG_nil)))
def aw16R(ds:List D)(v:AV):Prop:=ds=[]/\v=.dat (.bool true)
theorem awake16_ok:OkF Try.prog 5 (dataC aw16R):=by
 refine okF_data Try.func5 rfl (by decide) ?_
 rintro ds v ⟨rfl,rfl⟩
 obtain⟨x,y,hs,hx⟩:=srt_AB
 refine sem_of_awpK [2] (Γ:=tbl tabAW16) tabAW16_ok _ _ _ ?_
 simp only[go_sem,Try.ntmps5]
 refine sem_le (le_freeze 0 (ag:=some 3) rfl (Nat.zero_le _)) ?_
 refine sem_of_awp (Γ:=tbl tabAW16) tabAW16_ok _ _ _ ?_
 simp only[go_sem]
 refine call_data ordWR (by simp) [.sl (some 3) ([pA,pB].map Elm.d)] (.tup [.dat (.sl (some 3) ((srtE cfP [pA,pB]).map Elm.d)),.dat (.int .i64 0)]) (by rfl) ⟨[pA,pB],by decide,pAB_ok,rfl,rfl⟩ (.inl rfl) ?_
 rw[hs]
 simp only[go_sem,List.map_cons,List.map_nil,Elm.d3,nth_z,hx,eq_self,decide_true]
 refine call_data nextWR (by simp) [.sl (some 3) ([pA,pB].map Elm.d)] _ rfl ⟨[pA,pB],by simp,by decide,pAB_ok,rfl,rfl⟩ (.inl rfl) ?_
 simp only[go_sem,idx_AB,eq_self,decide_true]
 refine call_lent oldR (by simp) [1] ⟨fAB,by decide,rfl,rfl,rfl,rfl,rfl,rfl⟩ (by decide) (by simp) rfl rfl rfl (by simp only[go_sem,AV.unders,AV.under]) (by simp only[List.mem_singleton,forall_eq];trivial) (fun j hj=>by
  obtain rfl:j=0:=by simp at hj;exact hj
  rfl) ?_
 simp only[go_sem,show oldN fAB fAB.length=1 by decide,eq_self,decide_true]
 refine call_lent countR (by simp) [1] ⟨fAB,by decide,rfl,rfl,rfl,rfl,rfl,rfl⟩ (by decide) (by simp) rfl rfl rfl (by simp only[go_sem,AV.unders,AV.under]) (by simp only[List.mem_singleton,forall_eq];trivial) (fun j hj=>by
  obtain rfl:j=0:=by simp at hj;exact hj
  rfl) ?_
 simp only[go_sem,show cntF fAB=2 by decide,Int.cast_ofNat_Int,eq_self,decide_true]
 exact post_data (.inl rfl) [0] rfl trivial rfl
end Go.AM
namespace Go.AM
open Go Go.Proofs Go.Sort Go.Shelf
abbrev tabOF:List (Nat×Contract):=[(5,dataC aw16R),(6,madeC dfR),(7,dataC ordWR),(8,lentC countR),(9,lentC oldR)]
theorem tabOF_ok:OkG Try.prog (tbl tabOF):=okG_cons awake16_ok (okG_cons dirtyFrames_ok (okG_cons order_ok (okG_cons count_ok (okG_cons oldest_ok okG_nil))))
def law15R(ds:List D)(v:AV):Prop:=∃l:List SK,l.length<9223372036854775808/\(∀x∈l,x.ok)/\ds=[.sl (some 4) (l.map skD)]/\v=.dat (.bool true)
theorem law15_ok:OkF Try.prog 3 (dataC law15R):=by
 refine okF_data Try.func3 rfl (by decide) ?_
 rintro ds v ⟨l,hlen,hok,rfl,rfl⟩
 have hll:(l.map skD).length=l.length:=List.length_map _
 refine sem_of_awpK [4,11] (Γ:=tbl tabOF) tabOF_ok _ _ _ ?_
 simp only[go_sem,Try.ntmps3]
 refine call_data aw16R (by simp) _ _ rfl ⟨rfl,rfl⟩ (.inl rfl) ?_
 by_cases h60:60<l.length
 ·have h60':(60:Int)<l.length:=by omega
  simp only[go_sem,hll,h60',decide_true]
  refine call_data aw16R (by simp) _ _ rfl ⟨rfl,rfl⟩ (.inl rfl) ?_
  simp only[go_sem]
  exact post_data (.inl rfl) [2] rfl trivial rfl
 have h60':¬(60:Int)<l.length:=by omega
 simp only[go_sem,hll,h60',decide_false]
 refine call_made dfR (by simp) _ _ _ rfl rfl ⟨l,by omega,hok,rfl,rfl,rfl⟩ ?_
 simp only[go_sem,AV.shift,Obj.shift,AV.shifts]
 have hinv:=frs_inv l hok
 have hpok:=pgs_ok hinv
 have htm:=pgs_times hinv
 have hpl:=pgs_len (frs l)
 have hFl:(frs l).length<=60:=by have:=hinv.1;omega
 have hcl:cntF (frs l)<=60:=Nat.le_trans (List.length_filter_le _ _) hFl
 generalize frs l=F at *
 have hst:=srt_times (k:=3) (p:=2) (ps:=[0,1]) (pgs F)
 have hsl:(srtE cfP (pgs F)).length=(pgs F).length:=srtE_len _ _
 change ((srtE cfP (pgs F)).map _).Pairwise _/\((srtE cfP (pgs F)).map _).Perm _ at hst
 rw[htm]at hst
 have s1:((pgs F).map Elm.d).length=(pgs F).length:=List.length_map _
 have s2:List.take (pgs F).length ((pgs F).map Elm.d)=(pgs F).map Elm.d:=List.take_of_length_le (by rw[s1];exact Nat.le_refl _)
 have hpl6:(pgs F).length<=1000000:=by omega
 refine sem_le (le_freeze 2 (ag:=some 3) rfl (Nat.zero_le _)) ?_
 refine sem_of_awpK [11] (Γ:=tbl tabOF) tabOF_ok _ _ _ ?_
 simp only[go_sem,s1,s2,List.drop_zero,Nat.le_refl,if_true]
 refine call_data ordWR (by simp) _ _ rfl ⟨pgs F,hpl6,hpok,rfl,rfl⟩ (.inl rfl) ?_
 generalize srtE cfP (pgs F)=S at *
 have s3:(S.map Elm.d).length=S.length:=List.length_map _
 simp only[go_sem,s1,s3,hsl,eq_self,decide_true]
 refine call_lent countR (by simp) [1] ⟨F,by omega,rfl,rfl,rfl,rfl,rfl,rfl⟩ (by decide) (by simp) rfl rfl rfl (by simp only[go_sem,AV.unders,AV.under]) (by simp only[List.mem_singleton,forall_eq];trivial) (fun j hj=>by
  obtain rfl:j=0:=by simp at hj;exact hj
  rfl) ?_
 simp only[go_sem,s1,s3,hsl,← hpl,eq_self,decide_true]
 have hSN:S.length=(pgs F).length:=hsl
 generalize (pgs F).length=N at *
 refine sem_loop (fun p:List FR×Nat=>⟨slotsOf 87 [(3,.sl 1 0 p.1.length),(5,.dat (.sl (some 3) (S.map Elm.d))),(44,.dat (.int .i64 N)),(45,.dat (.int .i64 p.2))],[.dead,frO p.1,.dead],0,[]⟩)
  (fun p=>p.2<=N/\p.1.length<=60/\(timesF p.1).Perm ((S.map fun x=>x.1.getD 2 0).drop p.2)) (fun p=>N - p.2) (F,0) ⟨Nat.zero_le _,hFl,hst.2.symm⟩ ?_ ?_
 ·exact le_slots' (by simp only[go_sem,Int.natCast_zero])
 have hpw:=hst.1
 clear hst hinv hpok htm hFl hcl s1 s2
 rintro ⟨G,k⟩ ⟨hk,hGl,hperm⟩
 simp only at hk hGl hperm ⊢
 have hmx:(G.map frD).length=G.length:=List.length_map _
 refine sem_of_awpK [11] (Γ:=tbl tabOF) tabOF_ok _ _ _ ?_
 rcases Nat.lt_or_ge k N with hlt|hge
 ·have k1:(k:Int)<N:=by omega
  have k2:(0:Int)<=k:=by omega
  have hkS:k<S.length:=by omega
  have hdrop:(S.map fun x=>x.1.getD 2 0).drop k=S[k].1.getD 2 0 :: (S.map fun x=>x.1.getD 2 0).drop (k+1):=by
   rw[List.drop_eq_getElem_cons (by rw[List.length_map];exact hkS),List.getElem_map]
  rw[hdrop]at hperm
  have hle:∀y∈(S.map fun x=>x.1.getD 2 0).drop (k+1),S[k].1.getD 2 0<=y:=by
   have:=hpw.sublist (List.drop_sublist k _)
   rw[hdrop]at this
   exact(List.pairwise_cons.1 this).1
  obtain⟨a,ha1,ha2,ha3,ha4,ha5⟩:=old_step hperm hle
  have hnS:=nth_elm hkS
  have hny:=nth_frD ha2
  have a0:¬(a:Int)<0:=by omega
  have a1:(0:Int)<=a:=by omega
  have a2:(a:Int)<G.length:=by omega
  have a3:¬(G.length:Int)<=a:=by omega
  simp only[go_sem,k1,decide_true]
  refine call_lent oldR (by simp) [1] ⟨G,by omega,rfl,rfl,rfl,rfl,rfl,rfl⟩ (by decide) (by simp) rfl rfl rfl (by simp only[go_sem,AV.unders,AV.under]) (by simp only[List.mem_singleton,forall_eq];trivial) (fun j hj=>by
   obtain rfl:j=0:=by simp at hj;exact hj
   rfl) ?_
  rw[ha1]
  generalize hG2:G.set a (G.getD a default).clean=G2 at *
  have hl2:G.length=G2.length:=by rw[← hG2,List.length_set]
  have hset:(G.map frD).set a (frD (G.getD a default).clean)=G2.map frD:=by rw[← hG2,List.map_set]
  generalize G.getD a default=y at *
  obtain⟨f,i,s,d⟩:=y
  simp only[FR.clean]at ha3 ha4 hset
  subst ha3
  have hset':(G.map frD).set a (.agg [.int .i64 4,.int .i64 0,.int .i64 0,.int .i64 0,.int .i64 f,.int .i64 i,.int .i64 0,.int .i64 0,.int .i64 0,.int .i64 s,.bool false,.bool false,.bool false,.int .i64 0,.sl none [],.sl none []])=G2.map frD:=hset
  generalize hx:S[k]=x at *
  simp only[go_sem]
  refine sem_drawX [] [] (pf:=[]) (mf:=[]) mixed tabOF_ok pureNo noMk (ones [0,1,2,3,4,5,6,7,8,9,10,11,12,13,14,15,16,17,18,19,20,21,22,23,24,25,26,27,28]) (by kernel_rfl) ?_
  simp only[go_sem,k1,k2,a0,a1,a2,a3,ha2,hmx,hny,frD,s3,hSN,hnS,Elm.d3,← ha4,Int.toNat_natCast,eq_self,decide_true,decide_false]
  refine⟨inR_i64.2 (by omega),(G2,k+1),⟨by simp only;omega,by simp only;omega,ha5⟩,by simp only;omega,?_⟩
  rw[hset']
  simp only[← hl2]
  exact le_slots' (by simp only[go_sem,Int.natCast_add,Int.cast_ofNat_Int])
 ·obtain rfl:k=N:=by omega
  have k1:¬(k:Int)<k:=by omega
  have h0:timesF G=[]:=by
   have:(S.map fun x=>x.1.getD 2 0).drop k=[]:=List.drop_eq_nil_of_le (by rw[List.length_map];omega)
   rw[this]at hperm
   exact hperm.eq_nil
  have he:=old_end h0
  simp only[go_sem,k1,decide_false]
  refine call_lent oldR (by simp) [1] ⟨G,by omega,rfl,rfl,rfl,rfl,rfl,rfl⟩ (by decide) (by simp) rfl rfl rfl (by simp only[go_sem,AV.unders,AV.under]) (by simp only[List.mem_singleton,forall_eq];trivial) (fun j hj=>by
   obtain rfl:j=0:=by simp at hj;exact hj
   rfl) ?_
  rw[he]
  simp only[go_sem,eq_self,decide_true]
  exact post_data (.inl rfl) [2] rfl trivial rfl
end Go.AM
namespace Go.AM
open Go Go.Proofs
abbrev byteD(a:Nat):D:=.int .u8 (a:Int)
end Go.AM
namespace Go.AM
open Go Go.Proofs
theorem wantSK:wantT Try.prog 48=some 4:=by kernel_rfl
theorem skarg1{m:Nat}{d:D}(h:argT Try.prog (m+3) 48 d):∃x:SK,d=skD x/\x.ok:=by
 obtain⟨ds,rfl,hf⟩:=arg_fields (ts:=[5,5,5,4]) (by kernel_rfl) h
 obtain⟨a,r,rfl,ha,hf⟩:=hf
 obtain⟨b,r,rfl,hb,hf⟩:=hf
 obtain⟨c,r,rfl,hc,hf⟩:=hf
 obtain⟨e,r,rfl,he,rfl⟩:=hf
 rw[dataT_int (k:=.u8) (by kernel_rfl)]at ha hb hc
 rw[dataT_bool (by kernel_rfl)]at he
 obtain⟨a,rfl,ha⟩:=ha
 obtain⟨b,rfl,hb⟩:=hb
 obtain⟨c,rfl,hc⟩:=hc
 obtain⟨e,rfl⟩:=he
 have h1:=inR_u8.1 ha;have h2:=inR_u8.1 hb;have h3:=inR_u8.1 hc
 refine⟨⟨a,b,c,e⟩,rfl,?_⟩
 unfold SK.ok
 simp only
 omega
theorem sks_arg{m:Nat}{d:D}(h:argT Try.prog (m+5) 22 d):∃l:List SK,(∀x∈l,x.ok)/\l.length<9223372036854775808/\d=.sl (some 4) (l.map skD):=by
 obtain⟨xs,rfl,hl,hx⟩:=arg_slice (e:=48) (by kernel_rfl) h
 rw[wantSK]
 obtain⟨L,rfl,hL⟩:=list_of skD (Q:=SK.ok) (fun x hx'=>skarg1 (hx x hx'))
 refine⟨L,hL,?_,rfl⟩
 rw[List.length_map]at hl
 simp only[maxLen]at hl
 omega
end Go.AM

