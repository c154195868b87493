/- Own work over the model of the kit. -/
import Derived.Test.YtddnngfkgpbemaaE14
import Derived.Test.YtddnngfkgpbemaaProg
import Derived.Shelf.SlSortCmp.NoneTotal
import Derived.Test.YtddnngfkgpbemaaE5
import Derived.Test.YtddnngfkgpbemaaE13
set_option linter.constructorNameAsVariable false
set_option linter.unnecessarySimpa false
set_option linter.unusedSimpArgs false
set_option linter.unusedVariables false
set_option maxHeartbeats 4000000
set_option maxRecDepth 100000
namespace Go.AM
private theorem eqk {α:Sort _} {a b:α} (h:a=b):a=b:=Eq.trans h (Eq.refl _)
open Go Go.Proofs Go.Sort
def seenB(acc:List FR):List AV:=(List.range 64).map fun j=>.dat (.bool (frHas acc ((j / 16:Nat):Int) ((j % 16:Nat):Int)))
theorem seenB_len(acc:List FR):(seenB acc).length=64:=by simp[seenB]
theorem seenB_get{acc:List FR}{a b:Nat}(ha:a<4)(hb:b<16):(seenB acc).getD (a*16+b) .top=.dat (.bool (frHas acc (a:Int) (b:Int))):=by
 have h:a*16+b<64:=by omega
 unfold seenB
 rw[List.getD_eq_getElem?_getD,List.getElem?_map,List.getElem?_range h]
 simp only[Option.map_some,Option.getD_some]
 rw[show (a*16+b) / 16=a by omega,show (a*16+b) % 16=b by omega]
theorem frHas_snoc(acc:List FR)(x:FR)(f i:Int):frHas (acc++[x]) f i=(frHas acc f i || (decide (x.f=f) && decide (x.i=i))):=by simp[frHas]
theorem seenB_set{acc:List FR}{x:FR}{a b:Nat}(ha:a<4)(hb:b<16)(h1:x.f=a)(h2:x.i=b):(seenB acc).set (a*16+b) (.dat (.bool true))=seenB (acc++[x]):=by
 apply List.ext_getElem
 ·simp[seenB]
 intro j h3 h4
 rw[List.length_set,seenB_len]at h3
 rw[List.getElem_set]
 unfold seenB
 simp only[List.getElem_map,List.getElem_range,frHas_snoc,h1,h2]
 by_cases e:a*16+b=j
 ·subst e
  rw[if_pos rfl,show (a*16+b) / 16=a by omega,show (a*16+b) % 16=b by omega]
  simp
 ·rw[if_neg e]
  have:¬((a:Int)=((j / 16:Nat):Int)/\(b:Int)=((j % 16:Nat):Int)):=by omega
  rw[← Bool.decide_and,decide_eq_false this,Bool.or_false]
theorem z46:T46.zero=some (.agg (Array.replicate 64 (.bool false))):=eqk (by kernel_rfl)
theorem z46c:(Value.agg (Array.replicate 64 (.bool false))).cells.toList.map constAV0=seenB []:=by kernel_rfl
theorem alloc46{own:List Obj}{K:AV->List Obj->List Nat->Prop}:allocw Try.prog 46 own K=K (.ptr own.length 0 0) (own++[.box (seenB [])]) []:=by
 unfold allocw
 rw[ty46]
 simp only[T46_arr,z46]
 rw[eq_true (show ((Value.agg (Array.replicate 64 (.bool false))).cells.toList.all (·.oneCell'))=true by kernel_rfl),true_and]
 unfold newVarW varObj
 rw[if_neg (show ¬bldZ (Value.agg (Array.replicate 64 (.bool false)))=true by rw[show bldZ (Value.agg (Array.replicate 64 (.bool false)))=false by kernel_rfl];decide),z46c]
attribute [go_sem ↓ high] alloc46
theorem bin_rem8{P:Program}{t:TypeId}{a b:Int}{K:AV->Prop}:binTop P .rem t (.dat (.int .u8 a)) (.dat (.int .u8 b)) K=(b≠0/\inR .u8 (a.tmod b)/\K (.dat (.int .u8 (a.tmod b)))):=by simp[binTop,eqOk,eqTy,binw,intw,fitw,isSigned]
noncomputable abbrev pgO (l:List FR):Obj:=.row (some 3) ((pgs l).map Elm.d)
theorem pgs_snoc(acc:List FR)(x:FR):pgs (acc++[x])=pgs acc++if x.d then [pgE x] else []:=by
 unfold pgs
 rw[List.filter_append,List.map_append,List.filter_cons]
 cases x.d <;> rfl
def dfR(ds:List D)(v:AV)(ob:List Obj):Prop:=∃l:List SK,l.length<=1000000/\(∀x∈l,x.ok)/\ds=[.sl (some 4) (l.map skD)]/\v=.tup [.sl 1 0 (frs l).length,.sl 2 0 (pgs (frs l)).length]/\ob=[.dead,frO (frs l),pgO (frs l)]
theorem seenB_under(n:Nat)(acc:List FR):AV.unders n (seenB acc):=by
 unfold seenB
 have:∀(l:List Nat),AV.unders n (l.map fun j=>AV.dat (.bool (frHas acc ((j / 16:Nat):Int) ((j % 16:Nat):Int)))):=fun l=>by
  induction l with
  | nil=>simp only[List.map_nil,AV.unders]
  | cons a r ih=>simp only[List.map_cons,AV.unders,AV.under,true_and];exact ih
 exact this _
@[go_sem] theorem seenB_kills (o:Nat) (acc:List FR):AV.kills o (seenB acc)=seenB acc:=by
 unfold seenB
 have:∀(l:List Nat),AV.kills o (l.map fun j=>AV.dat (.bool (frHas acc ((j / 16:Nat):Int) ((j % 16:Nat):Int))))=l.map fun j=>AV.dat (.bool (frHas acc ((j / 16:Nat):Int) ((j % 16:Nat):Int))):=fun l=>by
  induction l with
  | nil=>rfl
  | cons a r ih=>simp only[List.map_cons,AV.kills,AV.kill];rw[ih]
 exact this _
theorem nth_skD{l:List SK}{i:Nat}(h:i<l.length):D.nth (l.map skD) i=skD l[i]:=by
 show (l.map skD).getD i default=_
 rw[List.getD_eq_getElem?_getD,List.getElem?_map,List.getElem?_eq_getElem h]
 rfl
theorem dirtyFrames_ok:OkF Try.prog 6 (madeC dfR):=by
 refine okF_made Try.func6 rfl (by decide) ?_
 rintro ds v ob ⟨l,hl,hok,rfl,rfl,rfl⟩
 refine sem_of_awpK [4] (Γ:=tbl []) okG_nil _ _ _ ?_
 have hll:(l.map skD).length=l.length:=List.length_map _
 simp only[go_sem,Try.ntmps6]
 refine sem_le (le_addnil 4 (some 16) rfl (Nat.zero_le _)) ?_
 refine sem_le (le_addnil 5 (some 3) rfl (Nat.zero_le _)) ?_
 refine sem_of_awp (Γ:=tbl []) okG_nil _ _ _ ?_
 simp only[go_sem,hll]
 refine sem_loop (fun k:Nat=>⟨slotsOf 61 [(0,.dat (.sl (some 4) (l.map skD))),(4,.sl 1 0 (frs (l.take k)).length),(5,.sl 2 0 (pgs (frs (l.take k))).length),(6,.ptr 0 0 0),(11,.dat (.sl (some 4) (l.map skD))),(12,.dat (.int .i64 l.length)),(13,.dat (.int .i64 k))],
  [.box (seenB (frs (l.take k))),frO (frs (l.take k)),pgO (frs (l.take k))],0,[]⟩)
  (fun k=>k<=l.length) (fun k=>l.length - k) 0 (Nat.zero_le _) ?_ ?_
 ·have f0:frs []=[]:=rfl
  have p0:pgs []=[]:=rfl
  simp only[List.take_zero,f0,p0]
  exact le_slots' (by simp only[go_sem,Int.natCast_zero,List.length_nil])
 intro k hk
 refine sem_of_awpK [7,10] (Γ:=tbl []) okG_nil _ _ _ ?_
 rcases Nat.lt_or_ge k l.length with hlt|hge
 ·have k1:(k:Int)<l.length:=by omega
  have k2:(0:Int)<=k:=by omega
  have hnx:=nth_skD hlt
  have hfs:=frs_take hlt
  have hxo:=hok _ (List.getElem_mem hlt)
  have hinv:=frs_inv (l.take k) fun y hy=>hok y (List.mem_of_mem_take hy)
  have hinv2:=frs_inv (l.take (k+1)) fun y hy=>hok y (List.mem_of_mem_take hy)
  have hlen:(frs (l.take k)).length<=1000000:=by have:=hinv.1;rw[List.length_take]at this;omega
  have hplen:(pgs (frs (l.take k))).length<=1000000:=by
   rw[pgs_len];exact Nat.le_trans (List.length_filter_le _ _) hlen
  generalize l[k]=x at *
  rw[hfs]at hinv2
  generalize frs (l.take k)=acc at *
  obtain⟨f,i,s,c⟩:=x
  obtain⟨o1,o2,o3,o4,o5,o6⟩:=hxo
  simp only at o1 o2 o3 o4 o5 o6
  have t1:f.tmod 4=f % 4:=Int.tmod_eq_emod_of_nonneg o1
  have t2:i.tmod 16=i % 16:=Int.tmod_eq_emod_of_nonneg o3
  obtain⟨a,ha,ha4⟩:∃a:Nat,f % 4=a/\a<4:=⟨(f % 4).toNat,by omega,by omega⟩
  obtain⟨b,hb,hb4⟩:∃b:Nat,i % 16=b/\b<16:=⟨(i % 16).toNat,by omega,by omega⟩
  simp only[go_sem,k1,k2,hll,hnx,Int.toNat_natCast,decide_true,skD]
  refine sem_drawX [] [] (pf:=[]) (mf:=[]) mixed okG_nil pureNo noMk (ones [0,1,2,3,4,5,6,7,8,9]) (by kernel_rfl) ?_
  have hsl:=seenB_len acc
  have hsg:=seenB_get (acc:=acc) ha4 hb4
  have hx1:(skF ⟨f,i,s,c⟩).f=a:=ha
  have hx2:(skF ⟨f,i,s,c⟩).i=b:=hb
  have hst:=seenB_set (acc:=acc) ha4 hb4 hx1 hx2
  have hfr:frD (skF ⟨f,i,s,c⟩)=.agg [.int .i64 4,.int .i64 0,.int .i64 0,.int .i64 0,.int .i64 a,.int .i64 b,.int .i64 0,.int .i64 0,.int .i64 0,.int .i64 s,.bool (!c),.bool false,.bool false,.int .i64 0,.sl none [],.sl none []]:=by
   rw[← ha,← hb];rfl
  have hpe:(pgE (skF ⟨f,i,s,c⟩)).d=.agg [.int .i64 a,.int .i64 b,.int .i64 s]:=by
   rw[pgE_d (skF_ok ⟨o1,o2,o3,o4,o5,o6⟩),hx1,hx2];rfl
  have q1:inR .u8 (a:Int):=inR_u8.2 (by omega)
  have q2:inR .i64 (a:Int):=inR_i64.2 (by omega)
  have q3:inR .u8 (b:Int):=inR_u8.2 (by omega)
  have q4:inR .i64 (b:Int):=inR_i64.2 (by omega)
  have q5:(a:Int)<4:=by omega
  have q6:(b:Int)<16:=by omega
  have q7:a*16+b<64:=by omega
  have q8:inR .i64 s:=inR_i64.2 (by omega)
  simp only[go_sem,t1,t2,ha,hb,bin_rem8,q1,q2,q3,q4,q5,q6,hsl,q7,hsg]
  have hfs':frStep acc ⟨f,i,s,c⟩=if frHas acc a b then acc else acc++[skF ⟨f,i,s,c⟩]:=by unfold frStep;simp only[ha,hb]
  cases hh:frHas acc a b with
  | true =>
   rw[hh,if_pos rfl]at hfs'
   rw[hfs']at hfs
   simp only[go_sem]
   refine⟨inR_i64.2 (by omega),k+1,by omega,by omega,?_⟩
   rw[hfs]
   refine le_end (own:=[_,_,_]) (ex:=[_]) (Nat.zero_le _) ?_ ?_ ?_
   ·simp only[go_sem,Int.natCast_add,Int.cast_ofNat_Int]
   ·simp only[go_sem]
   ·simp only[go_sem,Obj.under,AV.unders,AV.under,seenB_under]
  | false =>
   rw[hh,if_neg (by decide)]at hfs'
   rw[hfs']at hfs
   have r1:(acc.map frD).length=acc.length:=List.length_map _
   have r2:List.take acc.length (acc.map frD)=acc.map frD:=List.take_of_length_le (by rw[r1];exact Nat.le_refl _)
   have r3:acc.map frD++[frD (skF ⟨f,i,s,c⟩)]=(acc++[skF ⟨f,i,s,c⟩]).map frD:=by rw[List.map_append];rfl
   have r4:acc.length+1=(acc++[skF ⟨f,i,s,c⟩]).length:=by rw[List.length_append];rfl
   rw[hfr]at r3
   have s1:((pgs acc).map Elm.d).length=(pgs acc).length:=List.length_map _
   have s2:List.take (pgs acc).length ((pgs acc).map Elm.d)=(pgs acc).map Elm.d:=List.take_of_length_le (by rw[s1];exact Nat.le_refl _)
   have hpg:=pgs_snoc acc (skF ⟨f,i,s,c⟩)
   generalize hA2:acc++[skF ⟨f,i,s,c⟩]=acc2 at *
   simp only[go_sem,hsl,q7,q5,q6,hst]
   refine⟨by omega,?_⟩
   refine sem_cut 10 okG_nil ?_
   simp only[go_sem,q8]
   refine⟨_,le_normAt 43 rfl,?_⟩
   simp only[go_sem,AV.norm,r1,r2,r3,r4]
   refine⟨⟨_,rfl,rfl⟩,fun d hd=>by (rw[List.mem_singleton]at hd;subst hd;exact⟨rfl,rfl⟩),by omega,by omega,?_⟩
   cases c with
   | true =>
    have hpg':pgs acc2=pgs acc:=by rw[hpg];exact List.append_nil _
    simp only[go_sem,Bool.not_true]
    refine⟨inR_i64.2 (by omega),k+1,by omega,by omega,?_⟩
    have ho:pgO acc2=pgO acc:=by unfold pgO;rw[hpg']
    rw[hfs,hpg',ho]
    refine le_end (own:=[_,_,_]) (ex:=[_,_]) (Nat.zero_le _) ?_ ?_ ?_
    ·simp only[go_sem,Int.natCast_add,Int.cast_ofNat_Int]
    ·simp only[go_sem]
    ·simp only[go_sem,Obj.under,AV.unders,AV.under,seenB_under]
   | false =>
    have hpg':pgs acc2=pgs acc++[pgE (skF ⟨f,i,s,false⟩)]:=hpg
    have s3:(pgs acc).map Elm.d++[.agg [.int .i64 a,.int .i64 b,.int .i64 s]]=(pgs acc2).map Elm.d:=by rw[hpg',List.map_append,List.map_singleton,hpe]
    have s4:(pgs acc).length+1=(pgs acc2).length:=by rw[hpg',List.length_append];rfl
    simp only[go_sem,Bool.not_false,q8,s1,s2,s3,s4]
    refine⟨by omega,by omega,inR_i64.2 (by omega),k+1,by omega,by omega,?_⟩
    rw[hfs]
    refine le_end (own:=[_,_,_]) (ex:=[_,_,_]) (Nat.zero_le _) ?_ ?_ ?_
    ·simp only[go_sem,Int.natCast_add,Int.cast_ofNat_Int]
    ·simp only[go_sem]
    ·simp only[go_sem,Obj.under,AV.unders,AV.under,seenB_under]
 ·obtain rfl:k=l.length:=by omega
  have k1:¬(l.length:Int)<l.length:=by omega
  simp only[go_sem,k1,List.take_length,decide_false]
  refine post_resO (.inl rfl) [.tmp 2,.tmp 3] rfl (fun _ h=>h) ?_
  simp only[go_sem]
  exact le_dead 0
end Go.AM
namespace Go.AM
open Go Go.Proofs Go.Sort Go.Shelf
def minE(L:List (Elm 3)):Nat->Elm 3
 | 0=>L.getD 0 default
 | k+1=>if cfP (L.getD (k+1) default) (minE L k)<0 then L.getD (k+1) default else minE L k
theorem nth_elmD{L:List (Elm 3)}{i:Nat}(h:i<L.length):D.nth (L.map Elm.d) i=(L.getD i default).d:=D.nth_map h
def elC(x:Elm 3):List AV:=[.dat (.int .i64 (x.1.getD 0 0)),.dat (.int .i64 (x.1.getD 1 0)),.dat (.int .i64 (x.1.getD 2 0))]
abbrev tabMN:List (Nat×Contract):=[(15,dataC (cmpER 3 cfP))]
theorem tabMN_ok:OkG Try.prog (tbl tabMN):=okG_cons wcompare_ok okG_nil
theorem makeMN{mf:List Nat}:MakeFns (tbl tabMN) mf:=made_of fun g C hm=>by
 simp only[List.mem_cons,List.not_mem_nil,or_false,Prod.mk.injEq]at hm
 obtain⟨_,rfl⟩:=hm
 exact .inl ⟨_,rfl⟩
def minLR(xs:List AV)(obs:List Obj)(v0:AV)(obs' ex:List Obj)(mv0:List Nat):Prop:=∃L:List (Elm 3),L≠[]/\L.length<=1000000/\xs=[.dat (.sl (some 3) (L.map Elm.d)),.fn 15 []]/\obs=[]/\v0=.dat (minE L (L.length - 1)).d/\obs'=[]/\ex=[]/\mv0=[]
theorem minFunc_ok:OkF Try.prog 25 (lentC minLR):=by
 refine okF_lent Try.func25 rfl (by decide) ?_
 rintro xs obs v0 obs' ex mv0 ⟨L,hn,hl,rfl,rfl,rfl,rfl,rfl,rfl⟩
 have h0:0<L.length:=List.length_pos_iff.2 hn
 have hll:(L.map Elm.d).length=L.length:=List.length_map _
 have h1:¬(L.length:Int)<1:=by omega
 have h2:(0:Int)<L.length:=by omega
 have hn0:=nth_elmD h0
 generalize hM:minE L (L.length - 1)=M
 refine sem_of_awp (Γ:=tbl tabMN) tabMN_ok _ _ _ ?_
 simp only[go_sem,Try.ntmps25,hll,h1,h2,hn0,Elm.d3,decide_false]
 refine sem_loop (fun j:Nat=>⟨slotsOf 33 [(0,.dat (.sl (some 3) (L.map Elm.d))),(1,.fn 15 []),(4,.ptr 0 0 0),(5,.ptr 1 0 0),(6,.dat (.int .i64 ((j:Int)+1)))],
  [.box [.dat (.int .i64 0),.dat (.int .i64 0),.dat (.int .i64 0)],.box (elC (minE L j))],0,[]⟩) (fun j=>j+1<=L.length) (fun j=>L.length - j) 0 (by omega) ?_ ?_
 ·exact le_slots' (by simp only[go_sem,Int.natCast_zero,Int.zero_add])
 intro j hj
 refine sem_of_awpK [7] (Γ:=tbl tabMN) tabMN_ok _ _ _ ?_
 have hms:minE L (j+1)=if cfP (L.getD (j+1) default) (minE L j)<0 then L.getD (j+1) default else minE L j:=rfl
 rcases Nat.lt_or_ge (j+1) L.length with hlt|hge
 ·have k1:(j:Int)+1<L.length:=by omega
  have k2:(0:Int)<=(j:Int)+1:=by omega
  have k3:((j:Int)+1).toNat=j+1:=by omega
  have hnx:=nth_elmD hlt
  generalize L.getD (j+1) default=x at *
  generalize minE L j=m at *
  simp only[go_sem,k1,hll,decide_true,elC]
  refine sem_drawX [] [] (pf:=[]) (mf:=[dynF]) mixed tabMN_ok pureNo makeMN (ones [0,1,2,3,4,5,6,7]) (by kernel_rfl) ?_
  simp only[go_sem,k1,k2,k3,hll,hnx,decide_true,Elm.d3]
  refine call_data (cmpER 3 cfP) (by simp) [x.d,m.d] _ (by rw[Elm.d3,Elm.d3];rfl) ⟨x,m,rfl,rfl⟩ (.inl rfl) ?_
  by_cases hc:cfP x m<0
  ·rw[if_pos hc]at hms
   simp only[go_sem,hc,k1,k2,k3,hll,hnx,decide_true,Elm.d3]
   refine⟨inR_i64.2 (by omega),j+1,hlt,by omega,?_⟩
   simp only[hms]
   exact le_slots' (by simp only[go_sem,Int.natCast_add,Int.cast_ofNat_Int])
  ·rw[if_neg hc]at hms
   simp only[go_sem,hc,decide_false]
   refine⟨inR_i64.2 (by omega),j+1,hlt,by omega,?_⟩
   simp only[hms]
   exact le_slots' (by simp only[go_sem,Int.natCast_add,Int.cast_ofNat_Int])
 ·have hje:L.length - 1=j:=by omega
  rw[hje]at hM
  have k1:¬(j:Int)+1<L.length:=by omega
  rw[hM]
  simp only[go_sem,k1,hll,decide_false,elC]
  refine post_resO (.inl rfl) [.cell 4 36] rfl (fun _ h=>h) ?_
  simp only[go_sem]
  exact Le.trans le_norm (le_end (own:=[]) (ex:=[_,_]) (Nat.zero_le _) (by simp only[go_sem]) (by simp only[go_sem]) (by simp only[go_sem]))
def eD(x:Elm 3):List D:=[.int .i64 (x.1.getD 0 0),.int .i64 (x.1.getD 1 0),.int .i64 (x.1.getD 2 0)]
def idxE:Nat->List (Elm 3)->Elm 3->Int
 | _,[],_=>-1
 | k,x :: r,y=>if D.flatEqs (eD y) (eD x) then k else idxE (k+1) r y
def idxER(ds:List D)(v:AV):Prop:=∃(L:List (Elm 3)) (y:Elm 3),L.length<=1000000/\ds=[.sl (some 3) (L.map Elm.d),y.d]/\v=.dat (.int .i64 (idxE 0 L y))
theorem eq00:eqOk Try.prog 36 (.dat (.agg [.int .i64 0,.int .i64 0,.int .i64 0])) (.dat (.agg [.int .i64 0,.int .i64 0,.int .i64 0]))=true:=by kernel_rfl
theorem eD_nums(x:Elm 3):numsD (eD x) [.int .i64 0,.int .i64 0,.int .i64 0]:=⟨rfl,x.inR 0,rfl,x.inR 1,rfl,x.inR 2,trivial⟩
theorem Elm.d3e(x:Elm 3):x.d=.agg (eD x):=x.d3
theorem indexE_ok:OkF Try.prog 24 (dataC idxER):=by
 refine okF_data Try.func24 rfl (by decide) ?_
 rintro ds v ⟨L,y,hl,rfl,rfl⟩
 have hll:(L.map Elm.d).length=L.length:=List.length_map _
 generalize hV:idxE 0 L y=V
 refine sem_of_awp (Γ:=tbl []) okG_nil _ _ _ ?_
 simp only[go_sem,Try.ntmps24,hll,Elm.d3]
 refine sem_loop (fun k:Nat=>⟨slotsOf 19 [(0,.dat (.sl (some 3) (L.map Elm.d))),(3,.rptr (some 3) (.agg (eD y))),(7,.dat (.int .i64 L.length)),(8,.dat (.int .i64 k))],
  [.dead],0,[]⟩) (fun k=>k<=L.length/\idxE k (L.drop k) y=V) (fun k=>L.length - k) 0 ⟨Nat.zero_le _,hV⟩ ?_ ?_
 ·refine Le.trans (le_freezeB 0 (ds:=eD y) rfl (Nat.zero_le _)) ?_
  exact le_slots' (by simp only[go_sem,Int.natCast_zero,eD])
 rintro k ⟨hk,hI⟩
 refine sem_of_awpK [4] (Γ:=tbl []) okG_nil _ _ _ ?_
 cases hd:L.drop k with
 | nil =>
  have:=end_of_drop hd hk
  have hk2:¬(k:Int)<L.length:=by omega
  rw[hd]at hI
  have hI0:V=-1:=hI.symm
  simp only[go_sem,hk2,hll,hI0]
  exact post_data (.inl rfl) [4] rfl trivial rfl
 | cons x q =>
  have hlt:=lt_of_drop hd
  have hk2:(k:Int)<L.length:=by omega
  have hk0:(0:Int)<=k:=Int.natCast_nonneg k
  have hn:D.nth (L.map Elm.d) k=x.d:=nth_of_drop hd
  rw[hd,idxE]at hI
  simp only[go_sem,hk2,hll]
  refine sem_drawX [] [] (pf:=[]) (mf:=[]) mixed okG_nil pureNo noMk (ones [0,1,2,3,4,5]) (by kernel_rfl) ?_
  simp only[go_sem,hk2,hk0,hll,hn,Elm.d3e,decide_true,bin_eql_agg eq00 (eD_nums y) (eD_nums x)]
  cases hb:D.flatEqs (eD y) (eD x) with
  | true =>
   rw[hb,if_pos rfl]at hI
   subst hI
   simp only[go_sem]
   exact post_data (.inl rfl) [4] rfl trivial rfl
  | false =>
   rw[hb,if_neg (by decide)]at hI
   simp only[go_sem]
   refine⟨inR_i64.2 (by omega),k+1,⟨by omega,by rw[drop_cons hd];exact hI⟩,by omega,?_⟩
   exact le_slots' (by simp only[go_sem,Int.natCast_add,Int.cast_ofNat_Int])
def nextWR(ds:List D)(v:AV):Prop:=∃L:List (Elm 3),L≠[]/\L.length<=1000000/\PgOk L/\ds=[.sl (some 3) (L.map Elm.d)]/\v=.dat (.int .i64 (idxE 0 L (minE L (L.length - 1))))
abbrev tabNW:List (Nat×Contract):=[(12,dataC chkWR),(25,lentC minLR),(24,dataC idxER)]
theorem tabNW_ok:OkG Try.prog (tbl tabNW):=okG_cons wcheck_ok (okG_cons minFunc_ok (okG_cons indexE_ok okG_nil))
theorem next_ok:OkF Try.prog 11 (dataC nextWR):=by
 refine okF_data Try.func11 rfl (by decide) ?_
 rintro ds v ⟨L,hn,hl,hok,rfl,rfl⟩
 have h0:0<L.length:=List.length_pos_iff.2 hn
 have hll:(L.map Elm.d).length=L.length:=List.length_map _
 have h1:¬(L.length:Int)=0:=by omega
 refine sem_of_awp (Γ:=tbl tabNW) tabNW_ok _ _ _ ?_
 simp only[go_sem,Try.ntmps11,hll,h1,decide_false]
 refine call_data chkWR (by simp) _ _ rfl ⟨L,hl,hok,rfl,rfl⟩ (.inl rfl) ?_
 simp only[go_sem,eq_self,decide_true]
 refine call_lent minLR (by simp) [] ⟨L,hn,hl,rfl,rfl,rfl,rfl,rfl,rfl⟩ (by simp) (by simp) rfl rfl rfl (by simp only[go_sem]) (by simp) (by simp) ?_
 simp only[go_sem]
 refine call_data idxER (by simp) _ _ rfl ⟨L,_,hl,rfl,rfl⟩ (.inl rfl) ?_
 simp only[go_sem]
 exact post_data (.inl rfl) [2] rfl trivial rfl
end Go.AM
namespace Go.AM
open Go Go.Proofs Go.Shelf
def rSP:Ren where
 f:=fun x=>match x with
  | 6=>14
  | 15=>28
  | 14=>27
  | 28=>41
  | 29=>42
  | 20=>33
  | 21=>34
  | 22=>35
  | 23=>36
  | 24=>37
  | 25=>38
  | 26=>39
  | 27=>40
  | 46=>51
  | 47=>52
  | 48=>53
  | 49=>54
  | 50=>55
  | 57=>59
  | n=>n
 t:=fun x=>match x with
  | 22=>25
  | 24=>36
  | 25=>51
  | 3=>3
  | 39=>71
  | 0=>0
  | 53=>86
  | 55=>88
  | 4=>4
  | 46=>79
  | 45=>78
  | 50=>83
  | 5=>5
  | 9=>9
  | 66=>94
  | 70=>98
  | 76=>102
  | 77=>103
  | n=>n
 g:=fun x=>match x with
  | n=>n
theorem laysSP:SlLaysF0.n6 Try.prog rSP where
 mixed:=by kernel_rfl
 f6:=⟨Try.f14.name,by decide,Eq.trans Try.func14 (congrArg some (by kernel_rfl))⟩
 f14:=⟨Try.f27.name,by decide,Eq.trans Try.func27 (congrArg some (by kernel_rfl))⟩
 f15:=Eq.trans Try.func28 (congrArg some (by kernel_rfl))
 f20:=⟨Try.f33.name,by decide,Eq.trans Try.func33 (congrArg some (by kernel_rfl))⟩
 f21:=⟨Try.f34.name,by decide,Eq.trans Try.func34 (congrArg some (by kernel_rfl))⟩
 f22:=⟨Try.f35.name,by decide,Eq.trans Try.func35 (congrArg some (by kernel_rfl))⟩
 f23:=⟨Try.f36.name,by decide,Eq.trans Try.func36 (congrArg some (by kernel_rfl))⟩
 f24:=⟨Try.f37.name,by decide,Eq.trans Try.func37 (congrArg some (by kernel_rfl))⟩
 f25:=⟨Try.f38.name,by decide,Eq.trans Try.func38 (congrArg some (by kernel_rfl))⟩
 f26:=⟨Try.f39.name,by decide,Eq.trans Try.func39 (congrArg some (by kernel_rfl))⟩
 f27:=⟨Try.f40.name,by decide,Eq.trans Try.func40 (congrArg some (by kernel_rfl))⟩
 f28:=Eq.trans Try.func41 (congrArg some (by kernel_rfl))
 f29:=Eq.trans Try.func42 (congrArg some (by kernel_rfl))
 f46:=⟨Try.f51.name,by decide,Eq.trans Try.func51 (congrArg some (by kernel_rfl))⟩
 f47:=Eq.trans Try.func52 (congrArg some (by kernel_rfl))
 f48:=Eq.trans Try.func53 (congrArg some (by kernel_rfl))
 f49:=⟨Try.f54.name,by decide,Eq.trans Try.func54 (congrArg some (by kernel_rfl))⟩
 f50:=⟨Try.f55.name,by decide,Eq.trans Try.func55 (congrArg some (by kernel_rfl))⟩
 f57:=⟨Try.f59.name,by decide,Eq.trans Try.func59 (congrArg some (by kernel_rfl))⟩
 t0:=Try.underlying0
 a0:=Try.isAgg0
 z0:=Try.sizeOf0
 v0:=Try.zeroValue0
 t3:=Try.underlying3
 a3:=Try.isAgg3
 z3:=Try.sizeOf3
 v3:=Try.zeroValue3
 t4:=Try.underlying4
 a4:=Try.isAgg4
 z4:=Try.sizeOf4
 v4:=Try.zeroValue4
 t5:=Try.underlying5
 a5:=Try.isAgg5
 z5:=Try.sizeOf5
 v5:=Try.zeroValue5
 t9:=Try.underlying9
 a9:=Try.isAgg9
 z9:=Try.sizeOf9
 v9:=Try.zeroValue9
 t22:=Try.underlying25
 a22:=Try.isAgg25
 z22:=Try.sizeOf25
 v22:=Try.zeroValue25
 t25:=Try.underlying51
 a25:=Try.isAgg51
 z25:=Try.sizeOf51
 v25:=Try.zeroValue51
 t39:=Try.underlying71
 a39:=Try.isAgg71
 z39:=Try.sizeOf71
 v39:=Try.zeroValue71
 t45:=Try.underlying78
 a45:=Try.isAgg78
 z45:=Try.sizeOf78
 v45:=Try.zeroValue78
 t46:=Try.underlying79
 a46:=Try.isAgg79
 z46:=Try.sizeOf79
 v46:=Try.zeroValue79
 t50:=Try.underlying83
 a50:=Try.isAgg83
 z50:=Try.sizeOf83
 v50:=Try.zeroValue83
 t53:=Try.underlying86
 a53:=Try.isAgg86
 z53:=Try.sizeOf86
 v53:=Try.zeroValue86
 t55:=Try.underlying88
 a55:=Try.isAgg88
 z55:=Try.sizeOf88
 v55:=Try.zeroValue88
 t66:=Try.underlying94
 a66:=Try.isAgg94
 z66:=Try.sizeOf94
 v66:=Try.zeroValue94
 t70:=Try.underlying98
 a70:=Try.isAgg98
 z70:=Try.sizeOf98
 v70:=Try.zeroValue98
 t76:=Try.underlying102
 a76:=Try.isAgg102
 z76:=Try.sizeOf102
 v76:=Try.zeroValue102
 t77:=Try.underlying103
 a77:=Try.isAgg103
 z77:=Try.sizeOf103
 v77:=Try.zeroValue103
end Go.AM
namespace Go.AM
open Go Go.Proofs Go.Sort Go.Shelf
theorem sortP_ok:OkF Try.prog 14 (lentC (sortER 3 15 cfP)) :=
 sortE_ok laysSP (by decide) (fun w=>by rfl) (fun w=>by rfl) Try.func14 rfl (by decide) cfP (lexE_swo 3 [2,0,1])
  (lexE_total (fun p hp=>by
   have:p=0∨p=1∨p=2:=by omega
   rcases this with rfl|rfl|rfl <;> simp)) (fun args w=>by rfl) wcompare_ok
def ordWR(ds:List D)(v:AV):Prop:=∃L:List (Elm 3),L.length<=1000000/\PgOk L/\ds=[.sl (some 3) (L.map Elm.d)]/\v=.tup [.dat (.sl (some 3) ((srtE cfP L).map Elm.d)),.dat (.int .i64 0)]
abbrev tabOW:List (Nat×Contract):=[(12,dataC chkWR),(13,madeC cloneER),(14,lentC (sortER 3 15 cfP))]
theorem tabOW_ok:OkG Try.prog (tbl tabOW):=okG_cons wcheck_ok (okG_cons cloneE_ok (okG_cons sortP_ok okG_nil))
theorem order_ok:OkF Try.prog 7 (dataC ordWR):=by
 refine okF_data Try.func7 rfl (by decide) ?_
 rintro ds v ⟨L,hL,hok,rfl,rfl⟩
 refine sem_of_awp (Γ:=tbl tabOW) tabOW_ok _ _ _ ?_
 simp only[go_sem,Try.ntmps7]
 refine call_data chkWR (by simp) _ _ rfl ⟨L,hL,hok,rfl,rfl⟩ (.inl rfl) ?_
 simp only[go_sem,eq_self,decide_true]
 refine call_made cloneER (by simp) _ _ _ rfl rfl ⟨L,hL,rfl,rfl,rfl⟩ ?_
 simp only[go_sem,AV.shift,Obj.shift,AV.shifts]
 refine call_lent (sortER 3 15 cfP) (by simp) [0] ⟨L,hL,rfl,rfl,rfl,rfl,rfl,rfl⟩ (by decide) (by simp) rfl rfl rfl (by simp only[go_sem,AV.unders,AV.under]) (by simp only[List.mem_singleton,forall_eq];trivial) (fun j hj=>by
  obtain rfl:j=0:=by simp at hj;exact hj
  rfl) ?_
 simp only[go_sem]
 have hlen:((srtE cfP L).map Elm.d).length=L.length:=by rw[List.length_map,srtE_len]
 have htk:List.take L.length ((srtE cfP L).map Elm.d)=(srtE cfP L).map Elm.d:=List.take_of_length_le (by rw[hlen];exact Nat.le_refl _)
 refine post_res (.inl rfl) [.tmp 2,.tmp 3] rfl ?_
 simp only[go_sem]
 refine Le.trans (le_freeze 0 (ag:=some 3) (xs:=(srtE cfP L).map Elm.d) rfl (Nat.zero_le _)) ?_
 simp only[go_sem,hlen,htk,List.drop_zero,Nat.le_refl,if_true]
 exact le_fin (by simp only[go_sem]) (by simp only[go_sem])
end Go.AM
namespace Go.AM
open Go Go.Proofs Go.Sort Go.Shelf
def pA:Elm 3:=⟨[0,0,5],rfl,by simp only[List.mem_cons,List.not_mem_nil,or_false,forall_eq_or_imp,forall_eq];exact⟨inR_i64.2 (by decide),inR_i64.2 (by decide),inR_i64.2 (by decide)⟩⟩
def pB:Elm 3:=⟨[0,1,3],rfl,by simp only[List.mem_cons,List.not_mem_nil,or_false,forall_eq_or_imp,forall_eq];exact⟨inR_i64.2 (by decide),inR_i64.2 (by decide),inR_i64.2 (by decide)⟩⟩
theorem pAB_ok:PgOk [pA,pB]:=by
 refine⟨fun x hx=>?_,by decide⟩
 simp only[List.mem_cons,List.not_mem_nil,or_false]at hx
 rcases hx with rfl|rfl <;> decide
theorem srt_AB:∃x y:Elm 3,srtE cfP [pA,pB]=[x,y]/\x.1.getD 2 0=3:=by
 obtain⟨h1,h2⟩:=srt_times (k:=3) (p:=2) (ps:=[0,1]) [pA,pB]
 have hl:(srtE cfP [pA,pB]).length=2:=srtE_len _ _
 match hs:srtE cfP [pA,pB],hl with
 | [x,y],_ =>
  refine⟨x,y,rfl,?_⟩
  have e:srtE (lexE 3 (2 :: [0,1])) [pA,pB]=[x,y]:=hs
  rw[e]at h1 h2
  have h3:x.1.getD 2 0<=y.1.getD 2 0:=by simpa using h1
  have h4:[x.1.getD 2 0,y.1.getD 2 0].Perm [5,3]:=h2
  have m1:x.1.getD 2 0∈[(5:Int),3]:=h4.mem_iff.1 (by simp)
  simp only[List.mem_cons,List.not_mem_nil,or_false]at m1
  rcases m1 with m1|m1
  ·rw[m1]at h4 h3
   have:=h4.cons_inv
   have m2:y.1.getD 2 0∈[(3:Int)]:=this.mem_iff.1 (by simp)
   simp only[List.mem_cons,List.not_mem_nil,or_false]at m2
   omega
  ·exact m1
theorem nth_z{a:D}{r:List D}:D.nth (a :: r) 0=a:=rfl
theorem idx_AB:idxE 0 [pA,pB] (minE [pA,pB] 1)=1:=by decide
def fAB:List FR:=[⟨0,0,5,true⟩,⟨0,1,3,true⟩]
abbrev tabAW16:List (Nat×Contract):=[(7,dataC ordWR),(11,dataC nextWR),(9,lentC oldR),(8,lentC countR)]
theorem tabAW16_ok:OkG Try.prog (tbl tabAW16):=okG_cons order_ok (okG_cons next_ok (okG_cons oldest_ok (okG_cons count_ok okG_nil)))
def aw16R(ds:List D)(v:AV):Prop:=ds=[]/\v=.dat (.bool true)
theorem awake16_ok:OkF Try.prog 5 (dataC aw16R):=by
 refine okF_data Try.func5 rfl (by decide) ?_
 rintro ds v ⟨rfl,rfl⟩
 obtain⟨x,y,hs,hx⟩:=srt_AB
 refine sem_of_awpK [2] (Γ:=tbl tabAW16) tabAW16_ok _ _ _ ?_
 simp only[go_sem,Try.ntmps5]
 refine sem_le (le_freeze 0 (ag:=some 3) rfl (Nat.zero_le _)) ?_
 refine sem_of_awp (Γ:=tbl tabAW16) tabAW16_ok _ _ _ ?_
 simp only[go_sem]
 refine call_data ordWR (by simp) [.sl (some 3) ([pA,pB].map Elm.d)] (.tup [.dat (.sl (some 3) ((srtE cfP [pA,pB]).map Elm.d)),.dat (.int .i64 0)]) (by rfl) ⟨[pA,pB],by decide,pAB_ok,rfl,rfl⟩ (.inl rfl) ?_
 rw[hs]
 simp only[go_sem,List.map_cons,List.map_nil,Elm.d3,nth_z,hx,eq_self,decide_true]
 refine call_data nextWR (by simp) [.sl (some 3) ([pA,pB].map Elm.d)] _ rfl ⟨[pA,pB],by simp,by decide,pAB_ok,rfl,rfl⟩ (.inl rfl) ?_
 simp only[go_sem,idx_AB,eq_self,decide_true]
 refine call_lent oldR (by simp) [1] ⟨fAB,by decide,rfl,rfl,rfl,rfl,rfl,rfl⟩ (by decide) (by simp) rfl rfl rfl (by simp only[go_sem,AV.unders,AV.under]) (by simp only[List.mem_singleton,forall_eq];trivial) (fun j hj=>by
  obtain rfl:j=0:=by simp at hj;exact hj
  rfl) ?_
 simp only[go_sem,show oldN fAB fAB.length=1 by decide,eq_self,decide_true]
 refine call_lent countR (by simp) [1] ⟨fAB,by decide,rfl,rfl,rfl,rfl,rfl,rfl⟩ (by decide) (by simp) rfl rfl rfl (by simp only[go_sem,AV.unders,AV.under]) (by simp only[List.mem_singleton,forall_eq];trivial) (fun j hj=>by
  obtain rfl:j=0:=by simp at hj;exact hj
  rfl) ?_
 simp only[go_sem,show cntF fAB=2 by decide,Int.cast_ofNat_Int,eq_self,decide_true]
 exact post_data (.inl rfl) [0] rfl trivial rfl
end Go.AM
namespace Go.AM
open Go Go.Proofs
abbrev byteD(a:Nat):D:=.int .u8 (a:Int)
theorem byte_arg{m:Nat}{d:D}(h:argT Try.prog (m+1) 5 d):∃a:Nat,d=byteD a/\a<256:=by
 obtain⟨n,rfl,hn⟩:=arg_int (k:=.u8) (by kernel_rfl) h
 have:=inR_u8.1 hn
 refine⟨n.toNat,?_,by omega⟩
 show D.int .u8 n=D.int .u8 (n.toNat:Int)
 rw[Int.toNat_of_nonneg this.1]
end Go.AM
namespace Go.AM
open Go Go.Proofs Go.Sort Go.Shelf
abbrev tabRC:List (Nat×Contract):=[(5,dataC aw16R),(6,madeC dfR),(10,dataC runsWR),(8,pureOf (lentC countR))]
theorem tabRC_ok:OkG Try.prog (tbl tabRC):=okG_cons awake16_ok (okG_cons dirtyFrames_ok (okG_cons wruns_ok (okG_cons (okF_pureOf count_ok) okG_nil)))
theorem pureRC:PureFns (tbl tabRC) [8]:=by
 refine pure_of2 fun g C hm hg=>?_
 simp only[List.mem_cons,List.not_mem_nil,or_false,Prod.mk.injEq]at hm hg
 rcases hm with⟨h,rfl⟩|⟨h,rfl⟩|⟨h,rfl⟩|⟨_,rfl⟩
 ·exact .inl ⟨_,rfl⟩
 ·subst h;exact absurd hg (by decide)
 ·exact .inl ⟨_,rfl⟩
 ·exact .inr ⟨_,rfl⟩
theorem frD_ok_set{G:List FR}{a:Nat}(x:FR)(h:a<G.length):(G.map frD).set a (frD x)=(G.set a x).map frD:=by rw[List.map_set]
def law22R(ds:List D)(v:AV):Prop:=∃(l:List SK) (a:Nat),l.length<9223372036854775808/\(∀x∈l,x.ok)/\a<256/\ds=[.sl (some 4) (l.map skD),byteD a]/\v=.dat (.bool true)
theorem law22_ok:OkF Try.prog 4 (dataC law22R):=by
 refine okF_data Try.func4 rfl (by decide) ?_
 rintro ds v ⟨l,a,hlen,hok,ha,rfl,rfl⟩
 have hll:(l.map skD).length=l.length:=List.length_map _
 refine sem_of_awpK [4,17,20] (Γ:=tbl tabRC) tabRC_ok _ _ _ ?_
 simp only[go_sem,Try.ntmps4]
 refine call_data aw16R (by simp) _ _ rfl ⟨rfl,rfl⟩ (.inl rfl) ?_
 by_cases h60:60<l.length
 ·have h60':(60:Int)<l.length:=by omega
  simp only[go_sem,hll,h60',decide_true]
  refine call_data aw16R (by simp) _ _ rfl ⟨rfl,rfl⟩ (.inl rfl) ?_
  simp only[go_sem]
  exact post_data (.inl rfl) [4] rfl trivial rfl
 have h60':¬(60:Int)<l.length:=by omega
 simp only[go_sem,hll,h60',decide_false]
 refine call_made dfR (by simp) _ _ _ rfl rfl ⟨l,by omega,hok,rfl,rfl,rfl⟩ ?_
 simp only[go_sem,AV.shift,Obj.shift,AV.shifts]
 have hinv:=frs_inv l hok
 have hpok:=pgs_ok hinv
 have hpl:=pgs_len (frs l)
 have hFl:(frs l).length<=60:=by have:=hinv.1;omega
 have hcl:cntF (frs l)<=60:=Nat.le_trans (List.length_filter_le _ _) hFl
 have hperm:=plS_perm hinv
 have hnd:=hperm.nodup_iff.2 (dpl_nodup hinv.2.2)
 generalize frs l=F at *
 have s1:((pgs F).map Elm.d).length=(pgs F).length:=List.length_map _
 have s2:List.take (pgs F).length ((pgs F).map Elm.d)=(pgs F).map Elm.d:=List.take_of_length_le (by rw[s1];exact Nat.le_refl _)
 have hpl6:(pgs F).length<=1000000:=by omega
 have m1:(a:Int).tmod 16=(a % 16:Nat):=by rw[Int.tmod_eq_emod_of_nonneg (Int.natCast_nonneg a)];rfl
 have m2:a % 16<16:=Nat.mod_lt _ (by decide)
 have m3:inR .u8 ((a % 16:Nat):Int):=inR_u8.2 (by omega)
 have m4:inR .i64 ((a % 16:Nat):Int):=inR_i64.2 (by omega)
 have m5:inR .i64 (1+((a % 16:Nat):Int)):=inR_i64.2 (by omega)
 refine sem_le (le_freeze 2 (ag:=some 3) rfl (Nat.zero_le _)) ?_
 refine sem_of_awpK [17,20] (Γ:=tbl tabRC) tabRC_ok _ _ _ ?_
 simp only[go_sem,s1,s2,bin_rem8,m1,m3,m4,m5,List.drop_zero,Nat.le_refl,if_true]
 generalize hn:1+a % 16=n
 have hn2:1+((a % 16:Nat):Int)=(n:Int):=by omega
 have hn3:1<=n:=by omega
 have hn4:n<=16:=by omega
 rw[hn2]
 refine call_data runsWR (by simp) _ _ rfl ⟨pgs F,n,hpl6,hpok,hn3,by omega,rfl,rfl⟩ (.inl rfl) ?_
 have hsok:=srtP_ok hpl6 hpok hn3 (show n<=1000000 by omega)
 generalize srtP (pgs F)=S at *
 generalize hR:rnsL S n=R
 simp only[go_sem,eq_self,decide_true]
 have hRl:(R.map (runD S)).length=R.length:=List.length_map _
 have hRlen:R.length<=1000000:=by rw[← hR];exact Nat.le_trans (runL_len S n _ _) hsok.1
 refine call_lentP countR (by simp) [1] ⟨F,by omega,rfl,rfl,rfl,rfl,rfl,rfl⟩ (by decide) (by simp) rfl rfl (by simp only[go_sem,AV.unders,AV.under]) (by simp only[List.mem_singleton,forall_eq];trivial) (fun j hj=>by
  obtain rfl:j=0:=by simp at hj;exact hj
  rfl) ?_
 simp only[go_sem,hRl]
 refine sem_loop (fun p:List FR×Nat×Nat=>⟨slotsOf 118 [(5,.sl 1 0 p.1.length),(7,.dat (.int .i64 n)),(8,.dat (.sl (some 3) (R.map (runD S)))),(10,.dat (.int .i64 (cntF p.1))),(41,.dat (.sl (some 3) (R.map (runD S)))),(42,.dat (.int .i64 R.length)),(43,.dat (.int .i64 p.2.1))],[.dead,frO p.1,.dead],0,[]⟩)
  (fun p=>p.2.1<=R.length/\p.2.2<=S.length/\p.1.length<=60/\(dpl p.1).Perm ((plS S).drop p.2.2)/\∃t,S.length<=t+p.2.2/\R.drop p.2.1=runL S n t p.2.2) (fun p=>R.length - p.2.1) (F,0,0) ⟨Nat.zero_le _,Nat.zero_le _,hFl,hperm.symm,S.length,Nat.le_refl _,hR.symm⟩ ?_ ?_
 ·exact le_slots' (by simp only[go_sem,Int.natCast_zero])
 clear hFl hcl hperm hpok hinv s1 s2 hpl hpl6
 rintro ⟨G,k,i⟩ ⟨hk,hi,hG,hpm,t,ht,hdrop⟩
 simp only at hk hi hG hpm ht hdrop ⊢
 have hGm:(G.map frD).length=G.length:=List.length_map _
 refine sem_of_awpK [17,20] (Γ:=tbl tabRC) tabRC_ok _ _ _ ?_
 rcases Nat.lt_or_ge k R.length with hlt|hge
 ·have k1:(k:Int)<R.length:=by omega
  have k2:(0:Int)<=k:=by omega
  have hiS:i<S.length:=by
   rcases Nat.lt_or_ge i S.length with h|h
   ·exact h
   ·have:R.drop k=[]:=by
     rw[hdrop]
     cases t with
     | zero=>rfl
     | succ t=>unfold runL;rw[if_neg (by omega)]
    have:=List.drop_eq_nil_iff.1 this
    omega
  obtain⟨t,rfl⟩:∃t',t=t'+1:=⟨t - 1,by omega⟩
  rw[show runL S n (t+1) i=(i,runN S i n n 1) :: runL S n t (i+runN S i n n 1) by rw[runL,if_pos hiS]]at hdrop
  obtain⟨n1,n2,n3,n4⟩:=runN_one (S:=S) (m:=n) hiS hn3
  generalize runN S i n n 1=c at *
  have hnx:D.nth (R.map (runD S)) k=runD S (i,c):=nth_of_drop hdrop
  have hdrop2:R.drop (k+1)=runL S n t (i+c):=drop_cons hdrop
  have hstep:=cln_step hnd n3 n4 hpm
  have hpb:=inR_i64.1 (pi_in S i)
  have hpiS:=hsok.2.2.2 i hiS
  have c1:¬(c:Int)<1:=by omega
  have c2:¬(n:Int)<c:=by omega
  generalize hf:pf S i=f at *
  generalize hq:pi S i=q at *
  have hrd:runD S (i,c)=.agg [.int .i64 f,.int .i64 q,.int .i64 c]:=by unfold runD;rw[hf,hq]
  rw[hrd]at hnx
  simp only[go_sem,k1,k2,hRl,hnx,c1,c2,Int.toNat_natCast,decide_true,decide_false]
  refine sem_loop (fun j:Nat=>⟨slotsOf 118 [(5,.sl 1 0 G.length),(7,.dat (.int .i64 n)),(8,.dat (.sl (some 3) (R.map (runD S)))),(10,.dat (.int .i64 (cntF G))),(12,.ptr 3 0 0),(41,.dat (.sl (some 3) (R.map (runD S)))),(42,.dat (.int .i64 R.length)),(43,.dat (.int .i64 k)),(57,.dat (.int .i64 G.length)),(58,.dat (.int .i64 j))],
    [.dead,frO (clnK f q c G j),.dead,.box [.dat (.int .i64 f),.dat (.int .i64 q),.dat (.int .i64 c)]],0,[]⟩) (fun j=>j<=G.length) (fun j=>G.length - j) 0 (Nat.zero_le _) ?_ ?_
  ·rw[clnK_zero]
   exact le_slots' (by simp only[go_sem,Int.natCast_zero])
  intro j hj
  refine sem_of_awpK [17,20] (Γ:=tbl tabRC) tabRC_ok _ _ _ ?_
  rcases Nat.lt_or_ge j G.length with hjl|hjg
  ·have j1:(j:Int)<G.length:=by omega
   have j2:(0:Int)<=j:=by omega
   have hXl:=clnK_len f q c G (Nat.le_of_lt hjl)
   have hXg:=clnK_get f q c G hjl
   have hXs:=clnK_succ f q c G hjl
   generalize hX2e:clnK f q c G (j+1)=X2 at *
   generalize clnK f q c G j=X at *
   have hjX:j<X.length:=by omega
   have hXm:(X.map frD).length=G.length:=by rw[List.length_map,hXl]
   have hny:=nth_frD hjX
   rw[hXg]at hny
   have hset:∀z,(X.map frD).set j (frD z)=(X.set j z).map frD:=fun z=>frD_ok_set z hjX
   have hself:X.set j G[j]=X:=by
    rw[← hXg]
    apply List.ext_getElem?
    intro z
    rw[List.getElem?_set]
    split
    ·rename_i h;subst h
     first
      | (rw[if_pos hjX,List.getD_eq_getElem?_getD,List.getElem?_eq_getElem hjX];rfl)
      | (rw[List.getD_eq_getElem?_getD,List.getElem?_eq_getElem hjX];rfl)
    ·rfl
   generalize G[j]=x at *
   obtain⟨xf,xi,xs,xd⟩:=x
   simp only[go_sem,j1,decide_true]
   refine sem_drawX [] [] (pf:=[8]) (mf:=[]) mixed tabRC_ok pureRC noMk (ones [0,1,2,3,4,5,6,7,8,9,10,11,12,13,14,15,16,17,18,19,20,21,22,23,24,25,26,27,28,29,30,31,32,33,34,35,36,37]) (by kernel_rfl) ?_
   have hsame:clnF f q c ⟨xf,xi,xs,xd⟩=⟨xf,xi,xs,xd⟩->X2=X:=fun h=>by rw[hXs,h,hself]
   have hqc:inR .i64 (q+(c:Int)):=inR_i64.2 (by omega)
   by_cases e1:xf=f
   case' neg =>
    have hX2:X2=X:=hsame (by unfold clnF;rw[if_neg (by simp[inRg,plc,e1])])
    simp only[go_sem,j1,j2,hXm,hXl,hny,hjX,hjl,e1,Int.toNat_natCast,frD,decide_true,decide_false]
   case' pos =>
    subst e1
    by_cases e2:q<=xi
    case' neg =>
     have hX2:X2=X:=hsame (by unfold clnF;rw[if_neg (by simp[inRg,plc,e2])])
     simp only[go_sem,j1,j2,hXm,hXl,hny,hjX,hjl,e2,Int.toNat_natCast,frD,eq_self,decide_true,decide_false]
    case' pos =>
     by_cases e3:xi<q+c
     case' neg =>
      have hX2:X2=X:=hsame (by unfold clnF;rw[if_neg (by simp[inRg,plc,e3])])
      simp only[go_sem,j1,j2,hXm,hXl,hny,hjX,hjl,e2,e3,hqc,Int.toNat_natCast,frD,eq_self,decide_true,decide_false]
     case' pos =>
      have hcl:clnF xf q c ⟨xf,xi,xs,xd⟩=⟨xf,xi,xs,false⟩:=by unfold clnF;rw[if_pos (by simp[inRg,plc,e2,e3])];rfl
      cases xd
      case' false =>
       have hX2:X2=X:=hsame hcl
       simp only[go_sem,j1,j2,hXm,hXl,hny,hjX,hjl,e2,e3,hqc,Int.toNat_natCast,frD,eq_self,decide_true,decide_false]
      case' true =>
       have hset2:(X.map frD).set j (.agg [.int .i64 4,.int .i64 0,.int .i64 0,.int .i64 0,.int .i64 xf,.int .i64 xi,.int .i64 0,.int .i64 0,.int .i64 0,.int .i64 xs,.bool false,.bool false,.bool false,.int .i64 0,.sl none [],.sl none []])=X2.map frD:=by
        rw[hXs,hcl];exact hset ⟨xf,xi,xs,false⟩
       simp only[go_sem,j1,j2,hXm,hXl,hny,hjX,hjl,e2,e3,hqc,Int.toNat_natCast,frD,eq_self,decide_true,decide_false]
   all_goals refine⟨inR_i64.2 (by omega),j+1,hjl,by omega,?_⟩
   all_goals first
    | (rw[hX2e,hX2];exact le_slots' (by simp only[go_sem,Int.natCast_add,Int.cast_ofNat_Int]))
    | (rw[hX2e,hset2];exact le_slots' (by simp only[go_sem,Int.natCast_add,Int.cast_ofNat_Int]))
  ·obtain rfl:j=G.length:=by omega
   have j1:¬(G.length:Int)<G.length:=by omega
   rw[clnK_all]
   simp only[go_sem,j1,decide_false]
   refine sem_drawX [] [] (pf:=[8]) (mf:=[]) mixed tabRC_ok pureRC noMk (ones [0,1,2,3,4,5,6]) (by kernel_rfl) ?_
   generalize hG2:G.map (clnF f q c)=G2 at *
   have hl2:G.length=G2.length:=by rw[← hG2,List.length_map]
   have hct:(cntF G2:Int)=cntF G - c:=by
    have a1:=hpm.length_eq
    have a2:=hstep.length_eq
    rw[dpl_len,List.length_drop,plS_len]at a1 a2
    omega
   have hci:inR .i64 ((cntF G:Int) - c):=inR_i64.2 (by have:=Nat.le_trans (List.length_filter_le (fun x:FR=>x.d) G) hG;have h':cntF G<=60:=this;omega)
   rw[hl2]
   simp only[go_sem]
   refine call_lentP countR (by simp) [1] ⟨G2,by omega,rfl,rfl,rfl,rfl,rfl,rfl⟩ (by decide) (by simp) rfl rfl (by simp only[go_sem,AV.unders,AV.under]) (by simp only[List.mem_singleton,forall_eq];trivial) (fun j hj=>by
    obtain rfl:j=0:=by simp at hj;exact hj
    rfl) ?_
   simp only[go_sem,hct,hci,eq_self,decide_true]
   refine⟨inR_i64.2 (by omega),(G2,k+1,i+c),⟨by simp only;omega,by simp only;omega,by simp only;omega,hstep,t,by simp only;omega,hdrop2⟩,by simp only;omega,?_⟩
   simp only[hct]
   refine le_end (own:=[_,_,_]) (ex:=[_]) (Nat.zero_le _) ?_ ?_ ?_
   ·simp only[go_sem,Int.natCast_add,Int.cast_ofNat_Int]
   ·simp only[go_sem]
   ·simp only[go_sem,Obj.under,AV.unders,AV.under]
 ·obtain rfl:k=R.length:=by omega
  have k1:¬(R.length:Int)<R.length:=by omega
  have h0:cntF G=0:=by
   have hnil:runL S n t i=[]:=by rw[← hdrop];exact List.drop_eq_nil_of_le (Nat.le_refl _)
   have hiS:S.length<=i:=by
    rcases Nat.lt_or_ge i S.length with h|h
    ·obtain⟨t,rfl⟩:∃t',t=t'+1:=⟨t - 1,by omega⟩
     rw[runL,if_pos h]at hnil
     cases hnil
    ·exact h
   have:=hpm.length_eq
   rw[dpl_len,List.length_drop,plS_len]at this
   omega
  simp only[go_sem,k1,h0,decide_false,Int.natCast_zero,eq_self,decide_true]
  exact post_data (.inl rfl) [4] rfl trivial rfl
end Go.AM
namespace Go.AM
open Go Go.Proofs
theorem wantSK:wantT Try.prog 48=some 4:=by kernel_rfl
theorem skarg1{m:Nat}{d:D}(h:argT Try.prog (m+3) 48 d):∃x:SK,d=skD x/\x.ok:=by
 obtain⟨ds,rfl,hf⟩:=arg_fields (ts:=[5,5,5,4]) (by kernel_rfl) h
 obtain⟨a,r,rfl,ha,hf⟩:=hf
 obtain⟨b,r,rfl,hb,hf⟩:=hf
 obtain⟨c,r,rfl,hc,hf⟩:=hf
 obtain⟨e,r,rfl,he,rfl⟩:=hf
 rw[dataT_int (k:=.u8) (by kernel_rfl)]at ha hb hc
 rw[dataT_bool (by kernel_rfl)]at he
 obtain⟨a,rfl,ha⟩:=ha
 obtain⟨b,rfl,hb⟩:=hb
 obtain⟨c,rfl,hc⟩:=hc
 obtain⟨e,rfl⟩:=he
 have h1:=inR_u8.1 ha;have h2:=inR_u8.1 hb;have h3:=inR_u8.1 hc
 refine⟨⟨a,b,c,e⟩,rfl,?_⟩
 unfold SK.ok
 simp only
 omega
theorem sks_arg{m:Nat}{d:D}(h:argT Try.prog (m+5) 22 d):∃l:List SK,(∀x∈l,x.ok)/\l.length<9223372036854775808/\d=.sl (some 4) (l.map skD):=by
 obtain⟨xs,rfl,hl,hx⟩:=arg_slice (e:=48) (by kernel_rfl) h
 rw[wantSK]
 obtain⟨L,rfl,hL⟩:=list_of skD (Q:=SK.ok) (fun x hx'=>skarg1 (hx x hx'))
 refine⟨L,hL,?_,rfl⟩
 rw[List.length_map]at hl
 simp only[maxLen]at hl
 omega
end Go.AM

