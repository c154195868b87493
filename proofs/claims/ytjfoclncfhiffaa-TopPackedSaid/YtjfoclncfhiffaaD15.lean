/- Own work over the model of the kit. -/
import Derived.Test.YtjfoclncfhiffaaD14
import Derived.Test.YtjfoclncfhiffaaD13
import Derived.Test.YtjfoclncfhiffaaD12
import Derived.Test.YtjfoclncfhiffaaD10
set_option linter.unnecessarySimpa false
set_option linter.unusedSimpArgs false
set_option linter.unusedVariables false
set_option maxHeartbeats 4000000
set_option maxRecDepth 100000
namespace Go.AM
open Go Go.Proofs
def zoneD(n:Nat)(R:Nat->List Int):D:=zD n (is64 (R 0)) (is64 (R 1)) (is64 (R 2)) (is64 (R 3)) (is64 (R 4))
def ltX(f:Nat):Nat->Bool:=fun i=>decide (i<f)
theorem ltX_add(f:Nat):addX (ltX f) f=ltX (f+1):=by
 funext i
 unfold addX ltX
 rw[← Bool.decide_or]
 exact decide_eq_decide.2 (by omega)
theorem fl_zero(n k:Nat):fl (ltX 0) n k=[]:=by
 unfold fl freeL
 rw[List.filter_eq_nil_iff.2,List.map_nil]
 intro a ha h
 have:=(isB_iff.1 h).2.1 0 (two_pos k)
 simp[ltX]at this
noncomputable def zB0:Obj:=.box [.dat (.int .i64 0),.dat (.int .i64 0),.dat (.int .i64 0),.dat (.int .i64 0),.dat (.int .i64 0),.nils,.nils,.nils,.nils,.nils]
def zB2(n:Nat)(R:Nat->List Int):Obj:=.box [.dat (.int .i64 0),.dat (.int .i64 0),.dat (.int .i64 0),.dat (.int .i64 (n:Int)),.dat (.int .i64 0),.sl 2 0 (R 0).length,.sl 3 0 (R 1).length,.sl 4 0 (R 2).length,.sl 5 0 (R 3).length,.sl 6 0 (R 4).length]
def zRs(R:Nat->List Int):List Obj:=[.row none (is64 (R 0)),.row none (is64 (R 1)),.row none (is64 (R 2)),.row none (is64 (R 3)),.row none (is64 (R 4))]
theorem addMv_z{m:List Nat}:∀l:List Nat,addMv 0 m l=m
 | []=>rfl
 | o :: l=>by simp only[addMv,Nat.not_lt_zero,if_false];exact addMv_z l
@[go_sem] theorem PutE_kill5 {d:Tmp} {K:S->Prop} {s:List AV} {own own':List Obj} {m:List Nat} {v:AV} {a b c e f:Nat}:PutE (some d) K ⟨s,own,0,m⟩ v own' [a,b,c,e,f]=K ⟨(AV.kills f (AV.kills e (AV.kills c (AV.kills b (AV.kills a s))))).set d v,own',0,m⟩:=by
 show K ⟨_,_,_,addMv 0 m _⟩=_
 rw[addMv_z]
 rfl
theorem call_putN{l:List (Nat×Contract)}(hm:(28,lentC putR)∈l){K:AV->List Obj->List Nat->Prop}{X:Nat->Bool}{n f:Nat}(h1:1<=n)(h64:n<=64)(hf:f<n)(hX:∀i,X i=true->i<f)
  (hK:K (.tup []) (zB0 :: zB2 n (fl (addX X f) n) :: zRs (fl (addX X f) n)) [2,3,4,5,6]):callw (tbl l) (.fn 28 []) [.ptr 1 0 0,.dat (.int .i64 (f:Int)),.dat (.int .i64 0)] (zB0 :: zB2 n (fl X n) :: zRs (fl X n)) K:=by
 refine call_lent putR hm [1,2,3,4,5,6] ⟨X,n,f,h1,h64,hf,hX,rfl,rfl,rfl,rfl,rfl,rfl⟩ (by decide) (by simp[zRs]) rfl rfl rfl (by simp[AV.unders,AV.under]) ?_ (fun j hj=>?_) ?_
 ·intro x hx
  simp only[zO,List.mem_cons,List.not_mem_nil,or_false]at hx
  rcases hx with rfl|rfl|rfl|rfl|rfl|rfl
  ·simp[zB,Obj.under,AV.unders,AV.under]
  all_goals trivial
 ·have:j=0∨j=1∨j=2∨j=3∨j=4∨j=5:=by simp at hj;omega
  rcases this with rfl|rfl|rfl|rfl|rfl|rfl <;> rfl
 ·exact hK
theorem is64_all(l:List Int):List.take l.length (is64 l)=is64 l:=List.take_of_length_le (by rw[is64_len];exact Nat.le_refl _)
theorem le_zone{a b:Obj}{n:Nat}{R:Nat->List Int}{d:D}:Le ⟨[.tup [.agg [.dat (.int .i64 0),.dat (.int .i64 0),.dat (.int .i64 0),.dat (.int .i64 (n:Int)),.dat (.int .i64 0),.sl 2 0 (R 0).length,.sl 3 0 (R 1).length,.sl 4 0 (R 2).length,.sl 5 0 (R 3).length,.sl 6 0 (R 4).length],.dat d]],a :: b :: zRs R,0,[]⟩
  ⟨[.tup [.dat (zoneD n R),.dat d]],[],0,[]⟩:=by
 unfold zRs
 refine Le.trans (le_freeze 2 (ag:=none) (xs:=is64 (R 0)) rfl (Nat.zero_le _)) ?_
 simp only[go_sem,is64_len,is64_all,List.drop_zero,Nat.le_refl,if_true]
 refine Le.trans (le_freeze 3 (ag:=none) (xs:=is64 (R 1)) rfl (Nat.zero_le _)) ?_
 simp only[go_sem,is64_len,is64_all,List.drop_zero,Nat.le_refl,if_true]
 refine Le.trans (le_freeze 4 (ag:=none) (xs:=is64 (R 2)) rfl (Nat.zero_le _)) ?_
 simp only[go_sem,is64_len,is64_all,List.drop_zero,Nat.le_refl,if_true]
 refine Le.trans (le_freeze 5 (ag:=none) (xs:=is64 (R 3)) rfl (Nat.zero_le _)) ?_
 simp only[go_sem,is64_len,is64_all,List.drop_zero,Nat.le_refl,if_true]
 refine Le.trans (le_freeze 6 (ag:=none) (xs:=is64 (R 4)) rfl (Nat.zero_le _)) ?_
 simp only[go_sem,is64_len,is64_all,List.drop_zero,Nat.le_refl,if_true]
 exact le_fin (by simp only[go_sem,zoneD,zD]) (by simp only[go_sem])
def newR(ds:List D)(v:AV):Prop:=∃n:Nat,1<=n/\n<=64/\ds=[.int .i64 0,.int .i64 0,.int .i64 0,.int .i64 (n:Int),.int .i64 0]/\v=.tup [.dat (zoneD n (fl (ltX n) n)),.dat (.int .i64 0)]
abbrev tabNw:List (Nat×Contract):=[(27,dataC rangesR),(28,lentC putR)]
theorem tabNw_ok:OkG Try.prog (tbl tabNw):=okG_cons ranges_ok (okG_cons put_ok okG_nil)
theorem new_ok:OkF Try.prog 17 (dataC newR):=by
 refine okF_data Try.func17 rfl (by decide) ?_
 rintro ds v ⟨n,h1,h64,rfl,rfl⟩
 refine sem_of_awp (Γ:=tbl tabNw) tabNw_ok _ _ _ ?_
 simp only[go_sem,Try.ntmps17]
 refine call_data rangesR (by simp) [zD n [] [] [] [] []] _ (by rfl) ⟨n,[],[],[],[],[],h1,h64,rfl,rfl⟩ (.inr rfl) ?_
 simp only[go_sem,Bool.not_true]
 refine sem_le (le_addnilR 1 5 none rfl rfl (Nat.zero_le _)) ?_
 refine sem_le (le_addnilR 1 6 none rfl rfl (Nat.zero_le _)) ?_
 refine sem_le (le_addnilR 1 7 none rfl rfl (Nat.zero_le _)) ?_
 refine sem_le (le_addnilR 1 8 none rfl rfl (Nat.zero_le _)) ?_
 refine sem_le (le_addnilR 1 9 none rfl rfl (Nat.zero_le _)) ?_
 refine sem_loop (fun f:Nat=>⟨slotsOf 35 [(2,.dat (.int .i64 0)),(3,.dat (.int .i64 (n:Int))),(10,.ptr 0 0 0),(12,.ptr 1 0 0),(13,.dat (.int .i64 (f:Int)))],zB0 :: zB2 n (fl (ltX f) n) :: zRs (fl (ltX f) n),0,[]⟩)
  (fun f=>f<=n) (fun f=>n - f) 0 (Nat.zero_le _) ?_ ?_
 ·simp only[zB2,zRs,fl_zero]
  exact le_slots' (by simp only[go_sem,Int.natCast_zero])
 intro f hf
 refine sem_of_awp (Γ:=tbl tabNw) tabNw_ok _ _ _ ?_
 have c0:inR .i64 (n:Int):=inR_i64.2 (by omega)
 rcases Nat.lt_or_ge f n with hlt|hge
 ·have k1:(f:Int)<n:=by omega
  simp only[go_sem,k1,c0,Int.zero_add,decide_true]
  refine call_putN (by simp) h1 h64 hlt (fun i hi=>by simpa [ltX] using hi) ?_
  rw[ltX_add]
  simp only[go_sem]
  refine⟨inR_i64.2 (by omega),f+1,by omega,by omega,?_⟩
  exact le_slots' (by simp only[go_sem,Int.natCast_add,Int.cast_ofNat_Int])
 ·obtain rfl:f=n:=by omega
  have k1:¬(f:Int)<f:=by omega
  generalize fl (ltX f) f=R at *
  unfold zB0 zB2 zRs
  simp only[go_sem,k1,c0,Int.zero_add,decide_false]
  refine post_res (.inl rfl) [.cell 10 33,.tmp 11] rfl ?_
  simp only[go_sem]
  exact le_zone
end Go.AM
namespace Go.AM
open Go Go.Proofs
def frN(X:Nat->Bool)(n:Nat):List Nat:=(List.range n).filter X
def fr(X:Nat->Bool)(n:Nat):List Int:=(frN X n).map fun i:Nat=>(i:Int)
theorem fr_len(X:Nat->Bool)(n:Nat):(fr X n).length=(frN X n).length:=List.length_map _
theorem frN_sorted(X:Nat->Bool)(n:Nat):(frN X n).Pairwise (· < ·):=List.pairwise_lt_range.filter _
theorem frN_lt{X:Nat->Bool}{n k:Nat}(h:k<(frN X n).length):(frN X n)[k]<n:=by
 have:=List.getElem_mem h
 exact List.mem_range.1 (List.mem_filter.1 this).1
theorem frN_len(X:Nat->Bool)(n:Nat):(frN X n).length<=n:=by
 have:=List.length_filter_le X (List.range n)
 rwa [List.length_range]at this
def preX(X:Nat->Bool)(n k:Nat):Nat->Bool:=fun i=>decide (i∈(frN X n).take k)
theorem preX_lt{X:Nat->Bool}{n k:Nat}(h:k<(frN X n).length):∀i,preX X n k i=true->i<(frN X n)[k]:=by
 intro i hi
 have hi:=of_decide_eq_true hi
 obtain⟨j,hj,rfl⟩:=List.getElem_of_mem hi
 rw[List.getElem_take]
 rw[List.length_take]at hj
 exact List.pairwise_iff_getElem.1 (frN_sorted X n) j k _ h (by omega)
theorem preX_add{X:Nat->Bool}{n k:Nat}(h:k<(frN X n).length):addX (preX X n k) (frN X n)[k]=preX X n (k+1):=by
 funext i
 unfold addX preX
 rw[← Bool.decide_or,List.take_succ_eq_append_getElem h]
 exact decide_eq_decide.2 (by rw[List.mem_append,List.mem_singleton])
theorem preX_zero(X:Nat->Bool)(n:Nat):preX X n 0=ltX 0:=by
 funext i
 simp[preX,ltX]
theorem preX_all{X:Nat->Bool}{n:Nat}(hX:∀i,X i=true->i<n):preX X n (frN X n).length=X:=by
 funext i
 unfold preX frN
 rw[List.take_length]
 cases h:X i with
 | true=>simp[h,hX i h]
 | false=>simp[h]
theorem call_putB{l:List (Nat×Contract)}(hm:(28,lentC putR)∈l){K:AV->List Obj->List Nat->Prop}{X:Nat->Bool}{n f:Nat}(h1:1<=n)(h64:n<=64)(hf:f<n)(hX:∀i,X i=true->i<f)
  (hK:K (.tup []) (zB2 n (fl (addX X f) n) :: zB0 :: zRs (fl (addX X f) n)) [2,3,4,5,6]):callw (tbl l) (.fn 28 []) [.ptr 0 0 0,.dat (.int .i64 (f:Int)),.dat (.int .i64 0)] (zB2 n (fl X n) :: zB0 :: zRs (fl X n)) K:=by
 refine call_lent putR hm [0,2,3,4,5,6] ⟨X,n,f,h1,h64,hf,hX,rfl,rfl,rfl,rfl,rfl,rfl⟩ (by decide) (by simp[zRs]) rfl rfl rfl (by simp[AV.unders,AV.under]) ?_ (fun j hj=>?_) ?_
 ·intro x hx
  simp only[zO,List.mem_cons,List.not_mem_nil,or_false]at hx
  rcases hx with rfl|rfl|rfl|rfl|rfl|rfl
  ·simp[zB,Obj.under,AV.unders,AV.under]
  all_goals trivial
 ·have:j=0∨j=1∨j=2∨j=3∨j=4∨j=5:=by simp at hj;omega
  rcases this with rfl|rfl|rfl|rfl|rfl|rfl <;> rfl
 ·exact hK
def buildR(ds:List D)(v:AV):Prop:=∃(X:Nat->Bool) (n:Nat) (r0 r1 r2 r3 r4:List D),1<=n/\n<=64/\(∀i,X i=true->i<n)/\ds=[zD n r0 r1 r2 r3 r4,.sl none (is64 (fr X n))]/\v=.tup [.dat (zoneD n (fl X n)),.dat (.int .i64 0)]
abbrev tabBd:List (Nat×Contract):=[(27,dataC rangesR),(29,dataC insideR),(28,lentC putR)]
theorem tabBd_ok:OkG Try.prog (tbl tabBd):=okG_cons ranges_ok (okG_cons inside_ok (okG_cons put_ok okG_nil))
theorem build_ok:OkF Try.prog 18 (dataC buildR):=by
 refine okF_data Try.func18 rfl (by decide) ?_
 rintro ds v ⟨X,n,r0,r1,r2,r3,r4,h1,h64,hX,rfl,rfl⟩
 refine sem_of_awp (Γ:=tbl tabBd) tabBd_ok _ _ _ ?_
 have hfl:=fr_len X n
 have hfr:=is64_len (fr X n)
 have hfn:=frN_len X n
 rw[hfl]at hfr
 have nth:∀k (h:k<(frN X n).length),D.nth (is64 (fr X n)) k=.int .i64 ((frN X n)[k]:Nat):=fun k h=>by
  rw[nth_is64 (by rw[hfl];exact h)]
  simp[fr]
 unfold zD
 simp only[go_sem,Try.ntmps18]
 refine call_data rangesR (by simp) [zD n r0 r1 r2 r3 r4] _ (by rfl) ⟨n,r0,r1,r2,r3,r4,h1,h64,rfl,rfl⟩ (.inr rfl) ?_
 simp only[go_sem,Bool.not_true]
 simp only[go_sem,hfr]
 refine sem_loop (fun k:Nat=>⟨slotsOf 51 [(1,.dat (.sl none (is64 (fr X n)))),(2,.ptr 0 0 0),(4,.ptr 1 0 0),(16,.dat (.sl none (is64 (fr X n)))),(17,.dat (.int .i64 ((frN X n).length:Int))),(18,.dat (.int .i64 (k:Int)))],
   [.box [.dat (.int .i64 0),.dat (.int .i64 0),.dat (.int .i64 0),.dat (.int .i64 (n:Int)),.dat (.int .i64 0),.nils,.nils,.nils,.nils,.nils],zB0],0,[]⟩)
  (fun k=>k<=(frN X n).length) (fun k=>(frN X n).length - k) 0 (Nat.zero_le _) ?_ ?_
 ·simp only[zB0]
  exact le_slots' (by simp only[go_sem,Int.natCast_zero])
 intro k hk
 refine sem_of_awp (Γ:=tbl tabBd) tabBd_ok _ _ _ ?_
 rcases Nat.lt_or_ge k (frN X n).length with hlt|hge
 ·have k1:(k:Int)<(frN X n).length:=by omega
  have k2:(0:Int)<=k:=by omega
  have hnx:=nth k hlt
  have hfl2:=frN_lt hlt
  have hins:insB n (frN X n)[k] 0=true:=by unfold insB;simp[Nat.mod_one];omega
  simp only[go_sem,k1,k2,hlt,hfr,hnx,Int.toNat_natCast,decide_true]
  refine call_data insideR (by simp) [zD n [] [] [] [] [],.int .i64 ((frN X n)[k]:Nat),.int .i64 ((0:Nat):Int)] _ (by rfl) ⟨n,(frN X n)[k],0,[],[],[],[],[],h1,h64,by omega,by omega,rfl,rfl⟩ (.inr rfl) ?_
  have nxt:∀s own,Le ⟨s,own,0,[]⟩ ⟨s,own,0,[]⟩:=fun _ _=>Le.refl _
  cases k with
  | zero =>
   have k3:¬(0:Int)<((0:Nat):Int):=by omega
   simp only[go_sem,hins,k3,Int.natCast_zero,Bool.not_true,decide_false]
   refine⟨inR_i64.2 (by omega),1,by omega,by omega,?_⟩
   exact le_slots' (by simp only[go_sem,Int.natCast_add,Int.cast_ofNat_Int,Int.natCast_one])
  | succ j =>
   have k3:(0:Int)<((j+1:Nat):Int):=by omega
   have e1:((j+1:Nat):Int) - 1=(j:Int):=by omega
   have j2:(0:Int)<=j:=by omega
   have j1:(j:Int)<(frN X n).length:=by omega
   have jlt:j<(frN X n).length:=by omega
   have hny:=nth j jlt
   have hs:=List.pairwise_iff_getElem.1 (frN_sorted X n) j (j+1) jlt hlt (by omega)
   have k4:¬(((frN X n)[j+1]:Nat):Int)<=(((frN X n)[j]:Nat):Int):=by omega
   simp only[go_sem,hins,k3,e1,j1,j2,jlt,hfr,hny,k4,Bool.not_true,decide_false,decide_true,Int.toNat_natCast]
   refine⟨inR_i64.2 (by omega),inR_i64.2 (by omega),j+2,by omega,by omega,?_⟩
   exact le_slots' (by simp only[go_sem,Int.natCast_add,Int.cast_ofNat_Int,Int.natCast_one,Int.add_assoc])
 ·obtain rfl:k=(frN X n).length:=by omega
  have k1:¬((frN X n).length:Int)<(frN X n).length:=by omega
  simp only[go_sem,k1,hfr,decide_false]
  refine sem_le (le_addnilR 0 5 none rfl rfl (Nat.zero_le _)) ?_
  refine sem_le (le_addnilR 0 6 none rfl rfl (Nat.zero_le _)) ?_
  refine sem_le (le_addnilR 0 7 none rfl rfl (Nat.zero_le _)) ?_
  refine sem_le (le_addnilR 0 8 none rfl rfl (Nat.zero_le _)) ?_
  refine sem_le (le_addnilR 0 9 none rfl rfl (Nat.zero_le _)) ?_
  refine sem_loop (fun k:Nat=>⟨slotsOf 51 [(2,.ptr 0 0 0),(4,.ptr 1 0 0),(41,.dat (.sl none (is64 (fr X n)))),(42,.dat (.int .i64 ((frN X n).length:Int))),(43,.dat (.int .i64 (k:Int)))],
    zB2 n (fl (preX X n k) n) :: zB0 :: zRs (fl (preX X n k) n),0,[]⟩)
   (fun k=>k<=(frN X n).length) (fun k=>(frN X n).length - k) 0 (Nat.zero_le _) ?_ ?_
  ·simp only[zB0,zB2,zRs,preX_zero,fl_zero]
   exact le_slots' (by simp only[go_sem,Int.natCast_zero])
  intro k hk
  refine sem_of_awp (Γ:=tbl tabBd) tabBd_ok _ _ _ ?_
  rcases Nat.lt_or_ge k (frN X n).length with hlt|hge
  ·have k1:(k:Int)<(frN X n).length:=by omega
   have k2:(0:Int)<=k:=by omega
   have hnx:=nth k hlt
   have hfl2:=frN_lt hlt
   simp only[go_sem,k1,k2,hlt,hfr,hnx,Int.toNat_natCast,decide_true]
   refine call_putB (by simp) h1 h64 hfl2 (preX_lt hlt) ?_
   rw[preX_add hlt]
   simp only[go_sem]
   refine⟨inR_i64.2 (by omega),k+1,by omega,by omega,?_⟩
   exact le_slots' (by simp only[go_sem,Int.natCast_add,Int.cast_ofNat_Int])
  ·obtain rfl:k=(frN X n).length:=by omega
   have k1:¬((frN X n).length:Int)<(frN X n).length:=by omega
   rw[preX_all hX]
   generalize fl X n=R at *
   unfold zB0 zB2 zRs
   simp only[go_sem,k1,decide_false]
   refine post_res (.inl rfl) [.cell 4 33,.tmp 5] rfl ?_
   simp only[go_sem]
   exact le_zone
end Go.AM
namespace Go.AM
open Go Go.Proofs
def frX(cs:List Int):Nat->Bool:=fun i=>decide (cs[i]?=some 0)
theorem frX_lt(cs:List Int):∀i,frX cs i=true->i<cs.length:=by
 intro i hi
 have:=of_decide_eq_true hi
 rcases Nat.lt_or_ge i cs.length with h|h
 ·exact h
 ·rw[List.getElem?_eq_none h]at this;cases this
theorem fr_succ(X:Nat->Bool)(k:Nat):fr X (k+1)=fr X k++if X k then [(k:Int)] else []:=by
 unfold fr frN
 rw[List.range_succ,List.filter_append,List.map_append]
 cases h:X k <;> simp[h]
theorem fr_le(X:Nat->Bool)(k:Nat):(fr X k).length<=k:=by rw[fr_len];exact frN_len X k
def bzR(ds:List D)(v:AV):Prop:=∃cs:List Int,1<=cs.length/\cs.length<=64/\ds=[.sl none (is64 cs)]/\v=.tup [.dat (zoneD cs.length (fl (frX cs) cs.length)),.dat (.bool true)]
abbrev tabBz:List (Nat×Contract):=[(17,dataC newR),(18,frzC (dataC buildR))]
theorem tabBz_ok:OkG Try.prog (tbl tabBz):=okG_cons new_ok (okG_cons (okF_frz build_ok) okG_nil)
theorem bzone_sem:∀ds v,bzR ds v->∀body,Try.f8.body=some body->sem Try.prog body (post Try.prog Try.f8 v [] []) ⟨ds.map .dat++List.replicate (Try.f8.ntmps - (ds.map AV.dat).length) .top,[],0,[]⟩:=by
 rintro ds v ⟨cs,h1,h64,rfl,rfl⟩ body hbody
 obtain rfl:=Option.some.inj (hbody.symm.trans (rfl:Try.f8.body=some _))
 refine sem_of_awp (Γ:=tbl tabBz) tabBz_ok _ _ _ ?_
 have hlen:=is64_len cs
 simp only[go_sem,Try.ntmps8,hlen]
 refine call_data newR (by simp) _ _ (by rfl) ⟨cs.length,h1,h64,rfl,rfl⟩ (.inl rfl) ?_
 unfold zoneD zD
 simp only[go_sem,hlen]
 refine sem_le (le_addnil 6 none rfl (Nat.zero_le _)) ?_
 generalize fl (ltX cs.length) cs.length=R0
 have hz:zB0=.box [.dat (.int .i64 0),.dat (.int .i64 0),.dat (.int .i64 0),.dat (.int .i64 0),.dat (.int .i64 0),.nils,.nils,.nils,.nils,.nils]:=rfl
 refine sem_loop (fun k:Nat=>⟨slotsOf 43 [(2,.ptr 0 0 0),(3,.dat (.bool false)),(4,.ptr 1 0 0),(5,.dat (.int .i64 0)),(6,.sl 2 0 (fr (frX cs) k).length),(16,.dat (.sl none (is64 cs))),(17,.dat (.int .i64 (cs.length:Int))),(18,.dat (.int .i64 (k:Int)))],
   [zB0,.box [.dat (.int .i64 0),.dat (.int .i64 0),.dat (.int .i64 0),.dat (.int .i64 (cs.length:Int)),.dat (.int .i64 0),.dat (.sl none (is64 (R0 0))),.dat (.sl none (is64 (R0 1))),.dat (.sl none (is64 (R0 2))),.dat (.sl none (is64 (R0 3))),.dat (.sl none (is64 (R0 4)))],.row none (is64 (fr (frX cs) k))],0,[]⟩)
  (fun k=>k<=cs.length) (fun k=>cs.length - k) 0 (Nat.zero_le _) ?_ ?_
 ·simp only[hz]
  have f0:fr (frX cs) 0=[]:=rfl
  rw[f0]
  exact le_slots' (by simp only[go_sem,Int.natCast_zero,List.length_nil])
 intro k hk
 refine sem_of_awp (Γ:=tbl tabBz) tabBz_ok _ _ _ ?_
 have hfl:=fr_le (frX cs) k
 have hfi:=is64_len (fr (frX cs) k)
 rcases Nat.lt_or_ge k cs.length with hlt|hge
 ·have k1:(k:Int)<cs.length:=by omega
  have k2:(0:Int)<=k:=by omega
  have hnx:=nth_is64 hlt
  have hsu:=fr_succ (frX cs) k
  have hXk:frX cs k=decide (cs[k]=0):=by unfold frX;rw[List.getElem?_eq_getElem hlt];simp
  rw[hXk]at hsu
  generalize cs[k]=c at *
  by_cases hc:c=0
  ·simp only[hc,decide_true,if_true]at hsu
   simp only[go_sem,k1,k2,hlt,hlen,hnx,hc,Int.toNat_natCast,decide_true,hfi,is64_all]
   refine⟨fun d hd=>(by rw[List.mem_singleton]at hd;subst hd;exact⟨rfl,rfl⟩),by omega,by omega,inR_i64.2 (by omega),k+1,by omega,by omega,?_⟩
   rw[hsu]
   have e1:is64 (fr (frX cs) k++[(k:Int)])=is64 (fr (frX cs) k)++[.int .i64 (k:Int)]:=by unfold is64;simp
   rw[e1]
   refine le_end (own:=[_,_,_]) (ex:=[_]) (Nat.zero_le _) ?_ ?_ ?_
   ·simp only[go_sem,Int.natCast_add,Int.cast_ofNat_Int,List.length_append,List.length_singleton]
   ·simp only[go_sem]
   ·simp only[go_sem,hz,Obj.under,AV.unders,AV.under]
  ·simp only[hc,decide_false,Bool.false_eq_true,if_false,List.append_nil]at hsu
   simp only[go_sem,k1,k2,hlt,hlen,hnx,hc,Int.toNat_natCast,decide_true,decide_false]
   refine⟨inR_i64.2 (by omega),k+1,by omega,by omega,?_⟩
   rw[hsu]
   exact le_slots' (by simp only[go_sem,Int.natCast_add,Int.cast_ofNat_Int])
 ·obtain rfl:k=cs.length:=by omega
  have k1:¬(cs.length:Int)<cs.length:=by omega
  simp only[go_sem,k1,decide_false]
  refine call_frzdata buildR (by simp) 2 (ag:=none) (xs:=is64 (fr (frX cs) cs.length)) rfl [zD cs.length (is64 (R0 0)) (is64 (R0 1)) (is64 (R0 2)) (is64 (R0 3)) (is64 (R0 4)),.sl none (is64 (fr (frX cs) cs.length))] _ ?_ ⟨frX cs,cs.length,_,_,_,_,_,h1,h64,frX_lt cs,rfl,rfl⟩ ?_ ?_
  ·simp only[go_sem,is64_all,List.drop_zero,hfi,Nat.le_refl,Nat.zero_add,if_true]
   rfl
  ·refine .inl ?_
   simp only[go_sem,is64_all,List.drop_zero,hfi,Nat.le_refl,Nat.zero_add,if_true]
   rfl
  ·unfold zoneD zD
   generalize fl (frX cs) cs.length=R
   simp only[go_sem,hz]
   refine post_res (.inl rfl) [.cell 2 33,.tmp 3] rfl ?_
   simp only[go_sem]
   exact le_fin (by simp only[go_sem]) (by simp only[go_sem])
theorem bzone_ok:OkF Try.prog 8 (dataC bzR):=okF_data Try.func8 rfl (by decide) fun ds v h=>bzone_sem ds v h _ rfl
end Go.AM
namespace Go.AM
open Go Go.Proofs
def u8D(l:List Nat):List D:=l.map fun x:Nat=>D.int .u8 (x:Int)
theorem u8D_len(l:List Nat):(u8D l).length=l.length:=List.length_map _
theorem nth_u8{l:List Nat}{i:Nat}(h:i<l.length):D.nth (u8D l) i=.int .u8 (l[i]:Nat):=by
 show (u8D l).getD i default=_
 rw[List.getD_eq_getElem?_getD]
 unfold u8D
 rw[List.getElem?_map,List.getElem?_eq_getElem h]
 rfl
def tab6(x:Nat):Int:=if x % 6=0 then 0 else if x % 6=1 then 1 else if x % 6=2 then 1 else if x % 6=3 then 2 else if x % 6=4 then 1 else 0
def bcs(l:List Nat):List Int:=0 :: l.map tab6
theorem bcs_len(l:List Nat):(bcs l).length=l.length+1:=by simp[bcs]
theorem bcs_take{l:List Nat}{k:Nat}(h:k<l.length):bcs (l.take (k+1))=bcs (l.take k)++[tab6 l[k]]:=by
 unfold bcs
 rw[List.take_succ_eq_append_getElem h,List.map_append]
 rfl
theorem nth6(x:Nat):D.nth [.int .i64 0,.int .i64 1,.int .i64 1,.int .i64 2,.int .i64 1,.int .i64 0] (x % 6)=.int .i64 (tab6 x):=by
 have h:x % 6<6:=Nat.mod_lt _ (by decide)
 unfold tab6
 generalize x % 6=r at *
 have:r=0∨r=1∨r=2∨r=3∨r=4∨r=5:=by omega
 rcases this with rfl|rfl|rfl|rfl|rfl|rfl <;> rfl
def bcR(ds:List D)(v:AV)(ob:List Obj):Prop:=∃l:List Nat,l.length<=1000/\(∀x∈l,x<256)/\ds=[.sl none (u8D l)]/\v=.sl 0 0 (bcs l).length/\ob=[.row none (is64 (bcs l))]
theorem bcells_ok:OkF Try.prog 5 (madeC bcR):=by
 refine okF_made Try.func5 rfl (by decide) ?_
 rintro ds v ob ⟨l,hl,hb,rfl,rfl,rfl⟩
 refine sem_of_awp (Γ:=tbl []) okG_nil _ _ _ ?_
 have hlen:=u8D_len l
 simp only[go_sem,Try.ntmps5,hlen]
 have one:∀x:Int,∀d∈[D.int .i64 x],(match d with|D.agg ds=>true|x=>false)=false/\(match d with|D.agg ds=>ds.length|x=>1)=1:=fun x d hd=>by rw[List.mem_singleton]at hd;subst hd;exact⟨rfl,rfl⟩
 refine⟨one 0,?_⟩
 refine sem_loop (fun k:Nat=>⟨slotsOf 24 [(3,.sl 0 0 (bcs (l.take k)).length),(7,.dat (.sl none (u8D l))),(8,.dat (.int .i64 (l.length:Int))),(9,.dat (.int .i64 (k:Int)))],
   [.row none (is64 (bcs (l.take k)))],0,[]⟩)
  (fun k=>k<=l.length) (fun k=>l.length - k) 0 (Nat.zero_le _) ?_ ?_
 ·have f0:bcs (l.take 0)=[0]:=rfl
  rw[f0]
  exact le_slots' (by simp only[go_sem,Int.natCast_zero,List.length_cons,List.length_nil])
 intro k hk
 refine sem_of_awp (Γ:=tbl []) okG_nil _ _ _ ?_
 have hbl:=bcs_len (l.take k)
 rw[List.length_take]at hbl
 have hbi:=is64_len (bcs (l.take k))
 rcases Nat.lt_or_ge k l.length with hlt|hge
 ·have k1:(k:Int)<l.length:=by omega
  have k2:(0:Int)<=k:=by omega
  have hnx:=nth_u8 hlt
  have hsu:=bcs_take hlt
  have hx:=hb _ (List.getElem_mem hlt)
  generalize l[k]=x at *
  generalize bcs (l.take k)=B at *
  have hm:((x:Nat):Int).tmod 6=((x % 6:Nat):Int):=(Int.ofNat_tmod x 6).symm
  have m1:((x % 6:Nat):Int)<6:=by omega
  have m2:(0:Int)<=((x % 6:Nat):Int):=by omega
  have m3:x % 6<6:=by omega
  have h6:=nth6 x
  have q:IntKind.i64.wrap (x:Int)=x:=wrap_of_inR (inR_i64.2 (by omega))
  simp only[go_sem,k1,k2,hlt,hlen,hnx,Int.toNat_natCast,decide_true,hm,m1,m2,m3,h6,q]
  have e1:is64 (B++[tab6 x])=is64 B++[.int .i64 (tab6 x)]:=by unfold is64;simp
  refine⟨fun d hd=>?_,inR_i64.2 (by omega),inR_i64.2 (by omega),one _,by omega,by omega,by omega,inR_i64.2 (by omega),k+1,by omega,by omega,?_⟩
  ·simp only[List.mem_cons,List.not_mem_nil,or_false]at hd
   rcases hd with rfl|rfl|rfl|rfl|rfl|rfl <;> exact⟨rfl,rfl⟩
  rw[hsu,e1,is64_all]
  refine le_end (own:=[_]) (ex:=[_,_]) (Nat.zero_le _) ?_ ?_ ?_
  ·simp only[go_sem,Int.natCast_add,Int.cast_ofNat_Int,List.length_append,List.length_singleton]
  ·simp only[go_sem]
  ·simp only[go_sem,Obj.under]
 ·obtain rfl:k=l.length:=by omega
  have k1:¬(l.length:Int)<l.length:=by omega
  simp only[go_sem,k1,List.take_length,decide_false]
  refine post_resO (.inl rfl) [.tmp 2] rfl (fun _ h=>h) ?_
  simp only[go_sem]
  exact Le.refl _
end Go.AM
namespace Go.AM
open Go
def sK(X:Nat->Bool)(n k:Nat):List Nat:=(List.range k).flatMap (frmK X n)
theorem sK_zero(X:Nat->Bool)(n:Nat):sK X n 0=[]:=rfl
theorem sK_succ(X:Nat->Bool)(n k:Nat):sK X n (k+1)=sK X n k++frmK X n k:=by
 unfold sK
 rw[List.range_succ,List.flatMap_append]
 simp
theorem sK_all(X:Nat->Bool)(n:Nat):sK X n 5=frmA X n:=rfl
theorem sK_pre(X:Nat->Bool)(n:Nat){k m:Nat}(h:k<=m):sK X n k <+: sK X n m:=by
 induction m with
 | zero =>
  obtain rfl:k=0:=by omega
  exact List.prefix_refl _
 | succ m ih =>
  rcases Nat.lt_or_ge k (m+1) with h'|h'
  ·rw[sK_succ]
   exact(ih (by omega)).trans (List.prefix_append _ _)
  ·obtain rfl:k=m+1:=by omega
   exact List.prefix_refl _
def blkF(b i:Nat):List Nat:=(List.range i).map (b+·)
theorem blkF_succ(b i:Nat):blkF b (i+1)=blkF b i++[b+i]:=by unfold blkF;rw[List.range_succ,List.map_append];rfl
theorem blkF_pre(b:Nat){i m:Nat}(h:i<=m):blkF b i <+: blkF b m:=by
 induction m with
 | zero =>
  obtain rfl:i=0:=by omega
  exact List.prefix_refl _
 | succ m ih =>
  rcases Nat.lt_or_ge i (m+1) with h'|h'
  ·rw[blkF_succ]
   exact(ih (by omega)).trans (List.prefix_append _ _)
  ·obtain rfl:i=m+1:=by omega
   exact List.prefix_refl _
theorem frmB_take{k:Nat}{bs:List Nat}{j:Nat}(h:j<bs.length):frmB k (bs.take (j+1))=frmB k (bs.take j)++blkF bs[j] (2 ^ k):=by
 unfold frmB blkF
 rw[List.take_succ_eq_append_getElem h,List.flatMap_append]
 simp
theorem frmB_pre{k:Nat}{bs:List Nat}{j:Nat}:frmB k (bs.take j) <+: frmB k bs:=by
 conv=>rhs;rw[← List.take_append_drop j bs]
 unfold frmB
 rw[List.flatMap_append]
 exact List.prefix_append _ _
theorem frm_pre{X:Nat->Bool}{n k j i:Nat}(hk:k<5)(hj:j<(freeL X n k).length)(hi:i<2 ^ k):sK X n k++frmB k ((freeL X n k).take j)++blkF (freeL X n k)[j] i++[(freeL X n k)[j]+i] <+: frmA X n:=by
 rw[List.append_assoc,← blkF_succ,← sK_all]
 refine List.IsPrefix.trans ?_ (sK_pre X n (show k+1<=5 by omega))
 rw[sK_succ,List.append_assoc,List.prefix_append_right_inj]
 have h2:frmB k ((freeL X n k).take j)++blkF (freeL X n k)[j] (i+1) <+: frmB k ((freeL X n k).take (j+1)):=by
  rw[frmB_take hj,List.prefix_append_right_inj]
  exact blkF_pre _ (by omega)
 exact h2.trans frmB_pre
theorem frm_new{X:Nat->Bool}{n k j i:Nat}(hk:k<5)(hj:j<(freeL X n k).length)(hi:i<2 ^ k):(freeL X n k)[j]+i∉sK X n k++frmB k ((freeL X n k).take j)++blkF (freeL X n k)[j] i:=by
 have h2:=(frmA_nodup X n).sublist (frm_pre hk hj hi).sublist
 intro hm
 rw[List.nodup_append]at h2
 exact h2.2.2 _ hm _ (List.mem_singleton.2 rfl) rfl
theorem frm_fit{X:Nat->Bool}{n k j i:Nat}(hX:∀i,X i=true->i<n)(hk:k<5)(hj:j<(freeL X n k).length)(hi:i<2 ^ k):(sK X n k++frmB k ((freeL X n k).take j)++blkF (freeL X n k)[j] i).length<n:=by
 have h1:=(frm_pre (X:=X) hk hj hi).length_le
 have h2:=(frmA_perm hX).length_eq
 have h3:=List.length_filter_le X (List.range n)
 rw[List.length_range]at h3
 rw[List.length_append,List.length_singleton]at h1
 omega
def seenD(S:List Nat):List D:=(seenL S).map D.bool
theorem seenD_len(S:List Nat):(seenD S).length=256:=by unfold seenD;rw[List.length_map,seen_len]
theorem seenD_nth{S:List Nat}{i:Nat}(h:i<256):D.nth (seenD S) i=.bool (decide (i∈S)):=by
 show (seenD S).getD i default=_
 rw[List.getD_eq_getElem?_getD]
 unfold seenD
 rw[List.getElem?_map,seen_get h]
 rfl
theorem seenD_set{S:List Nat}{i:Nat}(h:i<256):(seenD S).set i (.bool true)=seenD (S++[i]):=by
 unfold seenD
 rw[← List.map_set,seen_set h]
theorem seenD_nil:seenD []=List.replicate 256 (D.bool false):=by
 unfold seenD
 rw[seen_nil,List.map_replicate]
end Go.AM
namespace Go.AM
open Go Go.Proofs
def bckR(ds:List D)(v:AV):Prop:=∃(X:Nat->Bool) (n:Nat),1<=n/\n<=64/\(∀i,X i=true->i<n)/\ds=[zoneD n (fl X n)]/\v=.dat (.int .i64 0)
def zK(n:Nat)(R:Nat->List Int):Obj:=.box [.dat (.int .i64 0),.dat (.int .i64 0),.dat (.int .i64 0),.dat (.int .i64 (n:Int)),.dat (.int .i64 0),.dat (.sl none (is64 (R 0))),.dat (.sl none (is64 (R 1))),.dat (.sl none (is64 (R 2))),.dat (.sl none (is64 (R 3))),.dat (.sl none (is64 (R 4)))]
def rowsA(R:Nat->List Int):List AV:=[.dat (.sl none (is64 (R 0))),.dat (.sl none (is64 (R 1))),.dat (.sl none (is64 (R 2))),.dat (.sl none (is64 (R 3))),.dat (.sl none (is64 (R 4)))]
theorem rowsA_get{R:Nat->List Int}{k:Nat}(h:k<5):(rowsA R).getD k .top=.dat (.sl none (is64 (R k))):=by
 have:k=0∨k=1∨k=2∨k=3∨k=4:=by omega
 rcases this with rfl|rfl|rfl|rfl|rfl <;> rfl
theorem fl_len'(X:Nat->Bool)(n k:Nat):(fl X n k).length=(freeL X n k).length:=List.length_map _
theorem nth_fl{X:Nat->Bool}{n k j:Nat}(h:j<(freeL X n k).length):D.nth (is64 (fl X n k)) j=.int .i64 (((freeL X n k)[j]:Nat):Int):=by
 rw[nth_is64 (by rw[fl_len'];exact h)]
 simp[fl]
theorem free_insB{X:Nat->Bool}{n k b:Nat}(hX:∀i,X i=true->i<n)(h:b∈freeL X n k):insB n b k=true:=by
 obtain⟨h1,h2⟩:=free_inside hX h
 unfold insB
 simp[h1,h2]
abbrev tabCk:List (Nat×Contract):=[(27,dataC rangesR),(29,dataC insideR),(25,dataC bsR)]
theorem tabCk_ok:OkG Try.prog (tbl tabCk):=okG_cons ranges_ok (okG_cons inside_ok (okG_cons bsearch_ok okG_nil))
theorem check_ok:OkF Try.prog 19 (dataC bckR):=by
 refine okF_data Try.func19 rfl (by decide) ?_
 rintro ds v ⟨X,n,h1,h64,hX,rfl,rfl⟩
 refine sem_of_awp (Γ:=tbl tabCk) tabCk_ok _ _ _ ?_
 have hlen:=fun k=>is64_len (fl X n k)
 have hfl:=fun k=>fl_len' X n k
 have hle:=fun k=>fl_len X n k
 simp only[hfl]at hlen
 unfold zoneD zD
 simp only[go_sem,Try.ntmps19]
 refine call_data rangesR (by simp) [zoneD n (fl X n)] _ (by rfl) ⟨n,_,_,_,_,_,h1,h64,rfl,rfl⟩ (.inr rfl) ?_
 simp only[go_sem,Bool.not_true]
 refine sem_loop (fun k:Nat=>⟨slotsOf 118 [(1,.ptr 0 0 0),(23,.agg (rowsA (fl X n))),(24,.dat (.int .i64 (k:Int)))],[zK n (fl X n)],0,[]⟩) (fun k=>k<=5) (fun k=>5 - k) 0 (Nat.zero_le _) ?_ ?_
 ·simp only[rowsA,zK]
  exact le_slots' (by simp only[go_sem,Int.natCast_zero])
 intro k hk
 refine sem_of_awp (Γ:=tbl tabCk) tabCk_ok _ _ _ ?_
 rcases Nat.lt_or_ge k 5 with hlt|hge
 ·have k1:(k:Int)<5:=by omega
  have k2:(0:Int)<=k:=by omega
  have hg:=rowsA_get (R:=fl X n) hlt
  have hrl:(rowsA (fl X n)).length=5:=rfl
  simp only[go_sem,k1,k2,hg,hlen,hrl,hlt,Int.toNat_natCast,decide_true]
  refine sem_loop (fun j:Nat=>⟨slotsOf 118 [(1,.ptr 0 0 0),(3,.dat (.int .i64 (k:Int))),(4,.dat (.sl none (is64 (fl X n k)))),(23,.agg (rowsA (fl X n))),(24,.dat (.int .i64 (k:Int))),(28,.dat (.sl none (is64 (fl X n k)))),(29,.dat (.int .i64 ((freeL X n k).length:Int))),(30,.dat (.int .i64 (j:Int)))],[zK n (fl X n)],0,[]⟩)
   (fun j=>j<=(freeL X n k).length) (fun j=>(freeL X n k).length - j) 0 (Nat.zero_le _) ?_ ?_
  ·exact le_slots' (by simp only[go_sem,Int.natCast_zero])
  intro j hj
  refine sem_of_awp (Γ:=tbl tabCk) tabCk_ok _ _ _ ?_
  have hlek:=hle k
  rw[hfl]at hlek
  rcases Nat.lt_or_ge j (freeL X n k).length with hlj|hgj
  ·have j1:(j:Int)<(freeL X n k).length:=by omega
   have j2:(0:Int)<=j:=by omega
   have hnx:=nth_fl hlj
   have hmem:=List.getElem_mem hlj
   have hins:=free_insB hX hmem
   have hbn:=(free_inside hX hmem).2
   have hp:=two_pos k
   unfold zK
   simp only[go_sem,j1,j2,hlj,hlen,hnx,Int.toNat_natCast,decide_true]
   refine call_data insideR (by simp) [zoneD n (fl X n),.int .i64 ((freeL X n k)[j]:Nat),.int .i64 (k:Int)] _ (by rfl) ⟨n,(freeL X n k)[j],k,_,_,_,_,_,h1,h64,by omega,by omega,rfl,rfl⟩ (.inr rfl) ?_
   cases j with
   | zero =>
    have k3:¬(0:Int)<((0:Nat):Int):=by omega
    simp only[go_sem,hins,k3,Int.natCast_zero,Bool.not_true,decide_false]
    refine⟨inR_i64.2 (by omega),1,by omega,by omega,?_⟩
    exact le_slots' (by simp only[go_sem,Int.natCast_add,Int.cast_ofNat_Int,Int.natCast_one])
   | succ m =>
    have k3:(0:Int)<((m+1:Nat):Int):=by omega
    have e1:((m+1:Nat):Int) - 1=(m:Int):=by omega
    have m2:(0:Int)<=m:=by omega
    have m1:(m:Int)<(freeL X n k).length:=by omega
    have mlt:m<(freeL X n k).length:=by omega
    have hny:=nth_fl mlt
    have hs:=List.pairwise_iff_getElem.1 (free_sorted X n k) m (m+1) mlt hlj (by omega)
    have k4:¬(((freeL X n k)[m+1]:Nat):Int)<=(((freeL X n k)[m]:Nat):Int):=by omega
    simp only[go_sem,hins,k3,e1,m1,m2,mlt,hlen,hny,k4,Bool.not_true,decide_false,decide_true,Int.toNat_natCast]
    refine⟨inR_i64.2 (by omega),inR_i64.2 (by omega),m+2,by omega,by omega,?_⟩
    exact le_slots' (by simp only[go_sem,Int.natCast_add,Int.cast_ofNat_Int,Int.natCast_one,Int.add_assoc])
  ·obtain rfl:j=(freeL X n k).length:=by omega
   have j1:¬((freeL X n k).length:Int)<(freeL X n k).length:=by omega
   simp only[go_sem,j1,decide_false]
   refine⟨inR_i64.2 (by omega),k+1,by omega,by omega,?_⟩
   exact le_slots' (by simp only[go_sem,Int.natCast_add,Int.cast_ofNat_Int,Int.natCast_one])
 obtain rfl:k=5:=by omega
 have hrl:(rowsA (fl X n)).length=5:=rfl
 unfold zK
 simp only[go_sem]
 rw[← seenD_nil]
 clear hk hge
 refine sem_loop (fun k:Nat=>⟨slotsOf 118 [(1,.ptr 0 0 0),(7,.ptr 1 0 0),(54,.agg (rowsA (fl X n))),(55,.dat (.int .i64 (k:Int)))],[zK n (fl X n),.row none (seenD (sK X n k))],0,[]⟩) (fun k=>k<=5) (fun k=>5 - k) 0 (Nat.zero_le _) ?_ ?_
 ·simp only[rowsA,zK,sK_zero]
  exact le_slots' (by simp only[go_sem,Int.natCast_zero])
 intro k hk
 refine sem_of_awp (Γ:=tbl tabCk) tabCk_ok _ _ _ ?_
 rcases Nat.lt_or_ge k 5 with hlt|hge
 ·have k1:(k:Int)<5:=by omega
  have k2:(0:Int)<=k:=by omega
  have hg:=rowsA_get (R:=fl X n) hlt
  have hsh:=shl_one hlt
  simp only[go_sem,k1,k2,hg,hlen,hrl,hlt,Int.toNat_natCast,decide_true]
  refine sem_loop (fun j:Nat=>⟨slotsOf 118 [(1,.ptr 0 0 0),(7,.ptr 1 0 0),(8,.dat (.int .i64 (k:Int))),(54,.agg (rowsA (fl X n))),(55,.dat (.int .i64 (k:Int))),(59,.dat (.sl none (is64 (fl X n k)))),(60,.dat (.int .i64 ((freeL X n k).length:Int))),(61,.dat (.int .i64 (j:Int)))],
    [zK n (fl X n),.row none (seenD (sK X n k++frmB k ((freeL X n k).take j)))],0,[]⟩)
   (fun j=>j<=(freeL X n k).length) (fun j=>(freeL X n k).length - j) 0 (Nat.zero_le _) ?_ ?_
  ·have f0:sK X n k++frmB k ((freeL X n k).take 0)=sK X n k:=by simp[frmB]
   rw[f0]
   exact le_slots' (by simp only[go_sem,Int.natCast_zero])
  intro j hj
  refine sem_of_awp (Γ:=tbl tabCk) tabCk_ok _ _ _ ?_
  have hlek:=hle k
  rw[hfl]at hlek
  rcases Nat.lt_or_ge j (freeL X n k).length with hlj|hgj
  ·have j1:(j:Int)<(freeL X n k).length:=by omega
   have j2:(0:Int)<=j:=by omega
   have hnx:=nth_fl hlj
   have hbn:=(free_inside hX (List.getElem_mem hlj)).2
   have hnew:=fun i=>frm_new (X:=X) (n:=n) (i:=i) hlt hlj
   have hnj:=frmB_take (k:=k) hlj
   simp only[go_sem,j1,j2,hlj,hlen,hnx,Int.toNat_natCast,decide_true]
   generalize (freeL X n k)[j]=b at *
   refine sem_loop (fun i:Nat=>⟨slotsOf 118 [(1,.ptr 0 0 0),(7,.ptr 1 0 0),(8,.dat (.int .i64 (k:Int))),(11,.dat (.int .i64 (b:Int))),(12,.dat (.int .i64 ((b+i:Nat):Int))),(54,.agg (rowsA (fl X n))),(55,.dat (.int .i64 (k:Int))),(59,.dat (.sl none (is64 (fl X n k)))),(60,.dat (.int .i64 ((freeL X n k).length:Int))),(61,.dat (.int .i64 (j:Int)))],
     [zK n (fl X n),.row none (seenD (sK X n k++frmB k ((freeL X n k).take j)++blkF b i))],0,[]⟩)
    (fun i=>i<=2 ^ k) (fun i=>2 ^ k - i) 0 (Nat.zero_le _) ?_ ?_
   ·have f0:blkF b 0=[]:=rfl
    rw[f0,List.append_nil,Nat.add_zero]
    exact le_slots' (by simp only[go_sem,Int.natCast_zero])
   intro i hi
   refine sem_of_awp (Γ:=tbl tabCk) tabCk_ok _ _ _ ?_
   have hin:inR .i64 ((b:Int)+((2 ^ k:Nat):Int)):=inR_i64.2 (by omega)
   rcases Nat.lt_or_ge i (2 ^ k) with hil|hig
   ·have i1:((b+i:Nat):Int)<(b:Int)+((2 ^ k:Nat):Int):=by omega
    have i2:(0:Int)<=((b+i:Nat):Int):=by omega
    have i3:((b+i:Nat):Int)<256:=by omega
    have i4:b+i<256:=by omega
    have hn2:=hnew i hil
    have hsu:=blkF_succ b i
    have hnt:=seenD_nth (S:=sK X n k++frmB k ((freeL X n k).take j)++blkF b i) i4
    have hst:=seenD_set (S:=sK X n k++frmB k ((freeL X n k).take j)++blkF b i) i4
    have hsl:=seenD_len (sK X n k++frmB k ((freeL X n k).take j)++blkF b i)
    rw[decide_eq_false hn2]at hnt
    rw[List.append_assoc _ (blkF b i),← hsu]at hst
    generalize 2 ^ k=w at *
    simp only[go_sem,k2,hsh,hin,i1,i2,i3,i4,hsl,hnt,hst,Int.toNat_natCast,decide_true,decide_false]
    refine⟨inR_i64.2 (by omega),i+1,by omega,by omega,?_⟩
    exact le_slots' (by simp only[go_sem,Int.natCast_add,Int.cast_ofNat_Int,Int.natCast_one,Int.add_assoc])
   ·obtain rfl:i=2 ^ k:=by omega
    have i1:¬((b+2 ^ k:Nat):Int)<(b:Int)+((2 ^ k:Nat):Int):=by omega
    rw[List.append_assoc,← hnj]
    generalize 2 ^ k=w at *
    simp only[go_sem,k2,hsh,hin,i1,decide_false]
    refine⟨inR_i64.2 (by omega),j+1,by omega,by omega,?_⟩
    exact le_slots' (by simp only[go_sem,Int.natCast_add,Int.cast_ofNat_Int,Int.natCast_one,Int.add_assoc])
  ·obtain rfl:j=(freeL X n k).length:=by omega
   have j1:¬((freeL X n k).length:Int)<(freeL X n k).length:=by omega
   rw[List.take_length,← frmK_eq,← sK_succ]
   simp only[go_sem,j1,decide_false]
   refine⟨inR_i64.2 (by omega),k+1,by omega,by omega,?_⟩
   exact le_slots' (by simp only[go_sem,Int.natCast_add,Int.cast_ofNat_Int,Int.natCast_one])
 obtain rfl:k=5:=by omega
 simp only[go_sem]
 clear hk hge
 refine sem_loop (fun k:Nat=>⟨slotsOf 118 [(1,.ptr 0 0 0),(81,.dat (.int .i64 (k:Int)))],[zK n (fl X n)],0,[]⟩) (fun k=>k<=4) (fun k=>4 - k) 0 (Nat.zero_le _) ?_ ?_
 ·refine le_end (own:=[_]) (ex:=[_]) (Nat.zero_le _) ?_ ?_ ?_
  ·simp only[go_sem,Int.natCast_zero]
  ·simp only[go_sem]
  ·simp only[go_sem,zK,Obj.under,AV.unders,AV.under]
 intro k hk
 refine sem_of_awp (Γ:=tbl tabCk) tabCk_ok _ _ _ ?_
 rcases Nat.lt_or_ge k 4 with hlt|hge
 ·have hk4:k=0∨k=1∨k=2∨k=3:=by omega
  have hxb:=fun b (h:b<64)=>xor_bud (k:=k) (f:=b) hlt h
  have hout:=fun b (h:b∈freeL X n k)=>bud_out hlt h
  have hnth:=fun j (h:j<(freeL X n k).length)=>nth_fl h
  have hsort:=fl_sorted X n k
  have hlek:=hle k
  rw[hfl]at hlek
  have hlk:=hlen k
  have hin:=fun b (h:b∈freeL X n k)=>(free_inside hX h).2
  have hflk:=hfl k
  have hct:∀b:Nat,b∉freeL X n k->(fl X n k).contains (b:Int)=false:=fun b h=>by
   rw[Bool.eq_false_iff];intro hc;exact h (fl_mem.1 hc)
  obtain⟨Z,hZ⟩:∃Z,Z=fl X n k:=⟨_,rfl⟩
  obtain⟨kk,hkk⟩:∃kk:Int,kk=(k:Int):=⟨_,rfl⟩
  obtain⟨k1,hk1⟩:∃k1,k1=k+1:=⟨_,rfl⟩
  rcases hk4 with rfl|rfl|rfl|rfl
  all_goals
   simp only[Int.natCast_zero,Int.natCast_one,Int.cast_ofNat_Int]at hxb hkk
   unfold zK
   simp only[go_sem,hlk]
   generalize hL:freeL X n _=L at *
   refine sem_loop (fun j:Nat=>⟨slotsOf 118 [(1,.ptr 0 0 0),(13,.dat (.int .i64 kk)),(81,.dat (.int .i64 kk)),(87,.dat (.sl none (is64 Z))),(88,.dat (.int .i64 (L.length:Int))),(89,.dat (.int .i64 (j:Int)))],[.box [.dat (.int .i64 0),.dat (.int .i64 0),.dat (.int .i64 0),.dat (.int .i64 (n:Int)),.dat (.int .i64 0),.dat (.sl none (is64 (fl X n 0))),.dat (.sl none (is64 (fl X n 1))),.dat (.sl none (is64 (fl X n 2))),.dat (.sl none (is64 (fl X n 3))),.dat (.sl none (is64 (fl X n 4)))]],0,[]⟩)
    (fun j=>j<=L.length) (fun j=>L.length - j) 0 (Nat.zero_le _) ?_ ?_
   ·simp only[hZ,hkk]
    exact le_slots' (by simp only[go_sem,Int.natCast_zero])
   intro j hj
   simp only[hZ,hkk]
   refine sem_of_awp (Γ:=tbl tabCk) tabCk_ok _ _ _ ?_
   rcases Nat.lt_or_ge j L.length with hlj|hgj
   ·have j1:(j:Int)<L.length:=by omega
    have j2:(0:Int)<=j:=by omega
    have hnx:=hnth j hlj
    have hmem:=List.getElem_mem hlj
    have hbn:=hin _ hmem
    have hx:=hxb L[j] (by omega)
    have hc:=hct _ (hout _ hmem)
    simp only[go_sem,j1,j2,hlj,hlk,hnx,hx,Int.toNat_natCast,decide_true]
    refine call_data bsR (by simp) [.sl none (is64 (fl X n _)),.int .i64 _] _ (by rfl) ⟨_,_,by rw[hflk];omega,hsort,rfl,rfl⟩ (.inr rfl) ?_
    simp only[go_sem,hc]
    refine⟨inR_i64.2 (by omega),j+1,by omega,by omega,?_⟩
    exact le_slots' (by simp only[go_sem,Int.natCast_add,Int.cast_ofNat_Int,Int.natCast_one])
   ·obtain rfl:j=L.length:=by omega
    have j1:¬(L.length:Int)<L.length:=by omega
    simp only[go_sem,j1,decide_false]
    refine⟨inR_i64.2 (by omega),k1,by omega,by omega,?_⟩
    simp only[hk1,zK]
    exact le_slots' (by simp only[go_sem,Int.natCast_add,Int.cast_ofNat_Int,Int.natCast_one])
 obtain rfl:k=4:=by omega
 simp only[go_sem]
 exact post_data (.inl rfl) [2] rfl trivial rfl
end Go.AM
namespace Go.AM
open Go Go.Proofs
theorem shl_lenAll:((List.range 5).all fun k=>(List.range 65).all fun a=>decide (shlV .i64 (a:Int) (k:Int)=((a*2 ^ k:Nat):Int)))=true:=by kernel_rfl
theorem shl_len{k a:Nat}(hk:k<5)(ha:a<65):shlV .i64 (a:Int) (k:Int)=((a*2 ^ k:Nat):Int):=by
 have h1:=List.all_eq_true.1 shl_lenAll k (List.mem_range.2 hk)
 exact of_decide_eq_true (List.all_eq_true.1 h1 a (List.mem_range.2 ha))
abbrev tabCn:List (Nat×Contract):=[(19,dataC bckR)]
theorem tabCn_ok:OkG Try.prog (tbl tabCn):=okG_cons check_ok okG_nil
def lastR(ds:List D)(v:AV):Prop:=∃(X:Nat->Bool) (n:Nat),1<=n/\n<=64/\(∀i,X i=true->i<n)/\ds=[zoneD n (fl X n)]/\v=.dat (.int .i64 (((freeL X n 4).length*2 ^ 4:Nat):Int))
theorem last_ok:OkF Try.prog 22 (dataC lastR):=by
 refine okF_data Try.func22 rfl (by decide) ?_
 rintro ds v ⟨X,n,h1,h64,hX,rfl,rfl⟩
 refine sem_of_awp (Γ:=tbl tabCn) tabCn_ok _ _ _ ?_
 have hl:=is64_len (fl X n 4)
 have hfl:=fl_len' X n 4
 have hle:=fl_len X n 4
 rw[hfl]at hl hle
 have hs:=shl_len (k:=4) (a:=(freeL X n 4).length) (by omega) (by omega)
 simp only[Int.cast_ofNat_Int]at hs
 unfold zoneD zD
 simp only[go_sem,Try.ntmps22]
 refine call_data bckR (by simp) [zoneD n (fl X n)] _ (by rfl) ⟨X,n,h1,h64,hX,rfl,rfl⟩ (.inr rfl) ?_
 simp only[go_sem,Bool.not_true,decide_true,hl,hs]
 exact post_data (.inl rfl) [2] rfl trivial rfl
def sumK(X:Nat->Bool)(n:Nat):Nat->Nat
 | 0=>0
 | k+1=>sumK X n k+(freeL X n k).length*2 ^ k
def unR(ds:List D)(v:AV):Prop:=∃(X:Nat->Bool) (n:Nat),1<=n/\n<=64/\(∀i,X i=true->i<n)/\ds=[zoneD n (fl X n),.int .i64 4]/\v=.dat (.int .i64 ((sumK X n 4:Nat):Int))
def rowsD(R:Nat->List Int):List D:=[.sl none (is64 (R 0)),.sl none (is64 (R 1)),.sl none (is64 (R 2)),.sl none (is64 (R 3))]
theorem rowsD_get{R:Nat->List Int}{k:Nat}(h:k<4):D.nth (rowsD R) k=.sl none (is64 (R k)):=by
 have:k=0∨k=1∨k=2∨k=3:=by omega
 rcases this with rfl|rfl|rfl|rfl <;> rfl
theorem unus_ok:OkF Try.prog 21 (dataC unR):=by
 refine okF_data Try.func21 rfl (by decide) ?_
 rintro ds v ⟨X,n,h1,h64,hX,rfl,rfl⟩
 refine sem_of_awpK [4] (Γ:=tbl tabCn) tabCn_ok _ _ _ ?_
 unfold zoneD zD
 simp only[go_sem,Try.ntmps21]
 refine call_data bckR (by simp) [zoneD n (fl X n)] _ (by rfl) ⟨X,n,h1,h64,hX,rfl,rfl⟩ (.inr rfl) ?_
 simp only[go_sem,Bool.not_true,decide_true]
 refine sem_le (le_freezeB 0 (ds:=[.int .i64 0,.int .i64 0,.int .i64 0,.int .i64 (n:Int),.int .i64 0,.sl none (is64 (fl X n 0)),.sl none (is64 (fl X n 1)),.sl none (is64 (fl X n 2)),.sl none (is64 (fl X n 3)),.sl none (is64 (fl X n 4))]) rfl (Nat.zero_le _)) ?_
 refine sem_regionP tabCn_ok ?_
 simp only[awpOpsP]
 refine .inr ?_
 simp only[go_sem]
 refine .inr (.inl ?_)
 unfold slpOp
 simp only[go_sem]
 refine⟨4,rfl,by decide,by decide,rfl,⟨_,_,_,ty31,T31_desc,ty24,T24_size⟩,?_⟩
 have ht:List.take 4 [D.sl none (is64 (fl X n 0)),.sl none (is64 (fl X n 1)),.sl none (is64 (fl X n 2)),.sl none (is64 (fl X n 3)),.sl none (is64 (fl X n 4))]=rowsD (fl X n):=rfl
 have hrl:(rowsD (fl X n)).length=4:=rfl
 rw[ht]
 refine sem_loop (fun k:Nat=>⟨slotsOf 36 [(5,.dat (.int .i64 ((sumK X n k:Nat):Int))),(21,.dat (.sl none (rowsD (fl X n)))),(22,.dat (.int .i64 4)),(23,.dat (.int .i64 (k:Int)))],[.dead],0,[]⟩) (fun k=>k<=4) (fun k=>4 - k) 0 (Nat.zero_le _) ?_ ?_
 ·have s0:sumK X n 0=0:=rfl
  rw[s0]
  exact le_slots' (by simp only[go_sem,hrl,Int.natCast_zero,Int.cast_ofNat_Int])
 intro k hk
 refine sem_of_awp (Γ:=tbl tabCn) tabCn_ok _ _ _ ?_
 rcases Nat.lt_or_ge k 4 with hlt|hge
 ·have k1:(k:Int)<4:=by omega
  have k2:(0:Int)<=k:=by omega
  have hg:=rowsD_get (R:=fl X n) hlt
  have hl:=is64_len (fl X n k)
  have hfl:=fl_len' X n k
  have hle:=fl_len X n k
  rw[hfl]at hl hle
  have hs:=shl_len (k:=k) (a:=(freeL X n k).length) (by omega) (by omega)
  have hsu:sumK X n (k+1)=sumK X n k+(freeL X n k).length*2 ^ k:=rfl
  have hb:∀m,m<=4->sumK X n m<=64*2 ^ m:=by
   intro m hm
   induction m with
   | zero=>simp[sumK]
   | succ m ih =>
    have h1:=ih (by omega)
    have h2:=fl_len X n m
    rw[fl_len']at h2
    unfold sumK
    have h3:(freeL X n m).length*2 ^ m<=64*2 ^ m:=Nat.mul_le_mul_right _ (by omega)
    rw[Nat.pow_succ]
    omega
  have hb1:=hb (k+1) hlt
  have hp:2 ^ (k+1)<=16:=Nat.pow_le_pow_right (n:=2) (by decide) hlt
  simp only[go_sem,k1,k2,hlt,hrl,hg,hl,hs,Int.toNat_natCast,decide_true]
  refine⟨inR_i64.2 (by omega),inR_i64.2 (by omega),k+1,by omega,by omega,?_⟩
  rw[hsu]
  exact le_slots' (by simp only[go_sem,Int.natCast_add,Int.cast_ofNat_Int,Int.natCast_one])
 ·obtain rfl:k=4:=by omega
  simp only[go_sem]
  exact post_data (.inl rfl) [4] rfl trivial rfl
theorem pure_of{l:List (Nat×Contract)}{pf:List Nat}(h:∀g C,(g,C)∈l->g∈pf->∃R,C=dataC R):PureFns (tbl l) pf:=by
 rintro g args own v own' mv hg ⟨C,hm,hC⟩
 obtain⟨R,rfl⟩:=h g C hm hg
 obtain⟨_,_,_,h1,h2,_⟩:=hC
 exact⟨h1,h2⟩
def cntR(ds:List D)(v:AV):Prop:=∃(X:Nat->Bool) (n:Nat),1<=n/\n<=64/\(∀i,X i=true->i<n)/\ds=[zoneD n (fl X n)]/\v=.dat (.int .i64 (((frN X n).length:Nat):Int))
abbrev tabCo:List (Nat×Contract):=[(21,dataC unR),(22,dataC lastR)]
theorem tabCo_ok:OkG Try.prog (tbl tabCo):=okG_cons unus_ok (okG_cons last_ok okG_nil)
theorem pureCo:PureFns (tbl tabCo) [21,22]:=pure_of fun g C hm _=>by
 simp only[List.mem_cons,List.not_mem_nil,or_false,Prod.mk.injEq]at hm
 rcases hm with⟨_,rfl⟩|⟨_,rfl⟩ <;> exact⟨_,rfl⟩
theorem count_ok:OkF Try.prog 10 (dataC cntR):=by
 refine okF_data Try.func10 rfl (by decide) ?_
 rintro ds v ⟨X,n,h1,h64,hX,rfl,rfl⟩
 refine sem_of_awp (Γ:=tbl tabCo) tabCo_ok _ _ _ ?_
 have hs:sumK X n 4+(freeL X n 4).length*2 ^ 4=(frN X n).length:=by
  have:=count_free hX
  unfold frN
  rw[← this]
  simp only[sumK]
  omega
 have hn:=frN_len X n
 unfold zoneD zD
 simp only[go_sem,Try.ntmps10]
 refine sem_drawX [] [] (pf:=[21,22]) (mf:=[]) mixed tabCo_ok pureCo noMk (ones [0,1,2,3,4,5]) (by kernel_rfl) ?_
 simp only[go_sem]
 refine call_data unR (by simp) [zoneD n (fl X n),.int .i64 4] _ (by rfl) ⟨X,n,h1,h64,hX,rfl,rfl⟩ (.inr rfl) ?_
 simp only[go_sem]
 refine call_data lastR (by simp) [zoneD n (fl X n)] _ (by rfl) ⟨X,n,h1,h64,hX,rfl,rfl⟩ (.inr rfl) ?_
 simp only[go_sem]
 rw[← Int.natCast_add,hs]
 refine⟨inR_i64.2 (by omega),post_data (.inl rfl) [2] rfl trivial rfl⟩
end Go.AM
namespace Go.AM
open Go Go.Proofs
def zl(S:List Nat):List Int:=S.map fun i:Nat=>(i:Int)
theorem zl_len(S:List Nat):(zl S).length=S.length:=List.length_map _
theorem zl_snoc(S:List Nat)(x:Nat):is64 (zl (S++[x]))=is64 (zl S)++[.int .i64 (x:Int)]:=by unfold is64 zl;simp
theorem frames_sorted{X:Nat->Bool}{n:Nat}(hX:∀i,X i=true->i<n):((zl (frmA X n)).mergeSort fun x y=>decide (x<=y))=fr X n:=by
 refine List.Perm.eq_of_pairwise (le:=fun x y:Int=>x<=y) (fun a b _ _ h1 h2=>Int.le_antisymm h1 h2) ?_ ?_ ?_
 ·have:=List.pairwise_mergeSort (le:=fun x y:Int=>decide (x<=y)) (fun a b c h1 h2=>by simp only[decide_eq_true_eq]at *;omega) (fun a b=>by simp only[Bool.or_eq_true,decide_eq_true_eq];omega) (zl (frmA X n))
  exact this.imp fun h=>of_decide_eq_true h
 ·unfold fr
  rw[List.pairwise_map]
  exact(frN_sorted X n).imp fun h=>by omega
 ·refine(List.mergeSort_perm _ _).trans ?_
  unfold zl fr
  exact(frmA_perm hX).map _
def frmR(ds:List D)(v:AV):Prop:=∃(X:Nat->Bool) (n:Nat),1<=n/\n<=64/\(∀i,X i=true->i<n)/\ds=[zoneD n (fl X n)]/\v=.dat (.sl none (is64 (fr X n)))
abbrev tabFm:List (Nat×Contract):=[(19,dataC bckR),(20,lentC sortIR)]
theorem tabFm_ok:OkG Try.prog (tbl tabFm):=okG_cons check_ok (okG_cons sort_ok okG_nil)
theorem frames_ok:OkF Try.prog 9 (dataC frmR):=by
 refine okF_data Try.func9 rfl (by decide) ?_
 rintro ds v ⟨X,n,h1,h64,hX,rfl,rfl⟩
 refine sem_of_awp (Γ:=tbl tabFm) tabFm_ok _ _ _ ?_
 have hlen:=fun k=>is64_len (fl X n k)
 have hfl:=fun k=>fl_len' X n k
 have hle:=fun k=>fl_len X n k
 simp only[hfl]at hlen
 have hrl:(rowsA (fl X n)).length=5:=rfl
 unfold zoneD zD
 simp only[go_sem,Try.ntmps9]
 refine call_data bckR (by simp) [zoneD n (fl X n)] _ (by rfl) ⟨X,n,h1,h64,hX,rfl,rfl⟩ (.inr rfl) ?_
 simp only[go_sem,Bool.not_true,decide_true]
 refine sem_le (le_addnil 3 none rfl (Nat.zero_le _)) ?_
 refine sem_loop (fun k:Nat=>⟨slotsOf 41 [(3,.sl 1 0 (sK X n k).length),(13,.agg (rowsA (fl X n))),(14,.dat (.int .i64 (k:Int)))],[zK n (fl X n),.row none (is64 (zl (sK X n k)))],0,[]⟩) (fun k=>k<=5) (fun k=>5 - k) 0 (Nat.zero_le _) ?_ ?_
 ·have f0:is64 (zl [])=[]:=rfl
  simp only[rowsA,zK,sK_zero,f0]
  exact le_slots' (by simp only[go_sem,Int.natCast_zero,List.length_nil])
 intro k hk
 refine sem_of_awp (Γ:=tbl tabFm) tabFm_ok _ _ _ ?_
 rcases Nat.lt_or_ge k 5 with hlt|hge
 ·have k1:(k:Int)<5:=by omega
  have k2:(0:Int)<=k:=by omega
  have hg:=rowsA_get (R:=fl X n) hlt
  have hsh:=shl_one hlt
  simp only[go_sem,k1,k2,hg,hlen,hrl,hlt,Int.toNat_natCast,decide_true]
  refine sem_loop (fun j:Nat=>⟨slotsOf 41 [(3,.sl 1 0 (sK X n k++frmB k ((freeL X n k).take j)).length),(4,.dat (.int .i64 (k:Int))),(13,.agg (rowsA (fl X n))),(14,.dat (.int .i64 (k:Int))),(18,.dat (.sl none (is64 (fl X n k)))),(19,.dat (.int .i64 ((freeL X n k).length:Int))),(20,.dat (.int .i64 (j:Int)))],
    [zK n (fl X n),.row none (is64 (zl (sK X n k++frmB k ((freeL X n k).take j))))],0,[]⟩)
   (fun j=>j<=(freeL X n k).length) (fun j=>(freeL X n k).length - j) 0 (Nat.zero_le _) ?_ ?_
  ·have f0:sK X n k++frmB k ((freeL X n k).take 0)=sK X n k:=by simp[frmB]
   rw[f0]
   exact le_slots' (by simp only[go_sem,Int.natCast_zero])
  intro j hj
  refine sem_of_awp (Γ:=tbl tabFm) tabFm_ok _ _ _ ?_
  have hlek:=hle k
  rw[hfl]at hlek
  rcases Nat.lt_or_ge j (freeL X n k).length with hlj|hgj
  ·have j1:(j:Int)<(freeL X n k).length:=by omega
   have j2:(0:Int)<=j:=by omega
   have hnx:=nth_fl hlj
   have hbn:=(free_inside hX (List.getElem_mem hlj)).2
   have hfit:=fun i=>frm_fit (X:=X) (n:=n) (i:=i) hX hlt hlj
   have hnj:=frmB_take (k:=k) hlj
   have hpw:2 ^ k<=16:=Nat.pow_le_pow_right (n:=2) (by decide) (show k<=4 by omega)
   simp only[go_sem,k2,hsh,j1,j2,hlj,hlen,hnx,Int.toNat_natCast,decide_true]
   generalize (freeL X n k)[j]=b at *
   refine sem_loop (fun i:Nat=>⟨slotsOf 41 [(3,.sl 1 0 (sK X n k++frmB k ((freeL X n k).take j)++blkF b i).length),(4,.dat (.int .i64 (k:Int))),(7,.dat (.int .i64 (b:Int))),(13,.agg (rowsA (fl X n))),(14,.dat (.int .i64 (k:Int))),(18,.dat (.sl none (is64 (fl X n k)))),(19,.dat (.int .i64 ((freeL X n k).length:Int))),(20,.dat (.int .i64 (j:Int))),(25,.dat (.int .i64 ((2 ^ k:Nat):Int))),(26,.dat (.int .i64 (i:Int)))],
     [zK n (fl X n),.row none (is64 (zl (sK X n k++frmB k ((freeL X n k).take j)++blkF b i)))],0,[]⟩)
    (fun i=>i<=2 ^ k) (fun i=>2 ^ k - i) 0 (Nat.zero_le _) ?_ ?_
   ·have f0:blkF b 0=[]:=rfl
    rw[f0,List.append_nil]
    exact le_slots' (by simp only[go_sem,Int.natCast_zero])
   intro i hi
   refine sem_of_awp (Γ:=tbl tabFm) tabFm_ok _ _ _ ?_
   rcases Nat.lt_or_ge i (2 ^ k) with hil|hig
   ·have i1:(i:Int)<((2 ^ k:Nat):Int):=by omega
    have hn2:=hfit i hil
    have hsu:=blkF_succ b i
    have hz:=zl_snoc (sK X n k++frmB k ((freeL X n k).take j)++blkF b i) (b+i)
    have hzl:=is64_len (zl (sK X n k++frmB k ((freeL X n k).take j)++blkF b i))
    rw[zl_len]at hzl
    have hzs:(sK X n k++frmB k ((freeL X n k).take j)++blkF b (i+1))=(sK X n k++frmB k ((freeL X n k).take j)++blkF b i)++[b+i]:=by rw[hsu,List.append_assoc _ (blkF b i)]
    rw[← hzs]at hz
    have hzn:(sK X n k++frmB k ((freeL X n k).take j)++blkF b (i+1)).length=(sK X n k++frmB k ((freeL X n k).take j)++blkF b i).length+1:=by rw[hzs,List.length_append];rfl
    generalize sK X n k++frmB k ((freeL X n k).take j)++blkF b i=S at *
    have htk:List.take S.length (is64 (zl S))=is64 (zl S):=List.take_of_length_le (by omega)
    have hkr:AV.kills 1 (rowsA (fl X n))=rowsA (fl X n):=rfl
    simp only[List.length_append]at hzn
    generalize 2 ^ k=w at *
    unfold zK
    simp only[go_sem,i1,hzl,htk,hkr,decide_true]
    refine⟨inR_i64.2 (by omega),fun d hd=>(by rw[List.mem_singleton]at hd;subst hd;exact⟨rfl,rfl⟩),by omega,by omega,inR_i64.2 (by omega),i+1,by omega,by omega,?_⟩
    rw[hzn,hz]
    refine le_end (own:=[_,_]) (ex:=[_]) (Nat.zero_le _) ?_ ?_ ?_
    ·simp only[go_sem,Int.natCast_add,Int.cast_ofNat_Int,Int.natCast_one]
    ·simp only[go_sem,rowsA]
    ·simp only[go_sem,Obj.under,AV.unders,AV.under]
   ·obtain rfl:i=2 ^ k:=by omega
    have i1:¬((2 ^ k:Nat):Int)<((2 ^ k:Nat):Int):=by omega
    rw[List.append_assoc,← hnj]
    generalize 2 ^ k=w at *
    simp only[go_sem,i1,decide_false]
    refine⟨inR_i64.2 (by omega),j+1,by omega,by omega,?_⟩
    exact le_slots' (by simp only[go_sem,Int.natCast_add,Int.cast_ofNat_Int,Int.natCast_one,Int.add_assoc])
  ·obtain rfl:j=(freeL X n k).length:=by omega
   have j1:¬((freeL X n k).length:Int)<(freeL X n k).length:=by omega
   rw[List.take_length,← frmK_eq,← sK_succ]
   simp only[go_sem,j1,decide_false]
   refine⟨inR_i64.2 (by omega),k+1,by omega,by omega,?_⟩
   exact le_slots' (by simp only[go_sem,Int.natCast_add,Int.cast_ofNat_Int,Int.natCast_one])
 obtain rfl:k=5:=by omega
 rw[sK_all]
 have hfs:=frames_sorted hX
 have hll:(zl (frmA X n)).length<=n:=by
  have h2:=(frmA_perm hX).length_eq
  have h3:=List.length_filter_le X (List.range n)
  rw[List.length_range]at h3
  rw[zl_len];omega
 have hle2:(zl (frmA X n)).length=(fr X n).length:=by rw[← hfs,List.length_mergeSort]
 have hfi:=is64_len (fr X n)
 rw[← zl_len (frmA X n)]
 generalize zl (frmA X n)=Z at *
 unfold zK
 simp only[go_sem]
 refine call_lent sortIR (by simp) [1] ⟨Z,by omega,rfl,rfl,rfl,rfl,rfl,rfl⟩ (by decide) (by simp) rfl rfl rfl (by simp[AV.unders,AV.under]) (by simp only[List.mem_singleton,forall_eq];trivial) (fun j hj=>?_) ?_
 ·obtain rfl:j=0:=by simp at hj;exact hj
  rfl
 ·rw[hfs,hle2]
  simp only[go_sem]
  refine post_res (.inl rfl) [.tmp 2] rfl ?_
  simp only[go_sem]
  refine Le.trans (le_freeze 1 (ag:=none) (xs:=is64 (fr X n)) rfl (Nat.zero_le _)) ?_
  simp only[go_sem,hfi,is64_all,List.drop_zero,Nat.le_refl,if_true]
  exact le_fin (by simp only[go_sem]) (by simp only[go_sem])
end Go.AM
namespace Go.AM
open Go Go.Proofs
def clzR(ds:List D)(v:AV):Prop:=∃(n:Nat) (r0 r1 r2 r3 r4:List D),r0.length<=64/\r1.length<=64/\r2.length<=64/\r3.length<=64/\r4.length<=64/\ds=[zD n r0 r1 r2 r3 r4]/\v=.dat (zD n r0 r1 r2 r3 r4)
abbrev tabCz:List (Nat×Contract):=[(15,madeC clR)]
theorem tabCz_ok:OkG Try.prog (tbl tabCz):=okG_cons clone_ok okG_nil
theorem clz_sem:∀ds v,clzR ds v->∀body,Try.f24.body=some body->sem Try.prog body (post Try.prog Try.f24 v [] []) ⟨ds.map .dat++List.replicate (Try.f24.ntmps - (ds.map AV.dat).length) .top,[],0,[]⟩:=by
 rintro ds v ⟨n,r0,r1,r2,r3,r4,l0,l1,l2,l3,l4,rfl,rfl⟩ body hbody
 obtain rfl:=Option.some.inj (hbody.symm.trans (rfl:Try.f24.body=some _))
 refine sem_of_awp (Γ:=tbl tabCz) tabCz_ok _ _ _ ?_
 have hz:zB0=.box [.dat (.int .i64 0),.dat (.int .i64 0),.dat (.int .i64 0),.dat (.int .i64 0),.dat (.int .i64 0),.nils,.nils,.nils,.nils,.nils]:=rfl
 unfold zD
 simp only[go_sem,Try.ntmps24]
 refine sem_loop (fun k:Nat=>⟨slotsOf 17 [(1,.ptr 0 0 0),(2,.ptr 1 0 0),(4,.dat (.int .i64 (k:Int)))],[.box [.dat (.int .i64 0),.dat (.int .i64 0),.dat (.int .i64 0),.dat (.int .i64 (n:Int)),.dat (.int .i64 0),.dat (.sl none r0),.dat (.sl none r1),.dat (.sl none r2),.dat (.sl none r3),.dat (.sl none r4)],zB0],0,[]⟩) (fun k=>k<=5) (fun k=>5 - k) 0 (Nat.zero_le _) ?_ ?_
 ·simp only[hz]
  exact le_slots' (by simp only[go_sem,Int.natCast_zero])
 intro k hk
 refine sem_of_awp (Γ:=tbl tabCz) tabCz_ok _ _ _ ?_
 rcases Nat.lt_or_ge k 5 with hlt|hge
 ·have hk5:k=0∨k=1∨k=2∨k=3∨k=4:=by omega
  obtain⟨k1,hk1⟩:∃k1,k1=k+1:=⟨_,rfl⟩
  have tk:∀r:List D,List.take r.length r=r:=fun r=>List.take_length
  rcases hk5 with rfl|rfl|rfl|rfl|rfl
  all_goals
   simp only[hz]
   simp only[go_sem]
   refine call_made clR (by simp) _ _ _ rfl rfl ⟨_,by omega,rfl,rfl,rfl⟩ ?_
   simp only[go_sem,AV.shift,AV.shifts,Obj.shift]
   refine⟨inR_i64.2 (by omega),k1,by omega,by omega,?_⟩
   refine Le.trans (le_freeze 2 (ag:=none) rfl (Nat.zero_le _)) ?_
   simp only[hk1]
   simp only[go_sem,List.drop_zero,tk,Nat.le_refl,if_true]
   refine le_end (own:=[_,_]) (ex:=[_]) (Nat.zero_le _) ?_ ?_ ?_
   ·simp only[go_sem]
   ·simp only[go_sem]
   ·simp only[go_sem,Obj.under,AV.unders,AV.under]
 ·obtain rfl:k=5:=by omega
  simp only[hz]
  simp only[go_sem]
  refine post_res (.inl rfl) [.cell 2 33] rfl ?_
  simp only[go_sem]
  exact le_fin (by simp only[go_sem]) (by simp only[go_sem])
def zY:D:=zD 7 [] [] [.int .i64 0] [] []
def cE1:List Int:=[0,1,0,1,0,0,1]
def cE2:List Int:=[0,0,0,0,1,1,1]
def zZ:D:=zD 7 [.int .i64 0,.int .i64 2] [.int .i64 4] [] [] []
theorem zE1:zoneD cE1.length (fl (frX cE1) cE1.length)=zZ:=by kernel_rfl
theorem zE2:zoneD cE2.length (fl (frX cE2) cE2.length)=zY:=by kernel_rfl
def tabZ:Tab:=[(24,[zY],.dat zY,[]),(8,[.sl none (is64 cE1)],.tup [.dat zZ,.dat (.bool true)],[]),(8,[.sl none (is64 cE2)],.tup [.dat zY,.dat (.bool true)],[])]
theorem tabZ_ok:Base Try.prog tabZ:=by
 intro g ds v ob hm fn body hf hb
 simp only[tabZ,List.mem_cons,List.not_mem_nil,or_false,Prod.mk.injEq]at hm
 rcases hm with⟨rfl,rfl,rfl,rfl⟩|⟨rfl,rfl,rfl,rfl⟩|⟨rfl,rfl,rfl,rfl⟩
 ·obtain rfl:=Option.some.inj (hf.symm.trans Try.func24)
  exact clz_sem _ _ ⟨7,[],[],[.int .i64 0],[],[],by decide,by decide,by decide,by decide,by decide,rfl,rfl⟩ body hb
 ·obtain rfl:=Option.some.inj (hf.symm.trans Try.func8)
  exact bzone_sem _ _ ⟨cE1,by decide,by decide,rfl,by rw[zE1]⟩ body hb
 ·obtain rfl:=Option.some.inj (hf.symm.trans Try.func8)
  exact bzone_sem _ _ ⟨cE2,by decide,by decide,rfl,by rw[zE2]⟩ body hb
theorem names:Names Try.prog:=by
 have h : (Try.prog.funcs.toList.all fun f => decide (f.name ≠ "runtime.NumGoroutine")) = true := by kernel_rfl
 intro g fn hf
 have:=List.all_eq_true.1 h fn (List.mem_of_getElem? (by simpa using hf))
 simpa using this
theorem bcomp_ev:evalF2 Try.prog tabZ 1000 4 []=some (.dat (.bool true)):=by kernel_rfl
theorem bcomp_ok:OkF Try.prog 4 (dataC fun ds v=>(ds,v)∈[(([]:List D),AV.dat (.bool true))]):=okF_eval2 tabZ_ok mixed names 1000 _ (fun x hx=>by
 simp only[List.mem_singleton]at hx
 subst hx
 exact bcomp_ev)
end Go.AM

