/- Own work over the model of the kit. -/
import Derived.Test.YtjfoclncfhiffaaD15
import Derived.Test.YtjfoclncfhiffaaD13
import Derived.Test.YtjfoclncfhiffaaD6
set_option linter.constructorNameAsVariable false
set_option linter.unnecessarySimpa false
set_option linter.unusedSimpArgs false
set_option linter.unusedVariables false
set_option maxHeartbeats 4000000
set_option maxRecDepth 100000
namespace Go.AM
open Go
def nrm(c:Int):Int:=if c=0 then 0 else 1
def mixC(cs:List Int)(k i:Nat):Int:=if i<k then nrm (cs.getD i 0) else cs.getD i 0
def mixL(cs:List Int)(k:Nat):List Int:=(List.range cs.length).map (mixC cs k)
theorem mixL_len(cs:List Int)(k:Nat):(mixL cs k).length=cs.length:=by simp[mixL]
theorem mixL_zero(cs:List Int):mixL cs 0=cs:=by
 apply List.ext_getElem
 ·simp[mixL]
 intro i h1 h2
 simp[mixL,mixC,List.getD_eq_getElem?_getD,List.getElem?_eq_getElem h2]
theorem mixL_get{cs:List Int}{k i:Nat}(h:i<(mixL cs k).length):(mixL cs k)[i]=mixC cs k i:=by simp[mixL]
theorem mixL_same{cs:List Int}{k:Nat}(h:cs.getD k 0=0∨cs.getD k 0=1):mixL cs (k+1)=mixL cs k:=by
 unfold mixL
 refine List.map_congr_left fun i _=>?_
 unfold mixC
 rcases Nat.lt_trichotomy i k with h1|rfl|h1
 ·rw[if_pos (by omega),if_pos h1]
 ·rw[if_pos (by omega),if_neg (by omega)]
  rcases h with h|h <;> rw[h] <;> rfl
 ·rw[if_neg (by omega),if_neg (by omega)]
theorem mixL_set{cs:List Int}{k:Nat}(hk:k<cs.length)(h:cs.getD k 0=2):(is64 (mixL cs k)).set k (.int .i64 1)=is64 (mixL cs (k+1)):=by
 apply List.ext_getElem
 ·simp[is64,mixL]
 intro i h1 h2
 rw[List.getElem_set]
 simp only[is64,mixL,List.getElem_map,List.getElem_range]
 unfold mixC
 by_cases e:k=i
 ·subst e
  rw[if_pos rfl,if_pos (by omega),h]
  rfl
 ·rw[if_neg e]
  rcases Nat.lt_or_ge i k with h3|h3
  ·rw[if_pos h3,if_pos (by omega)]
  ·rw[if_neg (by omega),if_neg (by omega)]
def movM(cs:List Int):Nat->Bool:=fun i=>!decide (cs.getD i 0=0)
theorem mixL_all(cs:List Int):mixL cs cs.length=cel (movM cs) cs.length:=by
 unfold mixL cel
 refine List.map_congr_left fun i hi=>?_
 have hi:=List.mem_range.1 hi
 unfold mixC movM nrm b01
 rw[if_pos hi]
 by_cases h:cs.getD i 0=0 <;> simp[h]
theorem cntM_succ(M:Nat->Bool)(k:Nat):cntM M (k+1)=cntM M k+b2n (M k):=rfl
theorem bcs_012(l:List Nat):∀k,(bcs l).getD k 0=0∨(bcs l).getD k 0=1∨(bcs l).getD k 0=2:=by
 intro k
 have h:∀c∈bcs l,c=0∨c=1∨c=2:=by
  intro c hc
  unfold bcs at hc
  rcases List.mem_cons.1 hc with rfl|hc
  ·exact .inl rfl
  ·obtain⟨x,_,rfl⟩:=List.mem_map.1 hc
   unfold tab6
   repeat' split
   all_goals simp
 rw[List.getD_eq_getElem?_getD]
 rcases Nat.lt_or_ge k (bcs l).length with hk|hk
 ·rw[List.getElem?_eq_getElem hk]
  exact h _ (List.getElem_mem hk)
 ·rw[List.getElem?_eq_none hk];exact .inl rfl
theorem planF_len{M:Nat->Bool}{n:Nat}:∀t l h,(planF M n t l h).length<=t
 | 0,_,_=>Nat.le_refl _
 | t+1,l,h=>by
  unfold planF
  split
  ·have:=planF_len (M:=M) (n:=n) t (loF M (n - l) l+1) (hiF M h - 1)
   rw[List.length_cons];omega
  ·simp
theorem frX_cel{M:Nat->Bool}{n i:Nat}(h:i<n):frX (cel M n) i=!M i:=by
 unfold frX cel
 rw[List.getElem?_map,List.getElem?_range h]
 unfold b01
 cases h2:M i <;> simp[h2]
theorem plan_law(M:Nat->Bool)(n:Nat):okM n M (planF M n n 0 n)/\(planF M n n 0 n).length<=n/\cntM M n<=n /\
  fr (frX (cel ((planF M n n 0 n).foldl movF M) n)) n=(List.range' (cntM M n) (n - cntM M n)).map (fun i:Nat=>(i:Int)) /\
  (frN (frX (cel M n)) n).length=n - cntM M n:=by
 have h1:okM n M (planF M n n 0 n):=plan_ok n 0 n M (Nat.le_refl _) (Nat.zero_le _) fun _ _ _=>rfl
 have h2:packed ((planF M n n 0 n).foldl movF M) n:=plan_packs n 0 n M (Nat.le_refl _) (Nat.zero_le _) (by omega) (by omega) (.inl (Nat.zero_le _)) (fun _ _ _=>rfl) (fun i hi=>(by omega)) (fun i g1 g2 _=>(by omega))
 have h3:=cntM_plan (planF M n n 0 n) M h1
 refine⟨h1,planF_len _ _ _,cntM_le M n,?_,?_⟩
 ·unfold fr frN
  rw[free_packed h2 (fun i hi=>frX_cel hi),h3]
 ·have:=free_count (N:=M) (X:=frX (cel M n)) (n:=n) fun i hi=>frX_cel hi
  unfold frN
  omega
end Go.AM
namespace Go.AM
open Go Go.Proofs
def lawR(ds:List D)(v:AV):Prop:=∃l:List Nat,(∀x∈l,x<256)/\l.length<9223372036854775808/\ds=[.sl none (u8D l)]/\v=.dat (.bool true)
def bcoR(ds:List D)(v:AV):Prop:=(ds,v)∈[(([]:List D),AV.dat (.bool true))]
abbrev tabLw:List (Nat×Contract):=[(4,dataC bcoR),(5,madeC bcR),(6,dataC planR),(7,dataC appR),(8,dataC bzR),(9,dataC frmR),(10,dataC cntR)]
theorem tabLw_ok:OkG Try.prog (tbl tabLw):=okG_cons bcomp_ok (okG_cons bcells_ok (okG_cons plan_ok' (okG_cons apply_ok (okG_cons bzone_ok (okG_cons frames_ok (okG_cons count_ok okG_nil))))))
theorem law_ok:OkF Try.prog 3 (dataC lawR):=by
 refine okF_data Try.func3 rfl (by decide) ?_
 rintro ds v ⟨l,hb,hl,rfl,rfl⟩
 refine sem_of_awpK [13] (Γ:=tbl tabLw) tabLw_ok _ _ _ ?_
 have hlen:=u8D_len l
 by_cases h63:(63:Int)<l.length
 ·simp only[go_sem,Try.ntmps3,hlen,h63,decide_true]
  refine call_data bcoR (by simp) [] _ rfl (by unfold bcoR;simp;rfl) (.inl rfl) ?_
  simp only[go_sem]
  exact post_data (.inl rfl) [2] rfl trivial rfl
 ·simp only[go_sem,Try.ntmps3,hlen,h63,decide_false]
  refine call_made bcR (by simp) _ _ _ rfl rfl ⟨l,by omega,hb,rfl,rfl,rfl⟩ ?_
  simp only[go_sem,AV.shift,AV.shifts,Obj.shift]
  have h012:=bcs_012 l
  have hn1:1<=(bcs l).length/\(bcs l).length<=64:=by rw[bcs_len];omega
  generalize bcs l=cs at *
  obtain⟨h1,h64⟩:=hn1
  have hms:=fun k=>mixL_len cs k
  have hmi:=fun k=>is64_len (mixL cs k)
  simp only[hms]at hmi
  have hnth:∀k m,k<cs.length->D.nth (is64 (mixL cs m)) k=.int .i64 (mixC cs m k):=fun k m hk=>by
   rw[nth_is64 (by rw[hms];exact hk),mixL_get]
  have hpl:=plan_law (movM cs) cs.length
  have hall:=mixL_all cs
  have hcs:=fun k=>cntM_succ (movM cs) k
  have hcl:=fun k=>cntM_le (movM cs) k
  refine sem_loop (fun k:Nat=>⟨slotsOf 111 [(3,.sl 0 0 cs.length),(4,.dat (.int .i64 ((cntM (movM cs) k:Nat):Int))),(24,.sl 0 0 cs.length),(25,.dat (.int .i64 (cs.length:Int))),(26,.dat (.int .i64 (k:Int)))],[.row none (is64 (mixL cs k))],0,[]⟩)
   (fun k=>k<=cs.length) (fun k=>cs.length - k) 0 (Nat.zero_le _) ?_ ?_
  ·have c0:cntM (movM cs) 0=0:=rfl
   rw[c0,mixL_zero]
   exact le_slots' (by simp only[go_sem,Int.natCast_zero])
  intro k hk
  refine sem_of_awpK [13] (Γ:=tbl tabLw) tabLw_ok _ _ _ ?_
  rcases Nat.lt_or_ge k cs.length with hlt|hge
  ·have k1:(k:Int)<cs.length:=by omega
   have k2:(0:Int)<=k:=by omega
   have hx:=hnth k k hlt
   have hc:mixC cs k k=cs.getD k 0:=by unfold mixC;rw[if_neg (by omega)]
   have hM:movM cs k=!decide (cs.getD k 0=0):=rfl
   have hsu:=hcs k
   have hkl:=hcl k
   have h3:=h012 k
   have hsame:=mixL_same (cs:=cs) (k:=k)
   have hset:=mixL_set (cs:=cs) hlt
   have hx2:=hnth k (k+1) hlt
   have hc2:mixC cs (k+1) k=nrm (cs.getD k 0):=by unfold mixC;rw[if_pos (by omega)]
   rw[hc]at hx
   rw[hc2]at hx2
   rw[hM]at hsu
   generalize cs.getD k 0=c at *
   rcases h3 with rfl|rfl|rfl
   ·have hs:=hsame (.inl rfl)
    simp only[decide_true,Bool.not_true,b2n,Bool.false_eq_true,if_false,Nat.add_zero]at hsu
    simp only[go_sem,k1,k2,hlt,hmi,hx,Int.toNat_natCast,decide_true,decide_false]
    refine⟨inR_i64.2 (by omega),k+1,by omega,by omega,?_⟩
    rw[hs,hsu]
    exact le_slots' (by simp only[go_sem,Int.natCast_add,Int.cast_ofNat_Int,Int.natCast_one])
   ·have hs:=hsame (.inr rfl)
    have hsu:cntM (movM cs) (k+1)=cntM (movM cs) k+1:=hsu
    simp only[go_sem,k1,k2,hlt,hmi,hx,Int.toNat_natCast,decide_true,decide_false]
    refine⟨inR_i64.2 (by omega),inR_i64.2 (by omega),k+1,by omega,by omega,?_⟩
    rw[hs,hsu]
    exact le_slots' (by simp only[go_sem,Int.natCast_add,Int.cast_ofNat_Int,Int.natCast_one])
   ·have hs:=hset rfl
    have hsu:cntM (movM cs) (k+1)=cntM (movM cs) k+1:=hsu
    have hx2:D.nth (is64 (mixL cs (k+1))) k=.int .i64 1:=hx2
    simp only[go_sem,k1,k2,hlt,hmi,hx,Int.toNat_natCast,decide_true,decide_false,hs,hx2]
    refine⟨inR_i64.2 (by omega),inR_i64.2 (by omega),k+1,by omega,by omega,?_⟩
    rw[hsu]
    exact le_slots' (by simp only[go_sem,Int.natCast_add,Int.cast_ofNat_Int,Int.natCast_one])
  ·obtain rfl:k=cs.length:=by omega
   have k1:¬(cs.length:Int)<cs.length:=by omega
   rw[hall]
   obtain⟨p1,p2,p3,p4,p5⟩:=hpl
   generalize cs.length=n at *
   generalize movM cs=M at *
   have hcl2:=celD_len M n
   simp only[go_sem,k1,decide_false]
   refine sem_le (le_freeze 0 (ag:=none) (xs:=is64 (cel M n)) rfl (Nat.zero_le _)) ?_
   have htk:List.take n (is64 (cel M n))=is64 (cel M n):=List.take_of_length_le (by omega)
   simp only[go_sem,hcl2,htk,List.drop_zero,Nat.le_refl,if_true]
   refine sem_of_awp (Γ:=tbl tabLw) tabLw_ok _ _ _ ?_
   simp only[go_sem]
   refine call_data planR (by simp) _ _ (by rfl) ⟨M,n,h1,h64,rfl,rfl⟩ (.inl rfl) ?_
   generalize planF M n n 0 n=ms at *
   simp only[go_sem]
   refine call_data appR (by simp) _ _ (by rfl) ⟨M,n,ms,h1,h64,by omega,p1,rfl,rfl⟩ (.inl rfl) ?_
   generalize ms.foldl movF M=N at *
   have hM2:=cel_len M n
   have hN2:=cel_len N n
   have hz1:bzR [.sl none (is64 (cel M n))] (.tup [.dat (zoneD n (fl (frX (cel M n)) n)),.dat (.bool true)]):=⟨cel M n,by omega,by omega,rfl,by rw[hM2]⟩
   have hz2:bzR [.sl none (is64 (cel N n))] (.tup [.dat (zoneD n (fl (frX (cel N n)) n)),.dat (.bool true)]):=⟨cel N n,by omega,by omega,rfl,by rw[hN2]⟩
   have hfm:frmR [zoneD n (fl (frX (cel N n)) n)] (.dat (.sl none (is64 (fr (frX (cel N n)) n)))):=⟨_,n,h1,h64,fun i hi=>by have:=frX_lt _ i hi;omega,rfl,rfl⟩
   have hct:cntR [zoneD n (fl (frX (cel M n)) n)] (.dat (.int .i64 (((frN (frX (cel M n)) n).length:Nat):Int))):=⟨_,n,h1,h64,fun i hi=>by have:=frX_lt _ i hi;omega,rfl,rfl⟩
   simp only[go_sem]
   refine call_data bzR (by simp) _ _ (by rfl) hz1 (.inl rfl) ?_
   unfold zoneD zD
   simp only[go_sem]
   refine call_data bzR (by simp) _ _ (by rfl) hz2 (.inl rfl) ?_
   unfold zoneD zD
   simp only[go_sem,decide_true,Bool.not_true]
   refine call_data frmR (by simp) _ _ (by rfl) hfm (.inl rfl) ?_
   rw[p4]
   rw[p5]at hct
   have hFl:(is64 ((List.range' (cntM M n) (n - cntM M n)).map fun i:Nat=>(i:Int))).length=n - cntM M n:=by rw[is64_len,List.length_map,List.length_range']
   have hFn:∀i,i<n - cntM M n->D.nth (is64 ((List.range' (cntM M n) (n - cntM M n)).map fun i:Nat=>(i:Int))) i=.int .i64 ((cntM M n:Int)+(i:Int)):=fun i hi=>by
    rw[nth_is64 (by simpa using hi)]
    simp[List.getElem_range']
   generalize is64 ((List.range' (cntM M n) (n - cntM M n)).map fun i:Nat=>(i:Int))=F at *
   generalize cntM M n=m at *
   simp only[go_sem,hFl]
   refine sem_loop (fun k:Nat=>⟨slotsOf 111 [(3,.dat (.sl none (is64 (cel M n)))),(4,.dat (.int .i64 (m:Int))),(11,.ptr 1 0 0),(15,.dat (.sl none F)),(81,.dat (.sl none F)),(82,.dat (.int .i64 ((n - m:Nat):Int))),(83,.dat (.int .i64 (k:Int)))],
     [.dead,zK n (fl (frX (cel M n)) n)],0,[]⟩)
    (fun k=>k<=n - m) (fun k=>n - m - k) 0 (Nat.zero_le _) ?_ ?_
   ·unfold zK
    refine le_end (own:=[_,_]) (ex:=[_]) (Nat.zero_le _) ?_ ?_ ?_
    ·simp only[go_sem,Int.natCast_zero]
    ·simp only[go_sem]
    ·simp only[go_sem,Obj.under,AV.unders,AV.under]
   intro k hk
   refine sem_of_awp (Γ:=tbl tabLw) tabLw_ok _ _ _ ?_
   rcases Nat.lt_or_ge k (n - m) with hlt|hge
   ·have k1:(k:Int)<((n - m:Nat):Int):=by omega
    have k2:(0:Int)<=k:=by omega
    have hx:=hFn k hlt
    simp only[go_sem,k1,k2,hlt,hFl,hx,Int.toNat_natCast,decide_true,Bool.not_true]
    refine⟨inR_i64.2 (by omega),inR_i64.2 (by omega),k+1,by omega,by omega,?_⟩
    exact le_slots' (by simp only[go_sem,Int.natCast_add,Int.cast_ofNat_Int,Int.natCast_one])
   ·obtain rfl:k=n - m:=by omega
    have k1:¬(n:Int) - (m:Int)<(n:Int) - (m:Int):=by omega
    have e1:((n - m:Nat):Int)=(n:Int) - (m:Int):=by omega
    unfold zK
    simp only[go_sem,k1,hFl,hcl2,e1,eq_self,decide_true,decide_false]
    refine⟨inR_i64.2 (by omega),?_⟩
    rw[e1]at hct
    refine call_data cntR (by simp) _ _ (by rfl) hct (.inr rfl) ?_
    simp only[go_sem,eq_self,decide_true,hFl,e1]
    refine call_data bcoR (by simp) [] _ rfl (by unfold bcoR;simp;rfl) (.inl rfl) ?_
    simp only[go_sem]
    exact post_data (.inl rfl) [2] rfl trivial rfl
end Go.AM
namespace Go.AM
open Go Go.Proofs
theorem byte_arg{m:Nat}{d:D}(h:argT Try.prog (m+1) 5 d):∃a:Nat,d=.int .u8 (a:Int)/\a<256:=by
 obtain⟨n,rfl,hn⟩:=arg_int (k:=.u8) (by kernel_rfl) h
 have:=inR_u8.1 hn
 refine⟨n.toNat,?_,by omega⟩
 rw[Int.toNat_of_nonneg this.1]
theorem wantU8:wantT Try.prog 5=none:=by kernel_rfl
theorem bytes_arg{m:Nat}{d:D}(h:argT Try.prog (m+3) 22 d):∃l:List Nat,(∀n∈l,n<256)/\l.length<9223372036854775808/\d=.sl none (u8D l):=by
 obtain⟨xs,rfl,hl,hx⟩:=arg_slice (e:=5) (by kernel_rfl) h
 rw[wantU8]
 obtain⟨L,rfl,hL⟩:=list_of (fun a:Nat=>D.int .u8 (a:Int)) (Q:=fun n=>n<256) (fun x hx'=>byte_arg (hx x hx'))
 refine⟨L,hL,?_,rfl⟩
 rw[List.length_map]at hl
 simp only[maxLen]at hl
 omega
end Go.AM

