/- Own work over the model of the kit. -/
import Derived.Test.YtaecgpgkfajfjaaGreatDoorD23
import Derived.Test.YtaecgpgkfajfjaaGreatDoorD19
import Derived.Test.YtaecgpgkfajfjaaGreatDoorD18
import Derived.Test.YtaecgpgkfajfjaaGreatDoorD22
import Derived.Test.YtaecgpgkfajfjaaGreatDoorD14
import Derived.Test.YtaecgpgkfajfjaaGreatDoorProg
import Derived.Lib.Builder
import Derived.WalkKit
import Derived.Laws.Externs
import Derived.Lib.Walk
import Derived.Test.YtaecgpgkfajfjaaGreatDoorD15
set_option linter.unnecessarySimpa false
set_option linter.unusedSimpArgs false
set_option linter.unusedVariables false
set_option maxHeartbeats 8000000
set_option maxRecDepth 100000
namespace Go.AM
open Go Go.Proofs
def eqIR(ds:List D)(v:AV):Prop:=∃a b:List Int,ds=[.sl none (a.map (D.int .i64)),.sl none (b.map (D.int .i64))]/\a.length<=1000000/\v=.dat (.bool (decide (a=b)))
theorem equal41_ok:OkF Tryz.prog 26 (dataC eqIR):=by
 refine okF_data Tryz.func26 rfl (by decide) ?_
 rintro ds v ⟨a,b,rfl,hal,rfl⟩
 refine sem_of_awp (Γ:=tbl []) okG_nil _ _ _ ?_
 by_cases hl:a.length=b.length
 ·have hl':(a.length:Int)=(b.length:Int):=by omega
  simp only[go_sem,Tryz.ntmps26,List.length_map,hl',eq_self,decide_true,Bool.not_true]
  refine sem_loop (fun k:Nat=>⟨slotsOf 26 [(0,.dat (.sl none (a.map (D.int .i64)))),(1,.dat (.sl none (b.map (D.int .i64)))),(5,.dat (.int .i64 k))],[],0,[]⟩)
   (fun k=>k<=a.length/\a.take k=b.take k) (fun k=>a.length - k) 0 ⟨Nat.zero_le _,rfl⟩ ?_ ?_
  ·exact le_slots' (by simp only[go_sem,Int.natCast_zero])
  rintro k ⟨hk,hI⟩
  refine sem_of_awp (Γ:=tbl []) okG_nil _ _ _ ?_
  cases hd:a.drop k with
  | nil =>
   have hke:=end_of_drop hd hk
   have k1:¬(k:Int)<(a.length:Int):=by omega
   have k1':¬(k:Int)<(b.length:Int):=by omega
   have he:a=b:=by
    rw[List.take_of_length_le (by omega),List.take_of_length_le (by omega)]at hI
    exact hI
   rw[decide_eq_true he]
   simp only[go_sem,List.length_map,k1,k1',decide_false]
   exact post_data (.inl rfl) [4] rfl trivial rfl
  | cons x r =>
   have hlt:=lt_of_drop hd
   cases hd2:b.drop k with
   | nil=>have:=nil_of_drop hd2;omega
   | cons y q =>
    have k1:(k:Int)<(b.length:Int):=by omega
    have k1':(k:Int)<(a.length:Int):=by omega
    have hx:D.nth (a.map (D.int .i64)) k=(D.int .i64) x:=nth_of_drop hd
    have hy:D.nth (b.map (D.int .i64)) k=(D.int .i64) y:=nth_of_drop hd2
    simp only[go_sem,k1,k1',List.length_map,decide_true]
    refine sem_drawU [] [] (pf:=[]) (mf:=[]) mixed okG_nil pureNo growNo noMk (ones [0,1,2,3,4,5,6,7,8]) (by kernel_rfl) ?_
    simp only[go_sem,k1,k1',hl',decide_true,List.length_map,Int.toNat_natCast,hx,hy]
    by_cases he:x=y
    ·simp only[go_sem,he,eq_self,decide_true,Bool.not_true]
     refine⟨inR_i64.2 (by omega),k+1,⟨by omega,?_⟩,by omega,le_slots' (by simp only[go_sem,Int.natCast_add,Int.cast_ofNat_Int])⟩
     rw[take_of_drop hd,take_of_drop hd2,hI,he]
    ·have hne:¬a=b:=fun h=>by
      rw[h,hd2]at hd
      exact he (List.cons.inj hd).1.symm
     rw[decide_eq_false hne]
     simp only[go_sem,he,decide_false,Bool.not_false]
     exact post_data (.inl rfl) [4] rfl trivial rfl
 ·have hl':¬(a.length:Int)=(b.length:Int):=by omega
  have hne:¬a=b:=fun h=>hl (by rw[h])
  rw[decide_eq_false hne]
  simp only[go_sem,Tryz.ntmps26,List.length_map,hl',decide_false,Bool.not_false]
  exact post_data (.inl rfl) [4] rfl trivial rfl
def eqBR(ds:List D)(v:AV):Prop:=∃a b:List Bool,ds=[.sl none (a.map D.bool),.sl none (b.map D.bool)]/\a.length<=1000000/\v=.dat (.bool (decide (a=b)))
theorem flags41_ok:OkF Tryz.prog 27 (dataC eqBR):=by
 refine okF_data Tryz.func27 rfl (by decide) ?_
 rintro ds v ⟨a,b,rfl,hal,rfl⟩
 refine sem_of_awp (Γ:=tbl []) okG_nil _ _ _ ?_
 by_cases hl:a.length=b.length
 ·have hl':(a.length:Int)=(b.length:Int):=by omega
  simp only[go_sem,Tryz.ntmps27,List.length_map,hl',eq_self,decide_true,Bool.not_true]
  refine sem_loop (fun k:Nat=>⟨slotsOf 26 [(0,.dat (.sl none (a.map D.bool))),(1,.dat (.sl none (b.map D.bool))),(5,.dat (.int .i64 k))],[],0,[]⟩)
   (fun k=>k<=a.length/\a.take k=b.take k) (fun k=>a.length - k) 0 ⟨Nat.zero_le _,rfl⟩ ?_ ?_
  ·exact le_slots' (by simp only[go_sem,Int.natCast_zero])
  rintro k ⟨hk,hI⟩
  refine sem_of_awp (Γ:=tbl []) okG_nil _ _ _ ?_
  cases hd:a.drop k with
  | nil =>
   have hke:=end_of_drop hd hk
   have k1:¬(k:Int)<(a.length:Int):=by omega
   have k1':¬(k:Int)<(b.length:Int):=by omega
   have he:a=b:=by
    rw[List.take_of_length_le (by omega),List.take_of_length_le (by omega)]at hI
    exact hI
   rw[decide_eq_true he]
   simp only[go_sem,List.length_map,k1,k1',decide_false]
   exact post_data (.inl rfl) [4] rfl trivial rfl
  | cons x r =>
   have hlt:=lt_of_drop hd
   cases hd2:b.drop k with
   | nil=>have:=nil_of_drop hd2;omega
   | cons y q =>
    have k1:(k:Int)<(b.length:Int):=by omega
    have k1':(k:Int)<(a.length:Int):=by omega
    have hx:D.nth (a.map D.bool) k=D.bool x:=nth_of_drop hd
    have hy:D.nth (b.map D.bool) k=D.bool y:=nth_of_drop hd2
    simp only[go_sem,k1,k1',List.length_map,decide_true]
    refine sem_drawU [] [] (pf:=[]) (mf:=[]) mixed okG_nil pureNo growNo noMk (ones [0,1,2,3,4,5,6,7,8]) (by kernel_rfl) ?_
    simp only[go_sem,k1,k1',hl',decide_true,List.length_map,Int.toNat_natCast,hx,hy]
    by_cases he:x=y
    ·have hb1:(x == y)=true:=by simp[he]
     have hb2:(x != y)=false:=by simp[he]
     simp only[go_sem,hb1,hb2,Bool.not_true]
     refine⟨inR_i64.2 (by omega),k+1,⟨by omega,?_⟩,by omega,le_slots' (by simp only[go_sem,Int.natCast_add,Int.cast_ofNat_Int])⟩
     rw[take_of_drop hd,take_of_drop hd2,hI,he]
    ·have hne:¬a=b:=fun h=>by
      rw[h,hd2]at hd
      exact he (List.cons.inj hd).1.symm
     rw[decide_eq_false hne]
     have hb1:(x == y)=false:=by simp[he]
     have hb2:(x != y)=true:=by simp[he]
     simp only[go_sem,hb1,hb2,Bool.not_false]
     exact post_data (.inl rfl) [4] rfl trivial rfl
 ·have hl':¬(a.length:Int)=(b.length:Int):=by omega
  have hne:¬a=b:=fun h=>hl (by rw[h])
  rw[decide_eq_false hne]
  simp only[go_sem,Tryz.ntmps27,List.length_map,hl',decide_false,Bool.not_false]
  exact post_data (.inl rfl) [4] rfl trivial rfl
def spcR(ds:List D)(v:AV):Prop:=∃s:Str,ds=[.str s]/\s.length<=100000/\v=.dat (.str (spacedT s))
abbrev tabSp:List (Nat×Contract):=[(43,dataC (strsR linesW))]
theorem tabSp_ok:OkG Tryz.prog (tbl tabSp):=okG_cons lines41_ok okG_nil
def spT(ls:List Str):Str:=joinL (ls.flatMap tripT)
theorem spT_snoc(ls:List Str)(l:Str):spT (ls++[l])=spT ls++(32 :: (l++32 :: 10 :: 32 :: 35 :: 32 :: (l++[10,10]))):=by
 unfold spT
 rw[List.flatMap_append,joinL_app]
 simp[tripT,joinL]
theorem lRun_sum:∀(s c:Str),((lRun c s).map List.length).sum<=c.length+s.length
 | [],c=>by
  unfold lRun
  split <;> simp
 | b :: t,c=>by
  rw[lRun_cons]
  split
  ·have ih:=lRun_sum t []
   simp only[List.map_cons,List.sum_cons,List.length_cons,List.length_nil]at ih ⊢;omega
  ·have ih:=lRun_sum t (c++[b])
   simp only[List.length_append,List.length_cons,List.length_nil]at ih ⊢;omega
theorem spT_len:∀ls:List Str,(spT ls).length=8*ls.length+2*(ls.map List.length).sum
 | []=>rfl
 | l :: r=>by
  have e:spT (l :: r)=spT [l]++spT r:=by unfold spT;rw[← joinL_app,← List.flatMap_append];rfl
  rw[e,List.length_append,spT_len r]
  simp[spT,joinL,tripT]
  omega
theorem spaced41_ok:OkF Tryz.prog 29 (dataC spcR):=by
 refine okF_data Tryz.func29 rfl (by decide) ?_
 rintro ds v ⟨s,rfl,hs,rfl⟩
 refine sem_of_awp (Γ:=tbl tabSp) tabSp_ok _ _ _ ?_
 simp only[go_sem,Tryz.ntmps29]
 refine call_data (strsR linesW) (mem_ix 0 rfl) [.str s] _ rfl ⟨s,rfl,by omega,rfl⟩ (.inl rfl) ?_
 have hT:spacedT s=spT (linesW s):=rfl
 rw[hT]
 have hLb:=lRun_len s []
 have hLs:=lRun_sum s []
 have hL:linesW s=lRun [] s:=rfl
 rw[← hL]at hLb hLs
 generalize linesW s=L at *
 obtain⟨hL1,hL2⟩:=hLb
 simp only[List.length_nil]at hLs hL2
 simp only[go_sem]
 refine sem_loop (fun k:Nat=>⟨slotsOf 29 [(3,.dat (.str (spT (L.take k)))),(4,.dat (.sl none (strsD L))),(5,.dat (.int .i64 k))],[],0,[]⟩)
  (fun k=>k<=L.length) (fun k=>L.length - k) 0 (Nat.zero_le _) ?_ ?_
 ·exact le_slots' (by simp only[go_sem,Int.natCast_zero,List.take_zero,spT,List.flatMap_nil,joinL])
 rintro k hk
 refine sem_of_awp (Γ:=tbl tabSp) tabSp_ok _ _ _ ?_
 cases hd:L.drop k with
 | nil =>
  have hke:=end_of_drop hd hk
  have k1:¬(k:Int)<(L.length:Int):=by omega
  have hall:L.take k=L:=by rw[hke];exact List.take_length
  rw[hall]
  simp only[go_sem,k1,decide_false,List.length_map]
  refine post_resO (mv':=[]) (.inl rfl) [.tmp 2] rfl (fun _ h=>h) ?_
  simp only[go_sem]
  exact le_fin (by rfl) (by simp only[AV.under])
 | cons l t =>
  have hlt:=lt_of_drop hd
  have k1:(k:Int)<(L.length:Int):=by omega
  have hk0:(0:Int)<=(k:Int):=by omega
  have hn:D.nth (strsD L) k=.str l:=nth_of_drop hd
  have hll:l.length<=s.length:=by have:=hL2 l (mem_of_drop hd);omega
  have hsn:=spT_snoc (L.take k) l
  rw[← take_of_drop hd]at hsn
  have hb:=spT_len (L.take k)
  have hb2:(L.take k).length<=L.length:=by rw[List.length_take];omega
  have hb3:((L.take k).map List.length).sum<=(L.map List.length).sum:=by
   have e:(L.map List.length).sum=((L.take k).map List.length).sum+((L.drop k).map List.length).sum:=by rw[← List.sum_append,← List.map_append,List.take_append_drop]
   omega
  simp only[go_sem,k1,hk0,hn,decide_true,List.length_map,Int.toNat_natCast]
  refine sem_drawU [] [] (pf:=[]) (mf:=[]) mixed tabSp_ok pureNo growNo noMk (ones [0,1,2,3,4,5,6,7,8,9,10,11,12,13,14]) (by kernel_rfl) ?_
  simp only[go_sem,k1,hk0,hn,decide_true,List.length_map,Int.toNat_natCast,List.length_cons,List.length_nil,List.length_append]
  refine⟨by simp only[maxLen];omega,by simp only[maxLen];omega,by simp only[maxLen];omega,by simp only[maxLen];omega,by simp only[maxLen];omega,inR_i64.2 (by omega),k+1,by omega,by omega,?_⟩
  have hs2:spT (L.take k)++32 :: (l++[32,10,32,35,32]++l++[10,10])=spT (L.take (k+1)):=by rw[hsn];simp
  rw[hs2]
  exact le_slots' (by simp only[go_sem,Int.natCast_add,Int.cast_ofNat_Int])
end Go.AM
namespace Go.AM
open Go Go.Proofs
def exT:Str:=[112,111,111,108,32,102,114,97,109,101,115,32,52,32,49,10,109,117,116,101,120,32,109,97,112,10,99,108,97,115,115,32,102,97,117,108,116,32,50,10,32,32,108,111,99,107,32,109,97,112,10,32,32,116,97,107,101,32,102,114,97,109,101,115,32,49,10,32,32,99,97,108,108,32,101,118,105,99,116,10,32,32,103,105,118,101,32,102,114,97,109,101,115,32,49,10,32,32,117,110,108,111,99,107,32,109,97,112,10,115,101,114,118,101,114,32,101,118,105,99,116,32,49,10,32,32,116,97,107,101,32,102,114,97,109,101,115,32,49,32,100,101,101,112,10,32,32,103,105,118,101,32,102,114,97,109,101,115,32,49,10]
def exS:PSys:=⟨[⟨[102,114,97,109,101,115],4,1⟩],[[109,97,112]],[⟨[102,97,117,108,116],2,false,[⟨3,0,0,false⟩,⟨1,0,1,false⟩,⟨5,1,0,false⟩,⟨2,0,1,false⟩,⟨4,0,0,false⟩]⟩,⟨[101,118,105,99,116],1,true,[⟨1,0,1,true⟩,⟨2,0,1,false⟩]⟩]⟩
def exA:Str:=[112,111,111,108,32,97,32,49,32,48,10,109,117,116,101,120,32,97]
def exB:Str:=[99,108,97,115,115,32,99,32,49]
def exC:Str:=[116,97,107,101,32,120,32,49]
theorem ex_parse:parse41 (splitC 10) exT=(exS,0,0):=by decide +kernel
theorem ex_text:textS exS=exT:=by decide +kernel
theorem ex_check:checkE exS=0:=by decide +kernel
theorem ex_a:parse41 (splitC 10) exA=(sys0,2,5):=by decide +kernel
theorem ex_b:parse41 (splitC 10) exB=(sys0,0,9):=by decide +kernel
theorem ex_c:parse41 (splitC 10) exC=(sys0,1,4):=by decide +kernel
end Go.AM
namespace Go.AM
open Go Go.Proofs
theorem parse41_ok:OkF Tryz.prog 17 (dataC (parR41 (splitC 10))):=by
 refine okF_data Tryz.func17 rfl (by decide) ?_
 rintro ds v ⟨s,rfl,hs,rfl⟩
 refine sem_of_awpK [1,5,25,34] (Γ:=tbl tabPq) tabPq_ok _ _ _ ?_
 unfold parse41
 simp only[go_sem,Tryz.ntmps17]
 refine sem_of_awp (Γ:=tbl tabPq) tabPq_ok _ _ _ ?_
 by_cases hl:4000<s.length
 ·have hl':(4000:Int)<(s.length:Int):=by omega
  rw[if_pos hl]
  simp only[go_sem,hl',decide_true]
  refine post_resO (mv':=[]) (.inl rfl) [.cell 2 26,.cell 3 3,.cell 4 3] rfl (fun _ h=>h) ?_
  simp only[go_sem]
  exact Le.trans (le_tupagg (some 3) none (some 4)) (le_fin (by rfl) (by simp only[AV.under,AV.unders,and_self]))
 have hl':¬(4000:Int)<(s.length:Int):=by omega
 rw[if_neg hl]
 simp only[go_sem,hl',decide_false]
 refine sem_le (le_addnilR 3 0 (some 3) rfl rfl (Nat.zero_le _)) ?_
 refine sem_le (le_addnilR 3 1 none rfl rfl (Nat.zero_le _)) ?_
 refine sem_le (le_addnilR 3 2 (some 4) rfl rfl (Nat.zero_le _)) ?_
 refine sem_le (le_addnilR 3 3 (some 7) rfl rfl (Nat.zero_le _)) ?_
 simp only[go_sem]
 refine sem_le (le_tab 7 (k:=4) (M:=[]) (by decide) (fun r h=>by cases h) rfl) ?_
 simp only[go_sem,List.flatten_nil,List.map_nil]
 refine sem_of_awp (Γ:=tbl tabPq) tabPq_ok _ _ _ ?_
 simp only[go_sem]
 refine call_made sqR (mem_ix 0 rfl) [.str s,.str [10]] _ _ rfl rfl ⟨s,10,rfl,rfl,rfl⟩ ?_
 simp only[go_sem,AV.shift,Obj.shift,AV.shifts]
 obtain⟨hsl1,hsl2⟩:=splitC_len 10 s
 generalize hR:pass1 ((splitC 10 s).map pl41) 0 sys0 []=R
 refine sem_le (le_slots' (s':=slotsOf 104 [(2,.ptr 0 0 0),(3,.ptr 1 0 0),(4,.ptr 2 0 0),(5,.ptr 3 0 0),(6,.ptr 4 0 0),(19,.fn 90 [.ptr 10 0 0,.ptr 9 0 0,.ptr 11 0 0])]) (by simp only[go_sem])) ?_
 refine sem_splitSeq tabPq_ok (mem_ix 1 rfl) 9 10 s pPre41 (0,sys0,[]) [5,6,7,8] pF41 (PJ41 R) rfl (by omega) rfl (fun E=>⟨rfl,pPre41_kill _ (by decide) E⟩) (fun kl hk=>?_) (by decide) ⟨hR,fun x hx=>by have:=hsl2 x hx;omega,by show 0+_<=_;omega,rdOk0⟩ PJ41.next ?_ ?_ ?_
 ·refine killAll_of (L:=[5,6,7,8,12]) (fun o ho=>?_) kl fun o ho=>?_
  ·simp only[List.mem_cons,List.not_mem_nil,or_false]at ho
   rcases ho with rfl|rfl|rfl|rfl|rfl <;> rfl
  ·rcases hk o ho with h|h
   ·simp only[List.mem_cons,List.not_mem_nil,or_false]at h ⊢;omega
   ·simp[h]
 ·rintro ⟨i,E⟩ x ps O jc _ hf
  unfold pF41 at hf
  split at hf
  ·cases hf
  split at hf
  ·cases hf
  ·cases hf
   exact⟨rfl,pOut41_kill _ (by decide) _ _⟩
 ·rintro ⟨i,S,us⟩ s' x ps ⟨j1,j2,j3,j4⟩
  simp only at j1 j2 j3 j4
  have hx4:=j2 x (by simp)
  simp only[List.length_cons]at j3
  have hp:=j4.np;have hlk:=j4.nl;have hc:=j4.nc;have hu:=j4.nu
  simp only at hp hlk hc hu
  refine sem_of_awp (Γ:=tbl tabPq) tabPq_ok _ _ _ ?_
  simp only[go_sem,true_and]
  refine sem_of_awpK [9,11,23] (Γ:=tbl tabPq) tabPq_ok _ _ _ ?_
  simp only[go_sem,pPre41,List.cons_append,List.nil_append]
  refine⟨inR_i64.2 (by omega),?_⟩
  refine call_made (madeS none wdsR) (mem_ix 2 rfl) [.str x] _ _ rfl rfl ⟨_,⟨x,rfl,by omega,rfl⟩,rfl,rfl⟩ ?_
  simp only[go_sem,AV.shift,Obj.shift,AV.shifts,List.length_map,List.map_cons,List.map_nil]
  obtain⟨w1,w2⟩:=wordsW_len x
  have tkW:(strsD (wordsW x)).take (wordsW x).length=strsD (wordsW x):=List.take_of_length_le (by simp)
  refine sem_le (le_freeze 13 (ag:=none) (xs:=strsD (wordsW x)) rfl (by decide)) ?_
  simp only[go_sem,tkW]
  have hsk0:=@pF41_skip x (i,S,us)
  have hsk1:=@pF41_ok x (i,S,us)
  have hsk2:=@pF41_bad x (i,S,us)
  generalize pF41 x (i,S,us)=FX at *
  generalize wordsW x=w at *
  simp only at hsk0 hsk1 hsk2
  have hsw:∀f r,w=f :: r->f≠[]:=fun f r h=>(w2 f (by rw[h];simp)).2
  refine sem_to ⟨slotsOf 104 [(2,.ptr 0 0 0),(3,.ptr 1 0 0),(4,.ptr 2 0 0),(5,.ptr 3 0 0),(6,.ptr 4 0 0),(8,.dat (.sl none (strsD w))),(34,.dat (.bool (skip41 w)))],[.box [.nils,.nils,.nils],.box [.dat (.int .i64 0)],.box [.dat (.int .i64 0)],.box [.sl 5 0 S.pools.length,.sl 6 0 S.locks.length,.sl 7 0 S.classes.length,.sl 8 0 us.length],.box [.dat (.int .i64 ((i:Int)+1))],.row (some 3) (S.pools.map poolD),.row none (strsD S.locks),.tab 4 (tabC (fun _=>.nils) 0 S.classes),.row (some 7) (us.map usD),.box [.dat (.str s')],.box [.dat (.str [10])],.box [.dat (.int .i64 0)],.dead],13,[]⟩ ?_ ?_
  ·refine sem_of_awp (Γ:=tbl tabPq) tabPq_ok _ _ _ ?_
   unfold skip41
   cases w with
   | nil =>
    simp only[go_sem,List.map_nil,List.length_nil,Int.natCast_zero,eq_self,decide_true,Bool.true_or]
    refine le_end (own:=[_,_,_,_,_,_,_,_,_,_,_,_,_]) (ex:=[_]) (by show 13<=13;decide) ?_ ?_ ?_
    ·simp only[go_sem]
    ·simp only[go_sem,AV.unders,AV.under,List.length_cons,List.length_nil]
    ·simp only[go_sem,AV.unders,AV.under,List.length_cons,List.length_nil,tabC_under,Obj.allUnder,Obj.under]
   | cons f r =>
    have hf:=hsw f r rfl
    have z1:¬((r.length+1:Nat):Int)=0:=by omega
    have z2:(0:Int)<((r.length+1:Nat):Int):=by omega
    have z3:D.nth (D.str f :: r.map D.str) 0=.str f:=rfl
    have z4:(0:Int)<(f.length:Int):=by
     have:f.length≠0:=fun h=>hf (List.eq_nil_of_length_eq_zero h)
     omega
    have hnil:(f :: r=[])=False:=by simp
    have hb:=byte_eq (f.getD 0 0) 35 35 rfl
    simp only[go_sem,List.map_cons,List.length_cons,List.length_map,z1,z2,z3,z4,decide_true,decide_false,hnil,Bool.false_or,List.getD_cons_zero,hb]
    refine le_end (own:=[_,_,_,_,_,_,_,_,_,_,_,_,_]) (ex:=[_]) (by show 13<=13;decide) ?_ ?_ ?_
    ·simp only[go_sem]
    ·simp only[go_sem,AV.unders,AV.under,List.length_cons,List.length_nil]
    ·simp only[go_sem,AV.unders,AV.under,List.length_cons,List.length_nil,tabC_under,Obj.allUnder,Obj.under]
  have endO:∀(q:PSys×List US) (sl:List AV) (mv:List Nat) (ex:List Obj) (at1:Int),at1=((i+1:Nat):Int)->(∀o∈mv,o∈[5,6,7,8])->roundQ true (pPre41 (i+1,q)++sqT s' 10 .dead) [5,6,7,8] none .normal
    ⟨sl,[.box [.nils,.nils,.nils],.box [.dat (.int .i64 0)],.box [.dat (.int .i64 0)],.box [.sl 5 0 q.1.pools.length,.sl 6 0 q.1.locks.length,.sl 7 0 q.1.classes.length,.sl 8 0 q.2.length],.box [.dat (.int .i64 at1)],.row (some 3) (q.1.pools.map poolD),.row none (strsD q.1.locks),.tab 4 (tabC (fun _=>.nils) 0 q.1.classes),.row (some 7) (q.2.map usD),.box [.dat (.str s')],.box [.dat (.str [10])],.box [.dat (.int .i64 0)],.dead]++ex,13,mv⟩:=by
   rintro q sl mv ex at1 rfl hm
   refine⟨⟨rfl,rfl⟩,Le.trans (le_mvs (mv':=[5,6,7,8]) hm) ?_⟩
   refine le_end (own:=pPre41 (i+1,q)++sqT s' 10 .dead) (ex:=ex) (Nat.le_refl _) ?_ ?_ ?_
   ·simp only[slotsLe]
   ·simp only[AV.unders]
   ·simp only[go_sem,pPre41,sqT,List.cons_append,List.nil_append,List.length_cons,List.length_nil,AV.unders,AV.under,tabC_under,Obj.allUnder,Obj.under]
  cases hsk:skip41 w with
  | true =>
   rw[hsk0 hsk]
   simp only[go_sem]
   exact endO (S,us) _ [] [] _ rfl (by simp)
  | false =>
   have hsk1:=hsk1 hsk
   have hsk2:=hsk2 hsk
   simp only[go_sem]
   have hw0:w≠[]:=by rintro rfl;simp[skip41]at hsk
   have hl0:0<w.length:=List.length_pos_iff.2 hw0
   have hwx:∀y∈w,y.length<=1000000:=fun y hy=>by have:=(w2 y hy).1;omega
   have n0:D.nth (strsD w) 0=.str (w.getD 0 []):=D.nth_map hl0
   have z0:(0:Int)<w.length:=by omega
   generalize hq:recW w i (S,us)=q at *
   generalize hK:andThenK [9,11,23] Tryz.prog (tbl tabPq) ((Code.region 23 _ _).seq _) _=Q2
   have hcl:∀σ σ',Le σ σ'->Q2 .normal σ'->Q2 .normal σ:=by
    subst hK
    intro σ σ' h1 h2
    exact sem_le h1 h2
   suffices hQ2:∀mv:List Nat,(∀o∈mv,o∈[5,6,7,8])->Q2 .normal ⟨slotsOf 104 [(2,.ptr 0 0 0),(3,.ptr 1 0 0),(4,.ptr 2 0 0),(5,.ptr 3 0 0),(6,.ptr 4 0 0),(9,.dat (.int .i64 q.1))],[.box [.nils,.nils,.nils],.box [.dat (.int .i64 0)],.box [.dat (.int .i64 0)],.box [.sl 5 0 q.2.1.pools.length,.sl 6 0 q.2.1.locks.length,.sl 7 0 q.2.1.classes.length,.sl 8 0 q.2.2.length],.box [.dat (.int .i64 ((i:Int)+1))],.row (some 3) (q.2.1.pools.map poolD),.row none (strsD q.2.1.locks),.tab 4 (tabC (fun _=>.nils) 0 q.2.1.classes),.row (some 7) (q.2.2.map usD),.box [.dat (.str s')],.box [.dat (.str [10])],.box [.dat (.int .i64 0)],.dead],13,mv⟩ by
    have hbig:S.big:=⟨by omega,by omega,by omega⟩
    have e1:emb [3,5,6,7,8] 13 1=5:=rfl
    have e2:emb [3,5,6,7,8] 13 2=6:=rfl
    have e3:emb [3,5,6,7,8] 13 3=7:=rfl
    have e4:emb [3,5,6,7,8] 13 4=8:=rfl
    have hwl:w.length<=1000000:=by omega
    have hownR:∀j,j<5->[Obj.box [.nils,.nils,.nils],.box [.dat (.int .i64 0)],.box [.dat (.int .i64 0)],.box [.sl 5 0 S.pools.length,.sl 6 0 S.locks.length,.sl 7 0 S.classes.length,.sl 8 0 us.length],.box [.dat (.int .i64 ((i:Int)+1))],.row (some 3) (S.pools.map poolD),.row none (strsD S.locks),.tab 4 (tabC (fun _=>.nils) 0 S.classes),.row (some 7) (us.map usD),.box [.dat (.str s')],.box [.dat (.str [10])],.box [.dat (.int .i64 0)],.dead][[3,5,6,7,8].getD j 0]?=some (((recO S us).getD j .dead).ren (emb [3,5,6,7,8] 13)):=fun j hj=>by
     match j,hj with
     | 0,_=>rfl
     | 1,_=>rfl
     | 2,_=>rfl
     | 3,_=>exact congrArg some (by simp only[recO,List.getD_cons_succ,List.getD_cons_zero,Obj.ren,tabC_rens])
     | 4,_=>rfl
    rcases kindS_w (w:=w.getD 0 []) with⟨hK,hk⟩|⟨hK,hk⟩|⟨hK,hk⟩|⟨hK,hk⟩|⟨hK,hk⟩|⟨hK,hk⟩|⟨hK,hk⟩|⟨hK,hk⟩|⟨hK,hk⟩|⟨hk,h0,h1,h2,h3,h4,h5,h6,h7,h8⟩
    ·unfold recW at hq
     rw[hk,if_neg (by decide),if_pos (by decide)]at hq
     subst hq
     refine sem_of_awp (Γ:=tbl tabPq) tabPq_ok _ _ _ ?_
     simp only[go_sem,n0,z0,hK,eq_self,decide_true,decide_false]
     refine call_lent rdclR (mem_ix 3 rfl) [3,5,6,7,8] ⟨S,us,w,rfl,rfl,hw0,hwl,hwx,hbig,by omega,by omega,by omega,j4.st,by rw[hk];decide,by rw[hk];decide,rfl,rfl,rfl,rfl⟩ (by decide) (by simp) rfl rfl rfl (by simp[AV.unders,AV.under]) (recO_under S us) hownR ?_
     simp only at hQ2
     generalize declW w S=dw at hQ2 ⊢
     simp only[go_sem,recO,e1,e2,e3,e4,Obj.killAll,killAll]
     refine hcl _ _ ?_ (hQ2 [5,6,7] (by simp))
     exact le_slots' (by simp only[go_sem])
    ·have q0:=eq_false (by decide:¬([109,117,116,101,120]:Str)=[112,111,111,108])
     unfold recW at hq
     rw[hk,if_neg (by decide),if_pos (by decide)]at hq
     subst hq
     refine sem_of_awp (Γ:=tbl tabPq) tabPq_ok _ _ _ ?_
     simp only[go_sem,n0,z0,hK,q0,eq_self,decide_true,decide_false]
     refine call_lent rdclR (mem_ix 3 rfl) [3,5,6,7,8] ⟨S,us,w,rfl,rfl,hw0,hwl,hwx,hbig,by omega,by omega,by omega,j4.st,by rw[hk];decide,by rw[hk];decide,rfl,rfl,rfl,rfl⟩ (by decide) (by simp) rfl rfl rfl (by simp[AV.unders,AV.under]) (recO_under S us) hownR ?_
     simp only at hQ2
     generalize declW w S=dw at hQ2 ⊢
     simp only[go_sem,recO,e1,e2,e3,e4,Obj.killAll,killAll]
     refine hcl _ _ ?_ (hQ2 [5,6,7] (by simp))
     exact le_slots' (by simp only[go_sem])
    ·have q0:=eq_false (by decide:¬([99,108,97,115,115]:Str)=[112,111,111,108])
     have q1:=eq_false (by decide:¬([99,108,97,115,115]:Str)=[109,117,116,101,120])
     unfold recW at hq
     rw[hk,if_neg (by decide),if_pos (by decide)]at hq
     subst hq
     refine sem_of_awp (Γ:=tbl tabPq) tabPq_ok _ _ _ ?_
     simp only[go_sem,n0,z0,hK,q0,q1,eq_self,decide_true,decide_false]
     refine call_lent rdclR (mem_ix 3 rfl) [3,5,6,7,8] ⟨S,us,w,rfl,rfl,hw0,hwl,hwx,hbig,by omega,by omega,by omega,j4.st,by rw[hk];decide,by rw[hk];decide,rfl,rfl,rfl,rfl⟩ (by decide) (by simp) rfl rfl rfl (by simp[AV.unders,AV.under]) (recO_under S us) hownR ?_
     simp only at hQ2
     generalize declW w S=dw at hQ2 ⊢
     simp only[go_sem,recO,e1,e2,e3,e4,Obj.killAll,killAll]
     refine hcl _ _ ?_ (hQ2 [5,6,7] (by simp))
     exact le_slots' (by simp only[go_sem])
    ·have q0:=eq_false (by decide:¬([115,101,114,118,101,114]:Str)=[112,111,111,108])
     have q1:=eq_false (by decide:¬([115,101,114,118,101,114]:Str)=[109,117,116,101,120])
     have q2:=eq_false (by decide:¬([115,101,114,118,101,114]:Str)=[99,108,97,115,115])
     unfold recW at hq
     rw[hk,if_neg (by decide),if_pos (by decide)]at hq
     subst hq
     refine sem_of_awp (Γ:=tbl tabPq) tabPq_ok _ _ _ ?_
     simp only[go_sem,n0,z0,hK,q0,q1,q2,eq_self,decide_true,decide_false]
     refine call_lent rdclR (mem_ix 3 rfl) [3,5,6,7,8] ⟨S,us,w,rfl,rfl,hw0,hwl,hwx,hbig,by omega,by omega,by omega,j4.st,by rw[hk];decide,by rw[hk];decide,rfl,rfl,rfl,rfl⟩ (by decide) (by simp) rfl rfl rfl (by simp[AV.unders,AV.under]) (recO_under S us) hownR ?_
     simp only at hQ2
     generalize declW w S=dw at hQ2 ⊢
     simp only[go_sem,recO,e1,e2,e3,e4,Obj.killAll,killAll]
     refine hcl _ _ ?_ (hQ2 [5,6,7] (by simp))
     exact le_slots' (by simp only[go_sem])
    ·have q0:=eq_false (by decide:¬([116,97,107,101]:Str)=[112,111,111,108])
     have q1:=eq_false (by decide:¬([116,97,107,101]:Str)=[109,117,116,101,120])
     have q2:=eq_false (by decide:¬([116,97,107,101]:Str)=[99,108,97,115,115])
     have q3:=eq_false (by decide:¬([116,97,107,101]:Str)=[115,101,114,118,101,114])
     unfold recW at hq
     rw[hk,if_neg (by decide),if_neg (by decide)]at hq
     subst hq
     refine sem_of_awp (Γ:=tbl tabPq) tabPq_ok _ _ _ ?_
     simp only[go_sem,n0,z0,hK,q0,q1,q2,q3,eq_self,decide_true,decide_false]
     refine call_lent rstpR (mem_ix 4 rfl) [3,5,6,7,8] ⟨S,us,w,i+1,rfl,rfl,hw0,hwl,hwx,by omega,by omega,by rw[hk];decide,by omega,rfl,rfl,rfl,rfl⟩ (by decide) (by simp) rfl rfl rfl (by simp[AV.unders,AV.under]) (recO_under S us) hownR ?_
     simp only at hQ2
     generalize useW w (i+1) S us=dw at hQ2 ⊢
     simp only[go_sem,recO,e1,e2,e3,e4,Obj.killAll,killAll]
     refine hcl _ _ ?_ (hQ2 [8] (by simp))
     exact le_slots' (by simp only[go_sem])
    ·have q0:=eq_false (by decide:¬([103,105,118,101]:Str)=[112,111,111,108])
     have q1:=eq_false (by decide:¬([103,105,118,101]:Str)=[109,117,116,101,120])
     have q2:=eq_false (by decide:¬([103,105,118,101]:Str)=[99,108,97,115,115])
     have q3:=eq_false (by decide:¬([103,105,118,101]:Str)=[115,101,114,118,101,114])
     have q4:=eq_false (by decide:¬([103,105,118,101]:Str)=[116,97,107,101])
     unfold recW at hq
     rw[hk,if_neg (by decide),if_neg (by decide)]at hq
     subst hq
     refine sem_of_awp (Γ:=tbl tabPq) tabPq_ok _ _ _ ?_
     simp only[go_sem,n0,z0,hK,q0,q1,q2,q3,q4,eq_self,decide_true,decide_false]
     refine call_lent rstpR (mem_ix 4 rfl) [3,5,6,7,8] ⟨S,us,w,i+1,rfl,rfl,hw0,hwl,hwx,by omega,by omega,by rw[hk];decide,by omega,rfl,rfl,rfl,rfl⟩ (by decide) (by simp) rfl rfl rfl (by simp[AV.unders,AV.under]) (recO_under S us) hownR ?_
     simp only at hQ2
     generalize useW w (i+1) S us=dw at hQ2 ⊢
     simp only[go_sem,recO,e1,e2,e3,e4,Obj.killAll,killAll]
     refine hcl _ _ ?_ (hQ2 [8] (by simp))
     exact le_slots' (by simp only[go_sem])
    ·have q0:=eq_false (by decide:¬([108,111,99,107]:Str)=[112,111,111,108])
     have q1:=eq_false (by decide:¬([108,111,99,107]:Str)=[109,117,116,101,120])
     have q2:=eq_false (by decide:¬([108,111,99,107]:Str)=[99,108,97,115,115])
     have q3:=eq_false (by decide:¬([108,111,99,107]:Str)=[115,101,114,118,101,114])
     have q4:=eq_false (by decide:¬([108,111,99,107]:Str)=[116,97,107,101])
     have q5:=eq_false (by decide:¬([108,111,99,107]:Str)=[103,105,118,101])
     unfold recW at hq
     rw[hk,if_neg (by decide),if_neg (by decide)]at hq
     subst hq
     refine sem_of_awp (Γ:=tbl tabPq) tabPq_ok _ _ _ ?_
     simp only[go_sem,n0,z0,hK,q0,q1,q2,q3,q4,q5,eq_self,decide_true,decide_false]
     refine call_lent rstpR (mem_ix 4 rfl) [3,5,6,7,8] ⟨S,us,w,i+1,rfl,rfl,hw0,hwl,hwx,by omega,by omega,by rw[hk];decide,by omega,rfl,rfl,rfl,rfl⟩ (by decide) (by simp) rfl rfl rfl (by simp[AV.unders,AV.under]) (recO_under S us) hownR ?_
     simp only at hQ2
     generalize useW w (i+1) S us=dw at hQ2 ⊢
     simp only[go_sem,recO,e1,e2,e3,e4,Obj.killAll,killAll]
     refine hcl _ _ ?_ (hQ2 [8] (by simp))
     exact le_slots' (by simp only[go_sem])
    ·have q0:=eq_false (by decide:¬([117,110,108,111,99,107]:Str)=[112,111,111,108])
     have q1:=eq_false (by decide:¬([117,110,108,111,99,107]:Str)=[109,117,116,101,120])
     have q2:=eq_false (by decide:¬([117,110,108,111,99,107]:Str)=[99,108,97,115,115])
     have q3:=eq_false (by decide:¬([117,110,108,111,99,107]:Str)=[115,101,114,118,101,114])
     have q4:=eq_false (by decide:¬([117,110,108,111,99,107]:Str)=[116,97,107,101])
     have q5:=eq_false (by decide:¬([117,110,108,111,99,107]:Str)=[103,105,118,101])
     have q6:=eq_false (by decide:¬([117,110,108,111,99,107]:Str)=[108,111,99,107])
     unfold recW at hq
     rw[hk,if_neg (by decide),if_neg (by decide)]at hq
     subst hq
     refine sem_of_awp (Γ:=tbl tabPq) tabPq_ok _ _ _ ?_
     simp only[go_sem,n0,z0,hK,q0,q1,q2,q3,q4,q5,q6,eq_self,decide_true,decide_false]
     refine call_lent rstpR (mem_ix 4 rfl) [3,5,6,7,8] ⟨S,us,w,i+1,rfl,rfl,hw0,hwl,hwx,by omega,by omega,by rw[hk];decide,by omega,rfl,rfl,rfl,rfl⟩ (by decide) (by simp) rfl rfl rfl (by simp[AV.unders,AV.under]) (recO_under S us) hownR ?_
     simp only at hQ2
     generalize useW w (i+1) S us=dw at hQ2 ⊢
     simp only[go_sem,recO,e1,e2,e3,e4,Obj.killAll,killAll]
     refine hcl _ _ ?_ (hQ2 [8] (by simp))
     exact le_slots' (by simp only[go_sem])
    ·have q0:=eq_false (by decide:¬([99,97,108,108]:Str)=[112,111,111,108])
     have q1:=eq_false (by decide:¬([99,97,108,108]:Str)=[109,117,116,101,120])
     have q2:=eq_false (by decide:¬([99,97,108,108]:Str)=[99,108,97,115,115])
     have q3:=eq_false (by decide:¬([99,97,108,108]:Str)=[115,101,114,118,101,114])
     have q4:=eq_false (by decide:¬([99,97,108,108]:Str)=[116,97,107,101])
     have q5:=eq_false (by decide:¬([99,97,108,108]:Str)=[103,105,118,101])
     have q6:=eq_false (by decide:¬([99,97,108,108]:Str)=[108,111,99,107])
     have q7:=eq_false (by decide:¬([99,97,108,108]:Str)=[117,110,108,111,99,107])
     unfold recW at hq
     rw[hk,if_neg (by decide),if_neg (by decide)]at hq
     subst hq
     refine sem_of_awp (Γ:=tbl tabPq) tabPq_ok _ _ _ ?_
     simp only[go_sem,n0,z0,hK,q0,q1,q2,q3,q4,q5,q6,q7,eq_self,decide_true,decide_false]
     refine call_lent rstpR (mem_ix 4 rfl) [3,5,6,7,8] ⟨S,us,w,i+1,rfl,rfl,hw0,hwl,hwx,by omega,by omega,by rw[hk];decide,by omega,rfl,rfl,rfl,rfl⟩ (by decide) (by simp) rfl rfl rfl (by simp[AV.unders,AV.under]) (recO_under S us) hownR ?_
     simp only at hQ2
     generalize useW w (i+1) S us=dw at hQ2 ⊢
     simp only[go_sem,recO,e1,e2,e3,e4,Obj.killAll,killAll]
     refine hcl _ _ ?_ (hQ2 [8] (by simp))
     exact le_slots' (by simp only[go_sem])
    ·unfold recW at hq
     rw[hk,if_pos rfl]at hq
     subst hq
     refine sem_of_awp (Γ:=tbl tabPq) tabPq_ok _ _ _ ?_
     simp only[go_sem,n0,z0,eq_false h0,eq_false h1,eq_false h2,eq_false h3,eq_false h4,eq_false h5,eq_false h6,eq_false h7,eq_false h8,decide_true,decide_false]
     refine hcl _ _ ?_ (hQ2 [] (by simp))
     exact le_slots' (by simp only[go_sem])
   intro mv hmv
   subst hK
   clear hcl
   simp only[andThenK_normal]
   refine sem_of_awp (Γ:=tbl tabPq) tabPq_ok _ _ _ ?_
   by_cases h0:q.1=0
   ·rw[hsk1 h0]
    simp only[go_sem,h0,eq_self,decide_true,Bool.not_true]
    exact endO q.2 _ mv [] _ rfl hmv
   ·rw[hsk2 h0]
    simp only[go_sem,h0,decide_false,Bool.not_false]
    refine sem_drawU [] [] (pf:=[]) (mf:=[]) mixed tabPq_ok pureNo growNo noMk (.one 0 (.one 2 (.alt 1 (.one 3 (.one 4 (.one 5 .fin))) (.alt 3 (.one 1 (.one 4 (.one 5 .fin))) .stop)))) (by kernel_rfl) ?_
    simp only[go_sem,and_true,and_self]
    refine⟨⟨rfl,rfl⟩,Le.trans (le_mvs (mv':=[5,6,7,8]) hmv) ?_⟩
    refine le_end (own:=pOut41 (i+1,q.2) q.1++sqT s' 10 .dead) (ex:=[]) (Nat.le_refl _) ?_ ?_ ?_
    ·simp only[slotsLe]
    ·simp only[AV.unders]
    ·simp only[go_sem,pOut41,sqT,List.cons_append,List.nil_append,List.length_cons,List.length_nil,AV.unders,AV.under,tabC_under,Obj.allUnder,Obj.under]
 ·have hJ0:PJ41 R (splitC 10 s) (0,sys0,[]):=⟨hR,fun x hx=>by have:=hsl2 x hx;omega,by show 0+_<=_;omega,rdOk0⟩
  unfold parseM lines41
  rw[show (fun l=>lineW (wordsW l))=pl41 from rfl,hR]
  cases hq:seqRun pF41 (splitC 10 s) (0,sys0,[]) with
  | inl E =>
   obtain⟨j1,_,j3,j4⟩:=seqRun_inl pF41 (PJ41 R) PJ41.next _ _ _ hJ0 hq
   obtain⟨at0,S,us⟩:=E
   simp only[List.map_nil,pass1]at j1
   subst j1
   simp only[List.length_nil]at j3
   simp only[go_sem,pPre41,List.cons_append,List.nil_append]
   have hp:=j4.np;have hlk:=j4.nl;have hc:=j4.nc;have hu:=j4.nu
   simp only at hp hlk hc hu
   have tkP:(S.pools.map poolD).take S.pools.length=S.pools.map poolD:=List.take_of_length_le (by simp)
   have tkL:(strsD S.locks).take S.locks.length=strsD S.locks:=List.take_of_length_le (by simp)
   have tkU:(us.map usD).take us.length=us.map usD:=List.take_of_length_le (by simp)
   refine sem_le (le_freeze 5 (ag:=some 3) (xs:=S.pools.map poolD) rfl (Nat.zero_le _)) ?_
   simp only[go_sem,tkP]
   refine sem_le (le_freeze 6 (ag:=none) (xs:=strsD S.locks) rfl (Nat.zero_le _)) ?_
   simp only[go_sem,tkL]
   refine sem_le (le_freeze 8 (ag:=some 7) (xs:=us.map usD) rfl (Nat.zero_le _)) ?_
   simp only[go_sem,tkU]
   refine sem_le (le_slots' (s':=slotsOf 104 [(2,.ptr 0 0 0),(3,.ptr 1 0 0),(4,.ptr 2 0 0),(5,.ptr 3 0 0)]) (by simp only[go_sem])) ?_
   refine sem_le (le_drop (own:=[_,_,_,_,_,_,_,_]) (ex:=[_,_,_,_,_]) (Nat.zero_le _) ?_ ?_) ?_
   ·simp only[go_sem,AV.unders,AV.under,List.length_cons,List.length_nil]
   ·simp only[List.mem_cons,List.not_mem_nil,or_false,forall_eq_or_imp,forall_eq,Obj.under,AV.unders,AV.under,tabC_under,List.length_cons,List.length_nil];decide
   refine sem_le (le_addrow (some 4) (Nat.zero_le _)) ?_
   have hstp:∀i,stp S i=[]:=fun i=>by
    unfold stp
    rw[List.getD_eq_getElem?_getD]
    cases hg:S.classes[i]? with
    | none=>rfl
    | some c=>exact j4.st c (List.mem_of_getElem? hg)
   have e0:tabC (fun _=>.nils) 0 S.classes=tabC (cellK 8 S S.classes.length) 0 S.classes:=tabC_congr _ _ fun j hj=>by
    unfold cellK
    rw[if_neg (by omega),if_pos (hstp _)]
   rw[e0]
   simp only[mid41]
   generalize hR2:pass2 us S=R2
   have hrd:=j4.us
   simp only at hrd
   refine sem_of_awp (Γ:=tbl tabPq) tabPq_ok _ _ _ ?_
   simp only[go_sem,List.cons_append,List.nil_append]
   refine sem_loop (fun p:Nat×PSys×Nat=>⟨slotsOf 104 [(2,.ptr 0 0 0),(3,.ptr 1 0 0),(4,.ptr 2 0 0),(5,.ptr 3 0 0),(60,.dat (.sl (some 7) (us.map usD))),(61,.dat (.int .i64 us.length)),(62,.dat (.int .i64 p.1))],
     [.box [.nils,.nils,.nils],.box [.dat (.int .i64 0)],.box [.dat (.int .i64 0)],.box [.dat (.sl (some 3) (S.pools.map poolD)),.dat (.sl none (strsD S.locks)),.sl 7 0 S.classes.length,.dat (.sl (some 7) (us.map usD))],.box [.dat (.int .i64 at0)],.dead,.dead,.tab 4 (tabC (cellK 8 p.2.1 p.2.2) 0 p.2.1.classes),.row (some 4) ((stp p.2.1 p.2.2).map stepD)],0,[]⟩)
    (fun p=>P2J S us R2 p.1 p.2.1 p.2.2) (fun p=>us.length - p.1) (0,S,S.classes.length) ?_ ?_ ?_
   ·exact⟨hR2,Nat.zero_le _,rfl,rfl,rfl,fun u hu=>⟨(hrd u hu).1,(hrd u hu).2.1,(hrd u hu).2.2.1,.inr (hstp _),.inl rfl⟩,j4.srt,fun h=>absurd h (Nat.lt_irrefl _),by rw[hstp];exact Nat.le_refl _⟩
   ·rw[hstp]
    exact le_slots' (by simp only[go_sem,Int.natCast_zero])
   rintro ⟨k,s2,cur⟩ hJ
   simp only at hJ
   have hcs:=hJ.hc
   refine sem_of_awpK [27,34] (Γ:=tbl tabPq) tabPq_ok _ _ _ ?_
   have hbig2:s2.big:=⟨by rw[hJ.hp];omega,by rw[hJ.hl];omega,by omega⟩
   rw[← hJ.hp,← hJ.hl,← hJ.hc]
   cases hd:us.drop k with
   | nil =>
    have hke:=end_of_drop hd hJ.num
    have hk2:¬(k:Int)<(us.length:Int):=by omega
    have hrun:=hJ.run
    rw[hd]at hrun
    simp only[pass2]at hrun
    subst hrun
    simp only[end41]
    simp only[go_sem,hk2,decide_false]
    have tkC:((s2.classes.map clsD).take s2.classes.length)=s2.classes.map clsD:=List.take_of_length_le (by simp)
    refine sem_le (le_freeze 8 (ag:=some 4) (xs:=(stp s2 cur).map stepD) rfl (Nat.zero_le _)) ?_
    simp only[go_sem,cells_freeze 8 s2 cur (fun h=>hJ.ne (by omega))]
    refine sem_le (le_nilsT 7 (k:=4) rfl (cells_end0 s2)) ?_
    simp only[go_sem]
    refine sem_le (le_freezeT 7 (k:=4) (s2.classes.map clsF) (by decide) (fun r hr=>by
     obtain⟨c,_,rfl⟩:=List.mem_map.1 hr;rfl) rfl rfl (Nat.zero_le _)) ?_
    simp only[go_sem,clsF_agg,tkC,List.length_map]
    refine sem_of_awp (Γ:=tbl tabPq) tabPq_ok _ _ _ ?_
    simp only[go_sem]
    refine call_data chkAR (mem_ix 6 rfl) [sysD s2] _ rfl ⟨s2,rfl,rfl⟩ (.inl rfl) ?_
    by_cases h0:checkE s2=0
    ·simp only[go_sem,h0,eq_self,decide_true,Bool.not_true]
     refine post_resO (mv':=[]) (.inl rfl) [.cell 2 26,.cell 3 3,.cell 4 3] rfl (fun _ h=>h) ?_
     simp only[go_sem]
     exact le_fin (by rfl) (by simp only[AV.under,AV.unders,and_self])
    ·simp only[go_sem,h0,decide_false,Bool.not_false]
     refine post_resO (mv':=[]) (.inl rfl) [.cell 2 26,.cell 3 3,.cell 4 3] rfl (fun _ h=>h) ?_
     simp only[go_sem]
     exact Le.trans (le_tupagg (some 3) none (some 4)) (le_fin (by rfl) (by simp only[AV.under,AV.unders,and_self]))
   | cons u q =>
    have hlt:=lt_of_drop hd
    have hk2:(k:Int)<(us.length:Int):=by omega
    have hk0:(0:Int)<=(k:Int):=by omega
    have hn:=nth_of_drop (f:=usD) hd
    have hu1:=hJ.cls u (by rw[hd];simp)
    have huc:u.cls<s2.classes.length:=by rw[hJ.hc];exact hu1.2.2.1
    simp only[go_sem,hk2,hk0,hn,decide_true]
    refine sem_le (σ':=⟨slotsOf 104 [(2,.ptr 0 0 0),(3,.ptr 1 0 0),(4,.ptr 2 0 0),(5,.ptr 3 0 0),(60,.dat (.sl (some 7) (us.map usD))),(61,.dat (.int .i64 us.length)),(62,.dat (.int .i64 k))],
     [.box [.nils,.nils,.nils],.box [.dat (.int .i64 0)],.box [.dat (.int .i64 0)],.box [.dat (.sl (some 3) (s2.pools.map poolD)),.dat (.sl none (strsD s2.locks)),.sl 7 0 s2.classes.length,.dat (.sl (some 7) (us.map usD))],.box [.dat (.int .i64 at0)],.dead,.dead,.tab 4 (tabC (cellK 8 s2 u.cls) 0 s2.classes),.row (some 4) ((stp s2 u.cls).map stepD)],0,[]⟩) ?_ ?_
    ·by_cases hcu:u.cls=cur
     ·subst hcu
      exact le_slots' (by simp only[go_sem])
     ·have hst0:stp s2 u.cls=[]:=hu1.2.2.2.1.resolve_left hcu
      refine Le.trans (le_slots' (s':=slotsOf 104 [(2,.ptr 0 0 0),(3,.ptr 1 0 0),(4,.ptr 2 0 0),(5,.ptr 3 0 0),(60,.dat (.sl (some 7) (us.map usD))),(61,.dat (.int .i64 us.length)),(62,.dat (.int .i64 k))]) (by simp only[go_sem])) ?_
      refine Le.trans (le_freeze 8 (ag:=some 4) (xs:=(stp s2 cur).map stepD) rfl (Nat.zero_le _)) ?_
      simp only[go_sem,cells_freeze 8 s2 cur (fun h=>hJ.ne (by omega))]
      refine Le.trans (le_addnilT 7 (u.cls*4+3) (some 4) (k:=4) rfl (by rw[tabC_cell _ _ _ huc];unfold cellF;rw[if_pos hst0]) (Nat.zero_le _)) ?_
      simp only[go_sem,List.length_cons,List.length_nil,List.cons_append,List.nil_append]
      rw[cells_new 9 s2 u.cls huc hst0,hst0]
      have e:AV.rens (swp 8 9) (tabC (cellK 9 s2 u.cls) 0 s2.classes)=tabC (cellK 8 s2 u.cls) 0 s2.classes:=by
       rw[tabC_ren]
       exact tabC_congr _ _ fun j _=>cellK_ren _ _ _ _ _
      refine Le.trans (le_swp (s':=slotsOf 104 [(2,.ptr 0 0 0),(3,.ptr 1 0 0),(4,.ptr 2 0 0),(5,.ptr 3 0 0),(60,.dat (.sl (some 7) (us.map usD))),(61,.dat (.int .i64 us.length)),(62,.dat (.int .i64 k))]) (own':=[.box [.nils,.nils,.nils],.box [.dat (.int .i64 0)],.box [.dat (.int .i64 0)],.box [.dat (.sl (some 3) (s2.pools.map poolD)),.dat (.sl none (strsD s2.locks)),.sl 7 0 s2.classes.length,.dat (.sl (some 7) (us.map usD))],.box [.dat (.int .i64 at0)],.dead,.dead,.tab 4 (AV.rens (swp 8 9) (tabC (cellK 9 s2 u.cls) 0 s2.classes)),.row (some 4) [],.dead]) 8 9 (by simp) (by simp) rfl rfl) ?_
      rw[e]
      refine le_end (own:=[_,_,_,_,_,_,_,_,_]) (ex:=[_]) (Nat.zero_le _) ?_ ?_ ?_
      ·simp only[go_sem]
      ·simp only[go_sem,AV.unders,AV.under,List.length_cons,List.length_nil]
      ·simp only[go_sem,AV.unders,AV.under,List.length_cons,List.length_nil,Obj.allUnder,Obj.under,true_and]
       exact tabC_underF (fun i=>cellK_under (by decide) _ _ _) _ _
    refine sem_of_awpK [29] (Γ:=tbl tabPq) tabPq_ok _ _ _ ?_
    simp only[go_sem,hk2,hk0,hn,decide_true,usD]
    have eK:emb [3,7,8] 10 (emb [1,2,3] 4 1)=8:=rfl
    refine call_lentN fndR (mem_ix 5 rfl) [3,7,8] ⟨s2,us,cellK 1 s2 u.cls,(stp s2 u.cls).map stepD,u,cellK_ok s2 u.cls,hbig2,hu1.1,hu1.2.1,rfl,rfl,rfl,rfl,rfl,rfl⟩ (by decide) (by simp) rfl rfl rfl ?_ ?_ ?_ ?_
    ·simp[AV.unders,AV.under]
    ·intro x hx
     simp only[recP,List.mem_cons,List.not_mem_nil,or_false]at hx
     rcases hx with rfl|rfl|rfl
     ·simp[Obj.under,AV.unders,AV.under]
     ·exact tabC_underF (fun i=>by rw[cellK_ren];exact cellK_under (by decide) _ _ _) _ _
     ·trivial
    ·intro j hj
     match j,hj with
     | 0,_=>rfl
     | 1,_=>exact congrArg some (by simp only[recP,List.getD_cons_succ,List.getD_cons_zero,Obj.ren,tabC_ren,cellK_ren,List.length_cons,List.length_nil];rfl)
     | 2,_=>rfl
    have hF:findE s2 u.kind u.name<0∨¬findE s2 u.kind u.name<0:=Classical.em _
    have hrng:inR .i64 (findE s2 u.kind u.name):=by
     refine inR_i64.2 ?_
     have key:∀(x:Str) (l:List Str),l.length<=100000->-9223372036854775808<=idxG x 0 l/\idxG x 0 l<=9223372036854775807:=fun x l hl=>by
      rcases idxG_shift (x:=x) l 0 0 with h|⟨i,h1,h2,_⟩ <;> omega
     unfold findE
     split
     ·exact key _ _ (by rw[List.length_map];exact hbig2.np)
     split
     ·exact key _ _ (by rw[List.length_map];exact hbig2.nc)
     ·exact key _ _ hbig2.nl
    generalize hFF:findE s2 u.kind u.name=F at *
    have eO:AV.rens (emb [3,7,8] 10) (tabC (fun i=>AV.ren (emb [1,2,3] 4) (cellK 1 s2 u.cls i)) 0 s2.classes)=tabC (cellK 8 s2 u.cls) 0 s2.classes:=by
     rw[tabC_ren]
     exact tabC_congr _ _ fun j _=>by simp only[cellK_ren];rfl
    have e1:emb [3,7,8] 10 1=7:=rfl
    simp only[go_sem,recP,List.length_cons,List.length_nil,eO,e1]
    rcases hF with hF|hF
    ·simp only[go_sem,hF,decide_true]
     refine sem_drawU [] [] (pf:=[]) (mf:=[]) mixed tabPq_ok pureNo growNo noMk (.one 0 (.one 1 (.alt 2 (.one 3 (.one 4 (.one 5 .fin))) (.alt 3 (.one 2 (.one 4 (.one 5 .fin))) .stop)))) (by kernel_rfl) ?_
     simp only[go_sem,and_true,and_self]
     have hrun:=hJ.run
     rw[hd,pass2,hFF,if_pos hF]at hrun
     subst hrun
     simp only[end41]
     refine post_resO (mv':=[]) (.inl rfl) [.cell 2 26,.cell 3 3,.cell 4 3] rfl (fun _ h=>h) ?_
     simp only[go_sem]
     exact Le.trans (le_tupagg (some 3) none (some 4)) (le_fin (by rfl) (by simp only[AV.under,AV.unders,and_self]))
    ·simp only[go_sem,hF,decide_false]
     refine⟨by omega,?_⟩
     have hcell:=tabC_cell (cellK 8 s2 u.cls) u.cls s2.classes huc
     have hcv:cellK 8 s2 u.cls u.cls=.sl 8 0 (stp s2 u.cls).length:=by unfold cellK;rw[if_pos rfl]
     rw[hcv]at hcell
     have hlen2:(stp s2 u.cls).length<=k:=by
      rcases hu1.2.2.2.1 with e|e
      ·rw[e];exact hJ.len
      ·rw[e];exact Nat.zero_le _
     have tkT:((stp s2 u.cls).map stepD).take (stp s2 u.cls).length=(stp s2 u.cls).map stepD:=List.take_of_length_le (by simp)
     refine sem_drawU [] [(8,[8]),(0,[8])] (pf:=[]) (mf:=[]) mixed tabPq_ok pureNo growNo noMk (ones [0,1,2,3,4,5,6,7,8,9,10,11]) (by kernel_rfl) ?_
     simp only[go_sem,hcell,tkT,List.length_map]
     have hnx:=hJ.next hd (by rw[hFF];exact hF) hlen2
     rw[hFF]at hnx
     have hnum:=hJ.num
     have hadd:stp (addS s2 u.cls (u.step F)) u.cls=stp s2 u.cls++[u.step F]:=by rw[addS_stp _ _ _ huc,if_pos rfl]
     have hsd:D.agg [D.int IntKind.i64 ↑u.kind,D.int IntKind.i64 F,D.int IntKind.i64 u.cnt,D.bool u.deep]=stepD (u.step F):=rfl
     refine⟨by rw[tabC_len];omega,by omega,by omega,by rw[AV.kills_length,tabC_len];omega,inR_i64.2 (by omega),(k+1,addS s2 u.cls (u.step F),u.cls),hnx,by show us.length - (k+1)<us.length - k;omega,?_⟩
     rw[cells_app 8 s2 u.cls (u.step F) huc,hsd]
     simp only[hadd,List.map_append,List.map_cons,List.map_nil]
     refine le_end (own:=[_,_,_,_,_,_,_,_,_]) (ex:=[_,_]) (Nat.zero_le _) ?_ ?_ ?_
     ·simp only[go_sem,Int.natCast_add,Int.cast_ofNat_Int]
     ·simp only[go_sem,AV.unders,AV.under,List.length_cons,List.length_nil]
     ·simp only[go_sem,AV.unders,AV.under,List.length_cons,List.length_nil,Obj.allUnder,Obj.under,true_and]
      exact tabC_underF (fun i=>cellK_under (by decide) _ _ _) _ _
  | inr a =>
   obtain⟨E',x,ps,⟨j1,j2,j3,j4⟩,hf⟩:=seqRun_inr pF41 (PJ41 R) PJ41.next _ _ _ hJ0 hq
   obtain⟨i,E⟩:=E'
   simp only at j1 j2 j3 j4
   have hsk0:=@pF41_skip x (i,E)
   have hsk1:=@pF41_ok x (i,E)
   have hsk2:=@pF41_bad x (i,E)
   cases hsk:skip41 (wordsW x) with
   | true=>rw[hsk0 hsk]at hf;cases hf
   | false =>
    by_cases h0:(recW (wordsW x) i E).1=0
    ·rw[hsk1 hsk h0]at hf;cases hf
    ·rw[hsk2 hsk h0]at hf
     cases hf
     rw[List.map_cons]at j1
     unfold pl41 at j1
     rw[pass1_rec hsk,if_neg h0]at j1
     subst j1
     simp only[jumpQ,mid41,end41,pOut41]
     simp only[go_sem,List.cons_append,List.nil_append]
     refine post_resO (mv':=[]) (.inl rfl) [.cell 2 26,.cell 3 3,.cell 4 3] rfl (fun _ h=>h) ?_
     simp only[go_sem]
     exact Le.trans (le_tupagg (some 3) none (some 4)) (Le.trans le_mv0 (le_fin (by rfl) (by simp only[AV.under,AV.unders,and_self])))
end Go.AM
namespace Go.AM
open Go Go.Proofs Go.RowKit
theorem copyCheck_used(b:Nat)(w:World)(h0:w.cell? ⟨b,0,none⟩=some (.pointer (some ⟨b,0,none⟩))) :
  Calls Tryz.prog 83 #[.pointer (some ⟨b,0,none⟩)] w fun e w'=>e=.returned (.tuple #[])/\w'=w:=by
 obtain⟨j,hj,_⟩:=Option.map_eq_some_iff.1 (show (Tryz.prog.info? 80).map (·.size)=some 2 by kernel_rfl)
 have mixed:Tryz.prog.follows .mixedOrders=true:=by kernel_rfl
 have u72:=run_underlying Tryz.underlying80
 have u70:=run_underlying Tryz.underlying77
 go_enter Tryz.func83,Tryz.ntmps83
 go_wp2
 rw[Lib.run_neq_ptr_same w _ Tryz.underlying77 hj]
 go_wp2
 go_end0
 exact⟨rfl,rfl⟩
theorem copyCheck_fresh(b:Nat)(w:World)(h0:w.cell? ⟨b,0,none⟩=some (.pointer none))(hsh:w.shape? b=some (80,2))(hfz:w.frozen? ⟨b,0,none⟩=false) :
  Calls Tryz.prog 83 #[.pointer (some ⟨b,0,none⟩)] w fun e w'=>e=.returned (.tuple #[])/\w'=w.setCell ⟨b,0,none⟩ (.pointer (some ⟨b,0,none⟩)):=by
 obtain⟨j,hj,hjs⟩:=Option.map_eq_some_iff.1 (show (Tryz.prog.info? 80).map (·.size)=some 2 by kernel_rfl)
 have hlies:liesAt Tryz.prog Tryz.prog.depth 80 (2 / Tryz.prog.cellsOf 80) 0 80 1=true:=by kernel_rfl
 have mixed:Tryz.prog.follows .mixedOrders=true:=by kernel_rfl
 have u72:=run_underlying Tryz.underlying80
 have u70:=run_underlying Tryz.underlying77
 have u164:=run_underlying Tryz.underlying125
 go_enter Tryz.func83,Tryz.ntmps83
 go_wp2
 rw[Lib.run_to_unsafe w ⟨b,0,none⟩ Tryz.underlying77 Tryz.underlying125 hj (by rw[hjs];decide) hsh (Nat.zero_lt_succ 1)]
 simp only[Result.andThen]
 rw[Oper.upon_value]
 go_wp2
 rw[run_callFunc_extern Tryz.func95 (by kernel_rfl) (by kernel_rfl) (by kernel_rfl) (e:=Extern.AbiNoEscape.same) (by kernel_rfl)]
 rw[Lib.run_noEscape]
 simp only[Result.andThen]
 rw[Oper.upon_value]
 go_wp2
 rw[Lib.run_from_unsafe w ⟨b,0,none⟩ Tryz.underlying125 Tryz.underlying77 hj hsh hlies]
 simp only[Result.andThen]
 rw[Oper.upon_value]
 go_wp2
 go_end0
 exact⟨rfl,rfl⟩
def copyCkC:Contract:=fun args own v own' mv=>∃(o:Nat) (u:Bool) (x:AV),args=[.ptr o 0 0]/\own.getD o .dead=.bld 80 u [x]/\v=.tup []/\own'=own.set o (.bld 80 true [x])/\mv=[]
theorem copyCheck_ok:OkF Tryz.prog 83 copyCkC:=by
 rintro args own v own' mv ⟨o,u,x,rfl,hobj,rfl,rfl,rfl⟩
 refine⟨⟨_,_,Tryz.func83,rfl,by decide⟩,fun F φ w vs hc hs=>?_⟩
 simp only[AV.Rs,AV.R]at hs
 obtain⟨c,vs',rfl,⟨L,ho,hn,rfl⟩,rfl⟩:=hs
 have hr:=getObj_rep hc ho
 rw[hobj]at hr
 simp only[ObjR]at hr
 obtain⟨_,hbase,arr,_,hh,hsize,hra⟩:=hr
 obtain⟨a0,rfl⟩:∃a0,arr=[a0]:=by
  match arr,hsize with
  | [a0],_=>exact⟨a0,rfl⟩
 have holt:o<own.length:=by
  rcases Nat.lt_or_ge o own.length with h|h
  ·exact h
  ·rw[hc.out o h]at ho;cases ho
 have e0:(⟨L.b,L.base+0*L.sz+0,none⟩:Addr)=⟨L.b,0,none⟩:=by rw[hbase];simp
 have eo:own.getD o .dead=.bld 80 u [x]:=hobj
 rw[e0]
 have c0:w.cell? ⟨L.b,0,none⟩=some (bldP L u):=by simp[World.cell?,hh]
 cases u with
 | true =>
  have hsame:own.set o (.bld 80 true [x])=own:=by
   rw[← hobj]
   simp[List.getD_eq_getElem?_getD,List.getElem?_eq_getElem holt]
  rw[hsame]
  refine(copyCheck_used L.b w c0).mono ?_
  rintro e w' ⟨rfl,rfl⟩
  exact⟨_,F,φ,rfl,After.refl hc,by simp only[AV.R];exact⟨[],rfl,by simp only[AV.Rs]⟩⟩
 | false =>
  refine(copyCheck_fresh L.b w c0 (by simp[World.shape?,hh]) (by simp[World.frozen?,hh])).mono ?_
  rintro e w' ⟨rfl,rfl⟩
  have hoth:∀b,b≠L.b->(w.setCell ⟨L.b,0,none⟩ (.pointer (some ⟨L.b,0,none⟩))).heap[b]?=w.heap[b]?:=fun b hb=>Below.heap_setCell w _ _ b hb
  refine⟨_,F,φ,rfl,After.write hc ho hn rfl rfl rfl (by simp) hoth ?_,by simp only[AV.R];exact⟨[],rfl,by simp only[AV.Rs]⟩⟩
  simp only[ObjR]
  refine⟨hn,hbase,[a0],(),?_,rfl,AV.Rs_mono (fun _ h=>h) (hc.sameOf ho hn hoth) (fun _ _ h=>h) _ _ hra⟩
  rw[heap_setCell_same w L.b 0 _ _ _ hh]
  rfl
end Go.AM
namespace Go.AM
open Go Go.Proofs
theorem call_copyCk{l:List (Nat×Contract)}(hm:(83,copyCkC)∈l){o:Nat}{u:Bool}{x:AV}{own:List Obj}{K:AV->List Obj->List Nat->Prop}(hobj:own.getD o .dead=.bld 80 u [x])
  (h:K (.tup []) (own.set o (.bld 80 true [x])) []):callw (tbl l) (.fn 83 []) [.ptr o 0 0] own K :=
 ⟨_,_,_,⟨copyCkC,hm,o,u,x,rfl,hobj,rfl,rfl,rfl⟩,h⟩
theorem appTw_str{P:Program}{own:List Obj}{t t':TypeId}{τ':Ty}{x:AV}{s:List UInt8}{K:AV->List Obj->List Nat->Prop}(hne:t≠t')(hτ:tyOf P t'=some τ')(hd:τ'.desc=.string)(h:appendSw P (tyOf P t) own x s K):appTw P own t t' x (.dat (.str s)) K:=by
 unfold appTw;rw[if_neg hne,hτ];exact⟨hd,h⟩
abbrev tabB2:List (Nat×Contract):=[(83,copyCkC)]
theorem tabB2_ok:OkG Tryz.prog (tbl tabB2):=okG_cons copyCheck_ok okG_nil
def wsC:Contract:=fun args own v own' mv=>∃(o:Nat) (u:Bool) (s bs:List UInt8) (r:Nat),args=[.ptr o 0 0,.dat (.str s)]/\o≠r/\own.getD o .dead=.bld 80 u [.sl r 0 bs.length]/\own.getD r .dead=.brow 5 bs /\
 bs.length+s.length<=140737488355328/\v=.tup [.dat (.int .i64 s.length),.top]/\own'=((own.map (Obj.kill r)).set r (.brow 5 (bs++s))).set o (.bld 80 true [.sl r 0 (bs++s).length])/\mv=[r]
theorem writeString_ok:OkF Tryz.prog 52 wsC:=by
 refine okF_of_sem Tryz.func52 rfl (by decide) ?_
 rintro args own v own' mv ⟨o,u,s,bs,r,rfl,hor,hb,hr,hlen,rfl,rfl,rfl⟩
 have holt:o<own.length:=by
  rcases Nat.lt_or_ge o own.length with h|h
  ·exact h
  ·rw[List.getD_eq_getElem?_getD,List.getElem?_eq_none h]at hb;cases hb
 have hr':∀x,(own.set o x).getD r .dead=.brow 5 bs:=fun x=>by
  rw[← hr];simp[List.getD_eq_getElem?_getD,List.getElem?_set,hor]
 have ho':∀x,(own.set o x).getD o .dead=x:=fun x=>by
  simp[List.getD_eq_getElem?_getD,List.getElem?_set,holt]
 refine sem_of_awp (Γ:=tbl tabB2) tabB2_ok _ _ _ ?_
 simp only[go_sem,Tryz.ntmps52]
 refine call_copyCk (by simp) hb ?_
 simp only[go_sem,ho',hr']
 refine appTw_str (by decide) ty9 T9_desc ?_
 simp only[appendSw]
 have hg:∀Y,(((own.set o (.bld 80 true [.sl r 0 bs.length])).map (Obj.kill r)).set r Y).getD o .dead=.bld 80 true [.top]:=fun Y=>by
  simp[List.getD_eq_getElem?_getD,List.getElem?_set,hor,Ne.symm hor,holt,Obj.kill,AV.kills,AV.kill]
 have hor':(o=r)=False:=eq_false hor
 have hnil:∀sl,ev sl (.const .nilIface)=.top:=fun _=>rfl
 have hrlt:r<own.length:=by
  rcases Nat.lt_or_ge r own.length with h|h
  ·exact h
  ·rw[List.getD_eq_getElem?_getD,List.getElem?_eq_none h]at hr;cases hr
 have hown:∀X Y Z,(((own.set o X).map (Obj.kill r)).set r Y).set o Z=((own.map (Obj.kill r)).set r Y).set o Z:=fun X Y Z=>by
  rw[List.map_set,List.set_comm _ _ hor,List.set_set]
 have hmv:addMv own.length [] [r]=[r]:=by simp[addMv,hrlt]
 simp only[go_sem,hr',ho',hor',if_false,hg,hnil,hown,hmv,List.length_append]
 refine⟨hlen,?_⟩
 refine post_resO (mv':=[r]) (.inl rfl) [.tmp 4,.tmp 5] rfl (fun _ h=>h) ?_
 simp only[go_sem]
 exact le_slots' (by simp only[go_sem])
end Go.AM

