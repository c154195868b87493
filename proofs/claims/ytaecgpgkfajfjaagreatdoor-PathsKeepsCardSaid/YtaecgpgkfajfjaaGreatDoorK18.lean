/- Own work over the model of the kit. -/
import Derived.Test.YtaecgpgkfajfjaaGreatDoorK17
import Derived.Test.YtaecgpgkfajfjaaGreatDoorK14
import Derived.Test.YtaecgpgkfajfjaaGreatDoorK15
import Derived.Test.YtaecgpgkfajfjaaGreatDoorK16
set_option linter.unnecessarySimpa false
set_option linter.unusedSimpArgs false
set_option linter.unusedVariables false
set_option maxHeartbeats 8000000
set_option maxRecDepth 8000
namespace Go.AM
open Go Go.Proofs
theorem ext_count(s:Str)(c:UInt8):ExtOk Tryz.prog 127 [.dat (.str s),.dat (.int .u8 c.toNat)] (.dat (.int .i64 (s.count c))):=by
 refine ext_of (e:=Extern.BytealgCount.count) Tryz.func127 (by decide) rfl (by kernel_rfl) (by kernel_rfl) ?_
 intro F φ w vs hs
 simp only[AV.Rs]at hs
 obtain⟨v1,r1,rfl,h1,v2,r2,rfl,h2,rfl⟩:=hs
 obtain⟨rfl,hl⟩:=R_str.1 h1
 obtain⟨rfl,_⟩:=R_int.1 h2
 refine⟨_,Lib.run_countString _ _ _,?_⟩
 have e:((c.toNat:Nat):Int).toNat.toUInt8=c:=by simp
 rw[e]
 have:=List.count_le_length (a:=c) (l:=s)
 simp only[maxLen]at hl
 exact R_int.2 ⟨rfl,inR_i64.2 (by show -9223372036854775808<=((s.count c:Nat):Int)/\((s.count c:Nat):Int)<=9223372036854775807;omega)⟩
def cntR(ds:List D)(v:AV):Prop:=∃(s:Str) (c:UInt8),ds=[.str s,.str [c]]/\v=.dat (.int .i64 (s.count c))
theorem count_ok:OkF Tryz.prog 111 (dataC cntR):=by
 refine okF_data Tryz.func111 rfl (by decide) ?_
 rintro ds v ⟨s,c,rfl,rfl⟩
 refine sem_of_awpK [4] (Γ:=tbl []) okG_nil _ _ _ ?_
 simp only[go_sem,Tryz.ntmps111,List.length_cons,List.length_nil,eq_self,decide_true]
 refine sem_regionE (Γ:=tbl []) okG_nil ?_
 refine .inr ?_
 simp only[go_sem]
 refine .inr ?_
 simp only[go_sem]
 refine .inr ?_
 simp only[go_sem,List.length_cons,List.length_nil]
 refine .inl ?_
 refine⟨_,ext_count s c,?_⟩
 simp only[go_sem]
 refine .inr ?_
 simp only[go_sem]
 exact post_data (.inl rfl) [4] rfl trivial rfl
def gspR(ds:List D)(xs:List D):Prop:=∃(s:Str) (c:UInt8),ds=[.str s,.str [c],.int .i64 0,.int .i64 (-1)]/\s.length<=1000000/\xs=(splitC c s).map .str
abbrev tabGs:List (Nat×Contract):=[(111,dataC cntR),(92,dataC idxTR)]
theorem tabGs_ok:OkG Tryz.prog (tbl tabGs):=okG_cons count_ok (okG_cons strIndex_ok okG_nil)
theorem genSplit_ok:OkF Tryz.prog 94 (madeC (madeS none gspR)):=by
 refine okF_made Tryz.func94 rfl (by decide) ?_
 rintro ds v ob ⟨xs,⟨s,c,rfl,hmx,rfl⟩,rfl,rfl⟩
 have hcl:=List.count_le_length (a:=c) (l:=s)
 have hsc:=splitC_count c s
 refine sem_of_awp (Γ:=tbl tabGs) tabGs_ok _ _ _ ?_
 have c0:([c]=([]:Str))=False:=by simp
 have m1:((-1:Int)=0)=False:=by simp
 have m2:((-1:Int)<0)=True:=by simp
 simp only[go_sem,Tryz.ntmps94,c0,m1,m2,decide_true,decide_false]
 refine call_data cntR (mem_ix 0 rfl) [.str s,.str [c]] _ rfl ⟨s,c,rfl,rfl⟩ (.inl rfl) ?_
 have hmin:min ((s.count c:Int)+1) ((s.length:Int)+1)=((s.count c+1:Nat):Int):=by omega
 have hm1:((s.count c+1:Nat):Int) - 1=((s.count c:Nat):Int):=by omega
 simp only[go_sem,hmin,hm1,Int.toNat_natCast]
 refine⟨inR_i64.2 (by omega),inR_i64.2 (by omega),Int.le_refl _,by omega,inR_i64.2 (by omega),?_⟩
 refine sem_loop (fun x:Nat×Str=>⟨slotsOf 66 [(0,.dat (.str x.2)),(1,.dat (.str [c])),(2,.dat (.int .i64 0)),(3,.dat (.int .i64 (s.count c:Nat))),(9,.sl 0 0 (s.count c+1)),(10,.dat (.int .i64 x.1))],[.row none (((splitC c s).take x.1).map D.str++List.replicate (s.count c+1 - x.1) (.str []))],0,[]⟩)
  (fun x=>x.1<=s.count c/\splitC c x.2=(splitC c s).drop x.1/\x.2.length<=s.length) (fun x=>s.count c - x.1) (0,s) ⟨Nat.zero_le _,rfl,Nat.le_refl _⟩ ?_ ?_
 ·exact le_slots' (by simp only[go_sem,Int.natCast_zero,List.take_zero,List.map_nil,List.nil_append,Nat.sub_zero])
 rintro ⟨i,r⟩ ⟨h1,h2,h3⟩
 simp only at h1 h2 h3
 refine sem_of_awp (Γ:=tbl tabGs) tabGs_ok _ _ _ ?_
 have hrc:=splitC_count c r
 have hdl:(splitC c r).length=s.count c+1 - i:=by rw[h2,List.length_drop,hsc]
 have htl:(((splitC c s).take i).map D.str).length=i:=by rw[List.length_map,List.length_take,hsc];omega
 by_cases hi:i<s.count c
 ·have k1:(i:Int)<((s.count c:Nat):Int):=by omega
  simp only[go_sem,k1,decide_true]
  refine call_data idxTR (mem_ix 1 rfl) [.str r,.str [c]] _ rfl ⟨r,c,rfl,rfl⟩ (.inl rfl) ?_
  have hge:0<=idxB r c:=by
   rcases Int.lt_or_le (idxB r c) 0 with h|h
   ·have:=splitC_none h
    rw[this]at hdl;simp at hdl;omega
   ·exact h
  obtain⟨m,hm⟩:∃m:Nat,idxB r c=m:=⟨(idxB r c).toNat,by omega⟩
  have hml:m<r.length:=by
   rcases idxB_lt c r with h|⟨_,h⟩ <;> rw[hm]at h <;> omega
  have hsp:=splitC_some hm
  have hdc:(splitC c s).drop i=r.take m :: splitC c (r.drop (m+1)):=by rw[← h2,hsp]
  have hdr:(splitC c s).drop (i+1)=splitC c (r.drop (m+1)):=by
   have:=congrArg (List.drop 1) hdc
   rw[List.drop_drop]at this
   rw[this];rfl
  have htk:(splitC c s).take (i+1)=(splitC c s).take i++[r.take m]:=take_of_drop hdc
  have m3:(m:Int)+0=m:=by omega
  simp only[go_sem,hm,eq_false (show ¬((m:Nat):Int)<0 by omega),decide_false,m3,Int.toNat_natCast]
  have e1:((m:Int)+1).toNat=m+1:=by omega
  have e2:((r.length:Int) - ((m:Int)+1)).toNat=r.length - (m+1):=by omega
  have e3:(r.drop (m+1)).take (r.length - (m+1))=r.drop (m+1):=List.take_of_length_le (by simp)
  refine⟨inR_i64.2 (by omega),by omega,by omega,by rw[List.length_map]at htl;omega,inR_i64.2 (by omega),by omega,by omega,Int.le_refl _,inR_i64.2 (by omega),(i+1,r.drop (m+1)),⟨by simp only;omega,hdr.symm,by simp only[List.length_drop];omega⟩,by simp only;omega,?_⟩
  have e4:((m:Int) - 0).toNat=m:=by omega
  rw[e1,e2,e3,e4]
  have hrow:(((splitC c s).take i).map D.str++List.replicate (s.count c+1 - i) (D.str [])).set i (.str (r.take m))=((splitC c s).take (i+1)).map D.str++List.replicate (s.count c+1 - (i+1)) (.str []):=by
   obtain⟨k,hk⟩:∃k,s.count c+1 - i=k+1:=⟨s.count c - i,by omega⟩
   rw[hk,show s.count c+1 - (i+1)=k by omega,htk,List.map_append,List.replicate_succ,List.set_append_right _ _ (by omega),htl,Nat.sub_self]
   simp
  rw[hrow]
  exact le_slots' (by simp only[go_sem,Int.natCast_add,Int.cast_ofNat_Int])
 ·have k1:¬(i:Int)<((s.count c:Nat):Int):=by omega
  have hie:i=s.count c:=by omega
  have hr1:splitC c r=[r]:=by
   refine splitC_none' r fun b hb e=>?_
   subst e
   have:=List.count_pos_iff.2 hb
   omega
  have hall:splitC c s=(splitC c s).take i++[r]:=by
   rw[← hr1,h2,List.take_append_drop]
  simp only[go_sem,k1,decide_false,Int.toNat_natCast]
  have e1:((i:Int)+1 - 0).toNat=(splitC c s).length:=by rw[hsc];omega
  have hrow:(((splitC c s).take i).map D.str++List.replicate (s.count c+1 - i) (D.str [])).set i (.str r)=(splitC c s).map D.str:=by
   rw[show s.count c+1 - i=0+1 by omega,List.replicate_succ,List.set_append_right _ _ (by omega),htl,Nat.sub_self]
   conv=>rhs;rw[hall]
   simp
  refine⟨by omega,by rw[List.length_map]at htl;omega,inR_i64.2 (by omega),by omega,by omega,?_⟩
  rw[e1,hrow]
  exact post_own (.inl rfl) [8] rfl rfl (fun _ h=>h)
end Go.AM
namespace Go.AM
open Go Go.Proofs
def splR(ds:List D)(xs:List D):Prop:=∃(s:Str) (c:UInt8),ds=[.str s,.str [c]]/\s.length<=1000000/\xs=(splitC c s).map .str
theorem split_ok:OkF Tryz.prog 74 (madeC (madeS none splR)):=by
 refine okF_made Tryz.func74 rfl (by decide) ?_
 rintro ds v ob ⟨xs,⟨s,c,rfl,hmx,rfl⟩,rfl,rfl⟩
 refine sem_of_awp (Γ:=tbl [(94,madeC (madeS none gspR))]) (okG_cons genSplit_ok okG_nil) _ _ _ ?_
 simp only[go_sem,Tryz.ntmps74]
 refine call_made (madeS none gspR) (mem_ix 0 rfl) [.str s,.str [c],.int .i64 0,.int .i64 (-1)] _ _ rfl rfl ⟨_,⟨s,c,rfl,hmx,rfl⟩,rfl,rfl⟩ ?_
 simp only[go_sem,AV.shift,Obj.shift,AV.shifts,List.map_cons,List.map_nil,List.nil_append,List.length_nil,Nat.zero_add]
 exact post_own (.inl rfl) [4] rfl rfl (fun _ h=>h)
def isER(ds:List D)(v:AV):Prop:=∃s:Str,ds=[.str s]/\v=.dat (.bool (decide (s=[])))
theorem isE_ok:OkF Tryz.prog 75 (dataC isER):=by
 refine okF_data Tryz.func75 rfl (by decide) ?_
 rintro ds v ⟨s,rfl,rfl⟩
 refine sem_of_awp (Γ:=tbl []) okG_nil _ _ _ ?_
 simp only[go_sem,Tryz.ntmps75]
 exact post_data (.inl rfl) [2] rfl trivial rfl
abbrev strsD(l:List Str):List D:=l.map .str
def idxER(xs:List AV)(obs:List Obj)(v0:AV)(obs' ex:List Obj)(mv0:List Nat):Prop:=∃u:List Str,u.length<=2000000/\xs=[.sl 0 0 u.length,.fn 75 []]/\obs=[.row none (strsD u)]/\v0=.dat (.int .i64 (idxG [] 0 u))/\obs'=[.row none (strsD u)]/\ex=[]/\mv0=[]
abbrev tabIE:List (Nat×Contract):=[(75,dataC isER)]
theorem tabIE_ok:OkG Tryz.prog (tbl tabIE):=okG_cons isE_ok okG_nil
theorem idxE_ok:OkF Tryz.prog 93 (lentC idxER):=by
 refine okF_lent Tryz.func93 rfl (by decide) ?_
 rintro xs obs v0 obs' ex mv0 ⟨u,hu,rfl,rfl,rfl,rfl,rfl,rfl⟩
 generalize hv:idxG [] 0 u=V
 refine sem_of_awp (Γ:=tbl tabIE) tabIE_ok _ _ _ ?_
 have fin:∀s (b c:Int),b=c->s.getD 4 .top=.dat (.int .i64 b)->post Tryz.prog Tryz.f93 (.dat (.int .i64 c)) ([.row none (strsD u)]++[]) [] .ret ⟨s,[.row none (strsD u)],1,[]⟩:=fun s b c e h=>by
  subst e
  refine post_resO (.inl rfl) [.tmp 4] rfl (fun _ h=>h) ?_
  simp only[go_sem,h]
  exact Le.refl _
 simp only[go_sem,Tryz.ntmps93]
 refine sem_loop (fun k:Nat=>⟨slotsOf 19 [(0,.sl 0 0 u.length),(1,.fn 75 []),(4,.dat (.int .i64 0)),(7,.dat (.int .i64 u.length)),(8,.dat (.int .i64 k))],[.row none (strsD u)],1,[]⟩)
  (fun k=>k<=u.length/\idxG [] k (u.drop k)=V) (fun k=>u.length - k) 0 ⟨Nat.zero_le _,hv⟩ ?_ ?_
 ·exact le_slots' (by simp only[go_sem,Int.natCast_zero])
 ·rintro k ⟨hk,hI⟩
  refine sem_of_awp (Γ:=tbl tabIE) tabIE_ok _ _ _ ?_
  cases hd:u.drop k with
  | nil =>
   have:=end_of_drop hd hk
   have hk2:¬(k:Int)<u.length:=by omega
   simp only[go_sem,hk2,decide_false]
   refine fin _ _ _ ?_ (by rfl)
   rw[← hI,hd];rfl
  | cons c q =>
   have hlt:=lt_of_drop hd
   have hk2:(k:Int)<u.length:=by omega
   have hk0:(0:Int)<=k:=Int.natCast_nonneg k
   have hn:=nth_of_drop (f:=D.str) hd
   rw[hd,idxG]at hI
   simp only[go_sem,hk2,hk0,hn,hlt,decide_true]
   refine call_data isER (mem_ix 0 rfl) _ _ rfl ⟨c,rfl,rfl⟩ (.inl rfl) ?_
   by_cases he:c=[]
   ·subst he
    simp only[go_sem,decide_true]
    rw[if_pos rfl]at hI
    exact fin _ _ _ hI (by rfl)
   ·simp only[go_sem,he,decide_false]
    rw[if_neg (fun h=>he h.symm)]at hI
    refine⟨inR_i64.2 (by omega),k+1,⟨by omega,by rw[drop_cons hd];exact hI⟩,by omega,?_⟩
    exact le_slots' (by simp only[go_sem,Int.natCast_add,Int.cast_ofNat_Int])
def nonE(w:Str):Bool:=!decide (w=[])
def delR(xs:List AV)(obs:List Obj)(v0:AV)(obs' ex:List Obj)(mv0:List Nat):Prop:=∃u:List Str,u.length<=2000000/\xs=[.sl 0 0 u.length,.fn 75 []]/\obs=[.row none (strsD u)] /\
 v0=.sl 0 0 (u.filter nonE).length/\obs'=[.row none (strsD (u.filter nonE))]/\ex=[]/\mv0=[]
theorem idxG_first{u:List Str}:∀{k:Nat} {v:Int},idxG [] k u=v->(v=-1/\u.filter nonE=u)∨∃i:Nat,v=((k+i:Nat):Int)/\i<u.length/\(u.take i).filter nonE=u.take i/\u.getD i []=[]:=by
 induction u with
 | nil=>intro k v h;exact .inl ⟨h.symm,rfl⟩
 | cons y r ih =>
  intro k v h
  rw[idxG]at h
  by_cases hy:([]:Str)=y
  ·rw[if_pos hy]at h
   exact .inr ⟨0,by simpa using h.symm,by simp,rfl,by simp[← hy]⟩
  ·rw[if_neg hy]at h
   have hn:nonE y=true:=by simp[nonE];exact fun e=>hy e.symm
   rcases ih h with⟨h1,h2⟩|⟨i,h1,h2,h3,h4⟩
   ·exact .inl ⟨h1,by rw[List.filter_cons,if_pos hn,h2]⟩
   ·exact .inr ⟨i+1,by omega,by simpa using h2,by rw[List.take_succ_cons,List.filter_cons,if_pos hn,h3],by simpa using h4⟩
abbrev tabDf:List (Nat×Contract):=[(75,dataC isER),(93,lentC idxER)]
theorem tabDf_ok:OkG Tryz.prog (tbl tabDf):=okG_cons isE_ok (okG_cons idxE_ok okG_nil)
theorem deleteFunc_ok:OkF Tryz.prog 73 (lentC delR):=by
 refine okF_lent Tryz.func73 rfl (by decide) ?_
 rintro xs obs v0 obs' ex mv0 ⟨u,hu,rfl,rfl,rfl,rfl,rfl,rfl⟩
 refine sem_of_awp (Γ:=tbl tabDf) tabDf_ok _ _ _ ?_
 simp only[go_sem,Tryz.ntmps73]
 refine call_lent idxER (mem_ix 1 rfl) [0] ⟨u,hu,rfl,rfl,rfl,rfl,rfl,rfl⟩ (by decide) (by simp) rfl rfl rfl (by simp only[go_sem,AV.unders,AV.under]) (by simp only[List.mem_singleton,forall_eq];trivial) (fun j hj=>by
    obtain rfl:j=0:=by simp at hj;exact hj
    rfl) ?_
 have fin:∀s (x y:List Str),x=y->s.getD 4 .top=.sl 0 0 x.length->post Tryz.prog Tryz.f73 (.sl 0 0 y.length) ([.row none (strsD y)]++[]) [] .ret ⟨s,[.row none (strsD x)],1,[]⟩:=fun s x y e h=>by
  subst e
  refine post_resO (.inl rfl) [.tmp 4] rfl (fun _ h=>h) ?_
  simp only[go_sem,h]
  exact Le.refl _
 rcases idxG_first (k:=0) (u:=u) rfl with⟨h1,h2⟩|⟨i0,h1,h2,h3,h4⟩
 ·simp only[go_sem,h1,eq_self,decide_true]
  exact fin _ _ _ h2.symm rfl
 ·rw[Nat.zero_add]at h1
  have hne:=eq_false (show ¬((i0:Nat):Int)=-1 by omega)
  simp only[go_sem,h1,hne,decide_false]
  refine⟨inR_i64.2 (by omega),?_⟩
  refine sem_loop (fun x:Nat×Nat×List Str=>⟨slotsOf 42 [(0,.sl 0 0 u.length),(1,.fn 75 []),(5,.dat (.int .i64 x.1)),(6,.dat (.int .i64 x.2.1))],[.row none (strsD x.2.2)],1,[]⟩)
   (fun x=>x.1<x.2.1/\x.2.1<=u.length/\x.2.2.length=u.length/\x.2.2.take x.1=(u.take x.2.1).filter nonE/\x.2.2.drop x.2.1=u.drop x.2.1) (fun x=>u.length - x.2.1) (i0,i0+1,u) ⟨by simp only;omega,by simp only;omega,rfl,?_,rfl⟩ ?_ ?_
  ·show u.take i0=(u.take (i0+1)).filter nonE
   rw[List.take_succ_eq_append_getElem h2,List.filter_append,h3]
   have:u[i0]=[]:=by rw[List.getD_eq_getElem?_getD,List.getElem?_eq_getElem h2]at h4;exact h4
   simp[this,nonE]
  ·exact le_slots' (by simp only[go_sem,Int.natCast_add,Int.cast_ofNat_Int])
  rintro ⟨i,j,R⟩ ⟨g1,g2,g3,g4,g5⟩
  simp only at g1 g2 g3 g4 g5
  refine sem_of_awp (Γ:=tbl tabDf) tabDf_ok _ _ _ ?_
  cases hd:u.drop j with
  | nil =>
   have:=end_of_drop hd g2
   have hk2:¬(j:Int)<u.length:=by omega
   simp only[go_sem,hk2,decide_false,Int.toNat_natCast]
   have e1:((i:Int) - 0).toNat=i:=by omega
   have e2:List.take i (strsD R)=strsD (u.filter nonE):=by
    have:u.take j=u:=by rw[this,List.take_length]
    rw[this]at g4
    rw[← g4];simp[strsD,List.map_take]
   have e3:i=(u.filter nonE).length:=by
    have:=congrArg List.length e2
    simp only[strsD,List.length_take,List.length_map]at this
    omega
   refine⟨by omega,Int.le_refl _,by omega,by omega,?_⟩
   rw[e1,e2]
   exact fin _ _ _ rfl (by rw[← e3];rfl)
  | cons c q =>
   have hlt:=lt_of_drop hd
   have hk2:(j:Int)<u.length:=by omega
   have hk0:(0:Int)<=j:=Int.natCast_nonneg j
   have hn:=nth_of_drop (f:=D.str) (g5.trans hd)
   simp only[go_sem,hk2,hk0,hn,hlt,g3,decide_true]
   refine call_data isER (mem_ix 0 rfl) _ _ rfl ⟨c,rfl,rfl⟩ (.inl rfl) ?_
   by_cases he:c=[]
   ·subst he
    simp only[go_sem,decide_true,Bool.not_true]
    have hd1:=drop_cons hd
    have hR1:R.drop (j+1)=u.drop (j+1):=by
     have:=congrArg (List.drop 1) g5
     rwa [List.drop_drop,List.drop_drop]at this
    refine⟨inR_i64.2 (by omega),(i,j+1,R),⟨by simp only;omega,by simp only;omega,g3,?_,hR1⟩,by simp only;omega,?_⟩
    ·simp only
     rw[take_of_drop hd,List.filter_append,g4];simp[nonE]
    ·exact le_slots' (by simp only[go_sem,Int.natCast_add,Int.cast_ofNat_Int])
   ·simp only[go_sem,he,decide_false,Bool.not_false]
    have hR1:R.drop (j+1)=u.drop (j+1):=by
     have:=congrArg (List.drop 1) g5
     rwa [List.drop_drop,List.drop_drop]at this
    have hset:(strsD R).set i (D.str c)=strsD (R.set i c):=by simp[strsD,List.map_set]
    refine⟨by omega,by omega,inR_i64.2 (by omega),inR_i64.2 (by omega),(i+1,j+1,R.set i c),⟨by simp only;omega,by simp only;omega,by simpa using g3,?_,?_⟩,by simp only;omega,?_⟩
    ·show (R.set i c).take (i+1)=(u.take (j+1)).filter nonE
     rw[take_of_drop hd,List.filter_append,← g4]
     have h5:[c].filter nonE=[c]:=by simp[nonE,he]
     rw[h5,List.take_succ_eq_append_getElem (by rw[List.length_set];omega),List.getElem_set_self,List.take_set_of_le (Nat.le_refl _)]
    ·show (R.set i c).drop (j+1)=u.drop (j+1)
     rw[List.drop_set_of_lt (by omega)];exact hR1
    ·rw[hset]
     exact le_slots' (by simp only[go_sem,Int.natCast_add,Int.cast_ofNat_Int])
theorem wordsW_filter(s:Str):wordsW s=(splitC 32 s).filter nonE:=rfl
def wdsR(ds:List D)(xs:List D):Prop:=∃s:Str,ds=[.str s]/\s.length<=1000000/\xs=strsD (wordsW s)
abbrev tabWd:List (Nat×Contract):=[(74,madeC (madeS none splR)),(73,lentC delR)]
theorem tabWd_ok:OkG Tryz.prog (tbl tabWd):=okG_cons split_ok (okG_cons deleteFunc_ok okG_nil)
theorem pwords_ok:OkF Tryz.prog 39 (madeC (madeS none wdsR)):=by
 refine okF_made Tryz.func39 rfl (by decide) ?_
 rintro ds v ob ⟨xs,⟨s,rfl,hmx,rfl⟩,rfl,rfl⟩
 refine sem_of_awp (Γ:=tbl tabWd) tabWd_ok _ _ _ ?_
 simp only[go_sem,Tryz.ntmps39]
 refine call_made (madeS none splR) (mem_ix 0 rfl) [.str s,.str [32]] _ _ rfl rfl ⟨_,⟨s,32,rfl,hmx,rfl⟩,rfl,rfl⟩ ?_
 simp only[go_sem,AV.shift,Obj.shift,AV.shifts,List.map_cons,List.map_nil,List.nil_append,List.length_nil,Nat.zero_add]
 have hl:(splitC 32 s).length<=2000000:=by have:=splitC_count 32 s;have:=List.count_le_length (a:=32) (l:=s);omega
 refine call_lent delR (mem_ix 1 rfl) [0] ⟨splitC 32 s,hl,rfl,rfl,rfl,rfl,rfl,rfl⟩ (by decide) (by simp) rfl rfl rfl (by simp only[go_sem,AV.unders,AV.under]) (by simp only[List.mem_singleton,forall_eq];trivial) (fun j hj=>by
    obtain rfl:j=0:=by simp at hj;exact hj
    rfl) ?_
 simp only[go_sem]
 exact post_own (.inl rfl) [2] rfl (by simp[wordsW_filter,strsD];rfl) (fun _ h=>h)
end Go.AM
namespace Go.AM
open Go Go.Proofs
def usD(u:US):D:=.agg [.int .i64 u.cls,.int .i64 u.line,.str u.name,.int .i64 u.kind,.int .i64 0,.int .i64 u.cnt,.bool u.deep]
def tabC(f:Nat->AV):Nat->List PCls->List AV
 | _,[]=>[]
 | i,c :: r=>.dat (.str c.name) :: .dat (.int .i64 c.workers) :: .dat (.bool c.server) :: f i :: tabC f (i+1) r
def recO(s:PSys)(us:List US):List Obj:=[.box [.sl 1 0 s.pools.length,.sl 2 0 s.locks.length,.sl 3 0 s.classes.length,.sl 4 0 us.length],.row (some 3) (s.pools.map poolD),.row none (strsD s.locks),.tab 4 (tabC (fun _=>.nils) 0 s.classes),.row (some 7) (us.map usD)]
theorem tabC_under:∀(l:List PCls) (i n:Nat),AV.unders n (tabC (fun _=>.nils) i l)
 | [],_,_=>by simp only[tabC,AV.unders]
 | c :: r,i,n=>by simp only[tabC,AV.unders,AV.under,true_and];exact tabC_under r (i+1) n
theorem recO_under(s:PSys)(us:List US):∀x∈recO s us,x.under 5:=by
 intro x hx
 simp only[recO,List.mem_cons,List.not_mem_nil,or_false]at hx
 rcases hx with rfl|rfl|rfl|rfl|rfl
 ·simp[Obj.under,AV.unders,AV.under]
 ·trivial
 ·trivial
 ·exact tabC_under _ _ _
 ·trivial
theorem kindP_S{w:Str}(h:11<=kindS w):kindP w=kindS w - 10/\1<=kindP w/\kindP w<=5:=by
 unfold kindS at h
 split at h
 ·omega
 split at h
 ·omega
 split at h
 ·omega
 split at h
 ·omega
 rename_i h1 h2 h3 h4
 unfold kindP kindS
 rw[if_neg h1,if_neg h2,if_neg h3,if_neg h4]
 (repeat' split) <;> first|omega|(rename_i h5 h6 h7 h8 h9;simp only[h5,h6,h7,h8,h9,if_false]at h;omega)
def useW(w:List Str)(line:Nat)(s:PSys)(us:List US):Int×List US :=
 if formW w (kindS (w.getD 0 []))=false∨s.classes.length=0 then (4,us) else
 (0,us++[⟨s.classes.length - 1,line,w.getD 1 [],kindS (w.getD 0 []) - 10,if kindS (w.getD 0 [])=11∨kindS (w.getD 0 [])=12 then numN (w.getD 2 []) else 0,decide (3<w.length)⟩])
def rstpR(xs:List AV)(obs:List Obj)(v0:AV)(obs' ex:List Obj)(mv0:List Nat):Prop:=∃(s:PSys) (us:List US) (w:List Str) (line:Nat),
 xs=[.ptr 0 0 0,.dat (.sl none (strsD w)),.dat (.int .i64 line)]/\obs=recO s us/\w≠[]/\w.length<=1000000/\(∀x∈w,x.length<=1000000)/\us.length<=100000/\s.classes.length<=100000/\11<=kindS (w.getD 0 [])/\line<=1000000 /\
 v0=.dat (.int .i64 (useW w line s us).1)/\obs'=recO s (useW w line s us).2/\ex=[]/\mv0=[4]
abbrev tabRs:List (Nat×Contract):=[(77,dataC kindPR),(31,dataC isNmR),(76,dataC numR)]
theorem tabRs_ok:OkG Tryz.prog (tbl tabRs):=okG_cons pkind_ok (okG_cons isName_ok (okG_cons pnumber_ok okG_nil))
theorem tabC_kills(o:Nat):∀(l:List PCls) (i:Nat),AV.kills o (tabC (fun _=>.nils) i l)=tabC (fun _=>.nils) i l
 | [],_=>rfl
 | c :: r,i=>by simp only[tabC,AV.kills,AV.kill];rw[tabC_kills o r (i+1)]
theorem rstep_fin{s:PSys}{us:List US}{U:Int×List US}{sl:List AV}{ex:List Obj}{d:D}(u:US)(h6:sl.getD 6 .top=.dat (.int .i64 0))(hU:U=(0,us++[u]))(hd:d=usD u) :
  post Tryz.prog Tryz.f41 (.dat (.int .i64 U.1)) (recO s U.2++[]) [4] .ret ⟨sl,[.box [.sl 1 0 s.pools.length,.sl 2 0 s.locks.length,.sl 3 0 s.classes.length,.sl 4 0 (us.length+1)],.row (some 3) (s.pools.map poolD),.row none (s.locks.map D.str),.tab 4 (AV.kills 4 (tabC (fun _=>.nils) 0 s.classes)),
   .row (some 7) (List.take us.length (us.map usD)++[d])]++ex,5,addMv 5 [] [4]⟩:=by
 subst hU;subst hd
 refine post_resO (mv':=[4]) (.inl rfl) [.tmp 6] rfl (fun _ h=>h) ?_
 simp only[go_sem,h6,List.append_nil]
 have e1:List.take us.length (us.map usD)++[usD u]=(us++[u]).map usD:=by rw[List.take_of_length_le (by simp)];simp
 have e2:us.length+1=(us++[u]).length:=by simp
 rw[tabC_kills,e1,e2]
 exact le_drop (own:=recO s (us++[u])) (Nat.le_refl 5) (by simp only[AV.unders,AV.under];exact⟨trivial,trivial⟩) (recO_under s (us++[u]))
theorem rstep41_ok:OkF Tryz.prog 41 (lentC rstpR):=by
 refine okF_lent Tryz.func41 rfl (by decide) ?_
 rintro xs obs v0 obs' ex mv0 ⟨s,us,w,line,rfl,rfl,hw0,hwl,hwx,hul,hcl,hk,hln,rfl,rfl,rfl,rfl⟩
 obtain⟨hkp,hk1,hk5⟩:=kindP_S hk
 generalize hu:useW w line s us=U
 have hl0:0<w.length:=by cases w with|nil=>exact absurd rfl hw0|cons a r=>simp
 have fin:∀sl own (e:Int),sl.getD 6 .top=.dat (.int .i64 e)->U=(e,us)->post Tryz.prog Tryz.f41 (.dat (.int .i64 U.1)) (recO s U.2++[]) [4] .ret ⟨sl,recO s us++own,5,[]⟩:=fun sl own e h hU=>by
  subst hU
  refine post_resO (mv':=[]) (.inl rfl) [.tmp 6] rfl (by simp) ?_
  simp only[go_sem,h,List.append_nil]
  exact le_drop (own:=recO s us) (Nat.le_refl 5) (by simp only[AV.unders,AV.under];exact⟨trivial,trivial⟩) (recO_under s us)
 have bad:formW w (kindS (w.getD 0 []))=false->U=(4,us):=fun h=>by rw[← hu];unfold useW;rw[if_pos (.inl h)]
 have bt1:(false == true)=false:=rfl
 have bt2:(false == false)=true:=rfl
 have bt3:(true == true)=true:=rfl
 have bt4:(true == false)=false:=rfl
 refine sem_of_awp (Γ:=tbl tabRs) tabRs_ok _ _ _ ?_
 have n0:D.nth (strsD w) 0=.str (w.getD 0 []):=D.nth_map hl0
 have z0:(0:Int)<w.length:=by omega
 simp only[go_sem,Tryz.ntmps41,recO,n0,z0]
 refine call_data kindPR (mem_ix 0 rfl) _ _ rfl ⟨w.getD 0 [],rfl,rfl⟩ (.inl rfl) ?_
 rw[hkp]
 have hK:kindS (w.getD 0 [])=11∨kindS (w.getD 0 [])=12∨kindS (w.getD 0 [])=13∨kindS (w.getD 0 [])=14∨kindS (w.getD 0 [])=15:=by omega
 rcases hK with hK|hK|hK|hK|hK
 ·rw[hK]
  simp only[go_sem]
  by_cases n4:w.length=4
  ·obtain⟨a,b,c,d,rfl⟩:∃a b c d,w=[a,b,c,d]:=by
    match w,n4 with
    | [a,b,c,d],_=>exact⟨a,b,c,d,rfl⟩
   by_cases hd:d=[100,101,101,112]
   ·have hd':=eq_true hd
    have n3d:D.nth [D.str a,D.str b,D.str c,D.str d] 3=.str d:=rfl
    simp only[go_sem,n3d,hd',List.map_cons,List.map_nil,List.length_cons,List.length_nil,decide_true,decide_false,bt1,bt2,bt3,bt4,Bool.not_true,Bool.not_false,strsD]
    refine call_data isNmR (mem_ix 1 rfl) [.str b] _ rfl ⟨b,rfl,rfl⟩ (.inl rfl) ?_
    by_cases hnm:isNm b=true
    ·simp only[go_sem,hnm,Bool.not_true]
     refine call_data numR (mem_ix 2 rfl) [.str c] _ rfl ⟨c,rfl,hwx c (by simp),rfl⟩ (.inl rfl) ?_
     by_cases hc:numN c<0
     ·simp only[go_sem,hc,decide_true]
      exact fin _ _ _ rfl (bad (by rw[hK];simp[formW,wantK,deepW,hd,show ¬0<=numN c by omega]))
     ·have hc':=eq_false hc
      simp only[go_sem,hc',decide_false]
      have hf:formW [a,b,c,d] 11=true:=by simp[formW,wantK,deepW,hnm,hd,show 0<=numN c by omega]
      by_cases hc0:s.classes.length=0
      ·have hc0':((s.classes.length:Nat):Int)=0:=by omega
       simp only[go_sem,hc0',decide_true]
       exact fin _ _ _ rfl (by rw[← hu];unfold useW;rw[if_pos (.inr hc0)])
      ·have hc0':=eq_false (show ¬((s.classes.length:Nat):Int)=0 by omega)
       simp only[go_sem,hc0',decide_false]
       refine sem_drawU [(22,[0])] [(19,[4]),(0,[4]),(5,[4]),(6,[4]),(7,[4]),(8,[4])] (pf:=[]) (mf:=[]) mixed tabRs_ok pureNo growNo noMk (ones [0,1,2,3,4,5,6,7,8,9,10,11,12,13,14,15,16,17,18,19,20,21,22]) (by kernel_rfl) ?_
       have nb:D.nth [D.str a,D.str b,D.str c] 1=.str b:=rfl
       simp only[go_sem,nb]
       refine⟨inR_i64.2 (by omega),by omega,by omega,?_⟩
       refine rstep_fin ⟨s.classes.length - 1,line,b,1,numN c,true⟩ rfl ?_ ?_
       ·rw[← hu];unfold useW;rw[if_neg (by rw[hK,hf];simp[hc0]),hK];simp
       ·have:((s.classes.length - 1:Nat):Int)=(s.classes.length:Int) - 1:=by omega
        simp only[usD,this];rfl
    ·have hnm':isNm b=false:=by simpa using hnm
     simp only[go_sem,hnm',Bool.not_false]
     exact fin _ _ _ rfl (bad (by rw[hK];simp[formW,hnm']))
   ·have hd':=eq_false hd
    have n3d:D.nth [D.str a,D.str b,D.str c,D.str d] 3=.str d:=rfl
    simp only[go_sem,n3d,hd',List.map_cons,List.map_nil,List.length_cons,List.length_nil,decide_true,decide_false,bt1,bt2,bt3,bt4,Bool.not_true,Bool.not_false,strsD]
    exact fin _ _ _ rfl (bad (by rw[hK];simp[formW,wantK,deepW,hd]))
  have n4':=eq_false (show ¬(w.length:Int)=4 by omega)
  by_cases n3:w.length=3
  ·obtain⟨a,b,c,rfl⟩:∃a b c,w=[a,b,c]:=by
    match w,n3 with
    | [a,b,c],_=>exact⟨a,b,c,rfl⟩
   simp only[go_sem,List.map_cons,List.map_nil,List.length_cons,List.length_nil,decide_true,decide_false,bt1,bt2,bt3,bt4,Bool.not_true,Bool.not_false,strsD]
   refine call_data isNmR (mem_ix 1 rfl) [.str b] _ rfl ⟨b,rfl,rfl⟩ (.inl rfl) ?_
   by_cases hnm:isNm b=true
   ·simp only[go_sem,hnm,Bool.not_true]
    refine call_data numR (mem_ix 2 rfl) [.str c] _ rfl ⟨c,rfl,hwx c (by simp),rfl⟩ (.inl rfl) ?_
    by_cases hc:numN c<0
    ·simp only[go_sem,hc,decide_true]
     exact fin _ _ _ rfl (bad (by rw[hK];simp[formW,wantK,deepW,show ¬0<=numN c by omega]))
    ·have hc':=eq_false hc
     simp only[go_sem,hc',decide_false]
     have hf:formW [a,b,c] 11=true:=by simp[formW,wantK,deepW,hnm,show 0<=numN c by omega]
     by_cases hc0:s.classes.length=0
     ·have hc0':((s.classes.length:Nat):Int)=0:=by omega
      simp only[go_sem,hc0',decide_true]
      exact fin _ _ _ rfl (by rw[← hu];unfold useW;rw[if_pos (.inr hc0)])
     ·have hc0':=eq_false (show ¬((s.classes.length:Nat):Int)=0 by omega)
      simp only[go_sem,hc0',decide_false]
      refine sem_drawU [(22,[0])] [(19,[4]),(0,[4]),(5,[4]),(6,[4]),(7,[4]),(8,[4])] (pf:=[]) (mf:=[]) mixed tabRs_ok pureNo growNo noMk (ones [0,1,2,3,4,5,6,7,8,9,10,11,12,13,14,15,16,17,18,19,20,21,22]) (by kernel_rfl) ?_
      have nb:D.nth [D.str a,D.str b,D.str c] 1=.str b:=rfl
      simp only[go_sem,nb]
      refine⟨inR_i64.2 (by omega),by omega,by omega,?_⟩
      refine rstep_fin ⟨s.classes.length - 1,line,b,1,numN c,false⟩ rfl ?_ ?_
      ·rw[← hu];unfold useW;rw[if_neg (by rw[hK,hf];simp[hc0]),hK];simp
      ·have:((s.classes.length - 1:Nat):Int)=(s.classes.length:Int) - 1:=by omega
       simp only[usD,this];rfl
   ·have hnm':isNm b=false:=by simpa using hnm
    simp only[go_sem,hnm',Bool.not_false]
    exact fin _ _ _ rfl (bad (by rw[hK];simp[formW,hnm']))
  ·have n3':=eq_false (show ¬(w.length:Int)=3 by omega)
   simp only[go_sem,n4',n3',bt4,decide_true,decide_false,Bool.not_false,Bool.not_true]
   exact fin _ _ _ rfl (bad (by rw[hK];simp[formW,wantK,deepW,n3,n4]))
 ·rw[hK]
  simp only[go_sem]
  by_cases n3:w.length=3
  ·obtain⟨a,b,c,rfl⟩:∃a b c,w=[a,b,c]:=by
    match w,n3 with
    | [a,b,c],_=>exact⟨a,b,c,rfl⟩
   simp only[go_sem,List.map_cons,List.map_nil,List.length_cons,List.length_nil,decide_true,decide_false,bt1,bt2,bt3,bt4,Bool.not_true,Bool.not_false,strsD]
   refine call_data isNmR (mem_ix 1 rfl) [.str b] _ rfl ⟨b,rfl,rfl⟩ (.inl rfl) ?_
   by_cases hnm:isNm b=true
   ·simp only[go_sem,hnm,Bool.not_true]
    refine call_data numR (mem_ix 2 rfl) [.str c] _ rfl ⟨c,rfl,hwx c (by simp),rfl⟩ (.inl rfl) ?_
    by_cases hc:numN c<0
    ·simp only[go_sem,hc,decide_true]
     exact fin _ _ _ rfl (bad (by rw[hK];simp[formW,wantK,deepW,show ¬0<=numN c by omega]))
    ·have hc':=eq_false hc
     simp only[go_sem,hc',decide_false]
     have hf:formW [a,b,c] 12=true:=by simp[formW,wantK,deepW,hnm,show 0<=numN c by omega]
     by_cases hc0:s.classes.length=0
     ·have hc0':((s.classes.length:Nat):Int)=0:=by omega
      simp only[go_sem,hc0',decide_true]
      exact fin _ _ _ rfl (by rw[← hu];unfold useW;rw[if_pos (.inr hc0)])
     ·have hc0':=eq_false (show ¬((s.classes.length:Nat):Int)=0 by omega)
      simp only[go_sem,hc0',decide_false]
      refine sem_drawU [(22,[0])] [(19,[4]),(0,[4]),(5,[4]),(6,[4]),(7,[4]),(8,[4])] (pf:=[]) (mf:=[]) mixed tabRs_ok pureNo growNo noMk (ones [0,1,2,3,4,5,6,7,8,9,10,11,12,13,14,15,16,17,18,19,20,21,22]) (by kernel_rfl) ?_
      have nb:D.nth [D.str a,D.str b,D.str c] 1=.str b:=rfl
      simp only[go_sem,nb]
      refine⟨inR_i64.2 (by omega),by omega,by omega,?_⟩
      refine rstep_fin ⟨s.classes.length - 1,line,b,2,numN c,false⟩ rfl ?_ ?_
      ·rw[← hu];unfold useW;rw[if_neg (by rw[hK,hf];simp[hc0]),hK];simp
      ·have:((s.classes.length - 1:Nat):Int)=(s.classes.length:Int) - 1:=by omega
       simp only[usD,this];rfl
   ·have hnm':isNm b=false:=by simpa using hnm
    simp only[go_sem,hnm',Bool.not_false]
    exact fin _ _ _ rfl (bad (by rw[hK];simp[formW,hnm']))
  ·have n3':=eq_false (show ¬(w.length:Int)=3 by omega)
   simp only[go_sem,n3',bt4,decide_true,decide_false,Bool.not_false,Bool.not_true]
   exact fin _ _ _ rfl (bad (by rw[hK];simp[formW,wantK,n3]))
 ·rw[hK]
  simp only[go_sem]
  by_cases n2:w.length=2
  ·obtain⟨a,b,rfl⟩:∃a b,w=[a,b]:=by
    match w,n2 with
    | [a,b],_=>exact⟨a,b,rfl⟩
   simp only[go_sem,List.map_cons,List.map_nil,List.length_cons,List.length_nil,decide_true,decide_false,bt1,bt2,bt3,bt4,Bool.not_true,Bool.not_false,strsD]
   refine call_data isNmR (mem_ix 1 rfl) [.str b] _ rfl ⟨b,rfl,rfl⟩ (.inl rfl) ?_
   by_cases hnm:isNm b=true
   ·simp only[go_sem,hnm,Bool.not_true]
    have hf:formW [a,b] 13=true:=by simp[formW,wantK,deepW,hnm]
    by_cases hc0:s.classes.length=0
    ·have hc0':((s.classes.length:Nat):Int)=0:=by omega
     simp only[go_sem,hc0',decide_true]
     exact fin _ _ _ rfl (by rw[← hu];unfold useW;rw[if_pos (.inr hc0)])
    ·have hc0':=eq_false (show ¬((s.classes.length:Nat):Int)=0 by omega)
     simp only[go_sem,hc0',decide_false]
     refine sem_drawU [(22,[0])] [(19,[4]),(0,[4]),(5,[4]),(6,[4]),(7,[4]),(8,[4])] (pf:=[]) (mf:=[]) mixed tabRs_ok pureNo growNo noMk (ones [0,1,2,3,4,5,6,7,8,9,10,11,12,13,14,15,16,17,18,19,20,21,22]) (by kernel_rfl) ?_
     have nb:D.nth [D.str a,D.str b] 1=.str b:=rfl
     simp only[go_sem,nb]
     refine⟨inR_i64.2 (by omega),by omega,by omega,?_⟩
     refine rstep_fin ⟨s.classes.length - 1,line,b,3,0,false⟩ rfl ?_ ?_
     ·rw[← hu];unfold useW;rw[if_neg (by rw[hK,hf];simp[hc0]),hK];simp
     ·have:((s.classes.length - 1:Nat):Int)=(s.classes.length:Int) - 1:=by omega
      simp only[usD,this];rfl
   ·have hnm':isNm b=false:=by simpa using hnm
    simp only[go_sem,hnm',Bool.not_false]
    exact fin _ _ _ rfl (bad (by rw[hK];simp[formW,hnm']))
  ·have n2':=eq_false (show ¬(w.length:Int)=2 by omega)
   have hb:=bad (by rw[hK];simp[formW,wantK,n2])
   by_cases n3:w.length=3
   ·have n3':=eq_true (show (w.length:Int)=3 by omega)
    simp only[go_sem,n2',n3',bt1,decide_true,decide_false,Bool.not_false,Bool.not_true]
    exact fin _ _ _ rfl hb
   have n3':=eq_false (show ¬(w.length:Int)=3 by omega)
   simp only[go_sem,n2',n3',bt2,decide_true,decide_false,Bool.not_false,Bool.not_true]
   exact fin _ _ _ rfl hb
 ·rw[hK]
  simp only[go_sem]
  by_cases n2:w.length=2
  ·obtain⟨a,b,rfl⟩:∃a b,w=[a,b]:=by
    match w,n2 with
    | [a,b],_=>exact⟨a,b,rfl⟩
   simp only[go_sem,List.map_cons,List.map_nil,List.length_cons,List.length_nil,decide_true,decide_false,bt1,bt2,bt3,bt4,Bool.not_true,Bool.not_false,strsD]
   refine call_data isNmR (mem_ix 1 rfl) [.str b] _ rfl ⟨b,rfl,rfl⟩ (.inl rfl) ?_
   by_cases hnm:isNm b=true
   ·simp only[go_sem,hnm,Bool.not_true]
    have hf:formW [a,b] 14=true:=by simp[formW,wantK,deepW,hnm]
    by_cases hc0:s.classes.length=0
    ·have hc0':((s.classes.length:Nat):Int)=0:=by omega
     simp only[go_sem,hc0',decide_true]
     exact fin _ _ _ rfl (by rw[← hu];unfold useW;rw[if_pos (.inr hc0)])
    ·have hc0':=eq_false (show ¬((s.classes.length:Nat):Int)=0 by omega)
     simp only[go_sem,hc0',decide_false]
     refine sem_drawU [(22,[0])] [(19,[4]),(0,[4]),(5,[4]),(6,[4]),(7,[4]),(8,[4])] (pf:=[]) (mf:=[]) mixed tabRs_ok pureNo growNo noMk (ones [0,1,2,3,4,5,6,7,8,9,10,11,12,13,14,15,16,17,18,19,20,21,22]) (by kernel_rfl) ?_
     have nb:D.nth [D.str a,D.str b] 1=.str b:=rfl
     simp only[go_sem,nb]
     refine⟨inR_i64.2 (by omega),by omega,by omega,?_⟩
     refine rstep_fin ⟨s.classes.length - 1,line,b,4,0,false⟩ rfl ?_ ?_
     ·rw[← hu];unfold useW;rw[if_neg (by rw[hK,hf];simp[hc0]),hK];simp
     ·have:((s.classes.length - 1:Nat):Int)=(s.classes.length:Int) - 1:=by omega
      simp only[usD,this];rfl
   ·have hnm':isNm b=false:=by simpa using hnm
    simp only[go_sem,hnm',Bool.not_false]
    exact fin _ _ _ rfl (bad (by rw[hK];simp[formW,hnm']))
  ·have n2':=eq_false (show ¬(w.length:Int)=2 by omega)
   have hb:=bad (by rw[hK];simp[formW,wantK,n2])
   by_cases n3:w.length=3
   ·have n3':=eq_true (show (w.length:Int)=3 by omega)
    simp only[go_sem,n2',n3',bt1,decide_true,decide_false,Bool.not_false,Bool.not_true]
    exact fin _ _ _ rfl hb
   have n3':=eq_false (show ¬(w.length:Int)=3 by omega)
   simp only[go_sem,n2',n3',bt2,decide_true,decide_false,Bool.not_false,Bool.not_true]
   exact fin _ _ _ rfl hb
 ·rw[hK]
  simp only[go_sem]
  by_cases n2:w.length=2
  ·obtain⟨a,b,rfl⟩:∃a b,w=[a,b]:=by
    match w,n2 with
    | [a,b],_=>exact⟨a,b,rfl⟩
   simp only[go_sem,List.map_cons,List.map_nil,List.length_cons,List.length_nil,decide_true,decide_false,bt1,bt2,bt3,bt4,Bool.not_true,Bool.not_false,strsD]
   refine call_data isNmR (mem_ix 1 rfl) [.str b] _ rfl ⟨b,rfl,rfl⟩ (.inl rfl) ?_
   by_cases hnm:isNm b=true
   ·simp only[go_sem,hnm,Bool.not_true]
    have hf:formW [a,b] 15=true:=by simp[formW,wantK,deepW,hnm]
    by_cases hc0:s.classes.length=0
    ·have hc0':((s.classes.length:Nat):Int)=0:=by omega
     simp only[go_sem,hc0',decide_true]
     exact fin _ _ _ rfl (by rw[← hu];unfold useW;rw[if_pos (.inr hc0)])
    ·have hc0':=eq_false (show ¬((s.classes.length:Nat):Int)=0 by omega)
     simp only[go_sem,hc0',decide_false]
     refine sem_drawU [(22,[0])] [(19,[4]),(0,[4]),(5,[4]),(6,[4]),(7,[4]),(8,[4])] (pf:=[]) (mf:=[]) mixed tabRs_ok pureNo growNo noMk (ones [0,1,2,3,4,5,6,7,8,9,10,11,12,13,14,15,16,17,18,19,20,21,22]) (by kernel_rfl) ?_
     have nb:D.nth [D.str a,D.str b] 1=.str b:=rfl
     simp only[go_sem,nb]
     refine⟨inR_i64.2 (by omega),by omega,by omega,?_⟩
     refine rstep_fin ⟨s.classes.length - 1,line,b,5,0,false⟩ rfl ?_ ?_
     ·rw[← hu];unfold useW;rw[if_neg (by rw[hK,hf];simp[hc0]),hK];simp
     ·have:((s.classes.length - 1:Nat):Int)=(s.classes.length:Int) - 1:=by omega
      simp only[usD,this];rfl
   ·have hnm':isNm b=false:=by simpa using hnm
    simp only[go_sem,hnm',Bool.not_false]
    exact fin _ _ _ rfl (bad (by rw[hK];simp[formW,hnm']))
  ·have n2':=eq_false (show ¬(w.length:Int)=2 by omega)
   have hb:=bad (by rw[hK];simp[formW,wantK,n2])
   by_cases n3:w.length=3
   ·have n3':=eq_true (show (w.length:Int)=3 by omega)
    simp only[go_sem,n2',n3',bt1,decide_true,decide_false,Bool.not_false,Bool.not_true]
    exact fin _ _ _ rfl hb
   have n3':=eq_false (show ¬(w.length:Int)=3 by omega)
   simp only[go_sem,n2',n3',bt2,decide_true,decide_false,Bool.not_false,Bool.not_true]
   exact fin _ _ _ rfl hb
end Go.AM
namespace Go.AM
open Go Go.Proofs
abbrev sysO(s:PSys):Obj:=.box [.dat (.sl (some 3) (s.pools.map poolD)),.dat (.sl none (s.locks.map .str)),.dat (.sl (some 4) (s.classes.map clsD))]
abbrev tabRK:List (Nat×Contract):=[(34,dataC namesR),(35,dataC isNmR),(36,dataC beforeR),(37,dataC classR)]
def fewB(s:PSys):Bool:=!decide (10<(s.pools.length:Int)) && !decide (10<(s.locks.length:Int)) && !decide (10<(s.classes.length:Int)) && s.classes.all fun c=>!decide (20<(c.steps.length:Int))
def fewR(ds:List D)(v:AV):Prop:=∃s:PSys,ds=[sysD s]/\v=.dat (.bool (fewB s))
theorem few_ok:OkF Tryz.prog 13 (dataC fewR):=by
 refine okF_data Tryz.func13 rfl (by decide) ?_
 rintro ds v ⟨s,rfl,rfl⟩
 generalize hv:fewB s=V
 refine sem_of_awp (Γ:=tbl []) okG_nil _ _ _ ?_
 have fin:∀s own (b c:Bool),b=c->s.getD 2 .top=.dat (.bool b)->post Tryz.prog Tryz.f13 (.dat (.bool c)) [] [] .ret ⟨s,own,0,[]⟩:=fun s own b c e h=>by
  subst e
  exact post_data (.inl rfl) [2] rfl trivial (by simp only[tmpsOf,h];rfl)
 unfold fewB at hv
 simp only[go_sem,Tryz.ntmps13,sysD]
 by_cases h1:10<(s.pools.length:Int)
 ·simp only[go_sem,h1]
  refine fin _ _ _ _ ?_ (by rfl)
  rw[← hv,decide_eq_true h1];rfl
 by_cases h2:10<(s.locks.length:Int)
 ·simp only[go_sem,h1,h2]
  refine fin _ _ _ _ ?_ (by rfl)
  rw[← hv,decide_eq_false h1,decide_eq_true h2];rfl
 by_cases h3:10<(s.classes.length:Int)
 ·simp only[go_sem,h1,h2,h3]
  refine fin _ _ _ _ ?_ (by rfl)
  rw[← hv,decide_eq_false h1,decide_eq_false h2,decide_eq_true h3];rfl
 rw[decide_eq_false h1,decide_eq_false h2,decide_eq_false h3]at hv
 simp only[Bool.not_false,Bool.true_and]at hv
 simp only[go_sem,h1,h2,h3]
 refine sem_loop (fun k:Nat=>⟨slotsOf 35 [(1,.ptr 0 0 0),(2,.dat (.bool false)),(3,.dat (.int .i64 k))],[sysO s],0,[]⟩)
  (fun k=>k<=s.classes.length/\((s.classes.drop k).all fun c=>!decide (20<(c.steps.length:Int)))=V) (fun k=>s.classes.length - k) 0 ⟨Nat.zero_le _,hv⟩ ?_ ?_
 ·exact le_slots' (by simp only[go_sem,Int.natCast_zero])
 ·rintro k ⟨hk,hI⟩
  refine sem_of_awp (Γ:=tbl []) okG_nil _ _ _ ?_
  cases hd:s.classes.drop k with
  | nil =>
   have:=end_of_drop hd hk
   have hk2:¬(k:Int)<s.classes.length:=by omega
   rw[hd]at hI
   simp only[go_sem,hk2]
   exact fin _ _ _ _ hI (by rfl)
  | cons c q =>
   have hlt:=lt_of_drop hd
   have hk2:(k:Int)<s.classes.length:=by omega
   have hk0:(0:Int)<=k:=Int.natCast_nonneg k
   have hn:=nth_of_drop (f:=clsD) hd
   rw[hd,List.all_cons]at hI
   simp only[go_sem,hk2,hk0,hn,hlt,clsD,stepsD]
   by_cases he:20<(c.steps.length:Int)
   ·rw[decide_eq_true he]at hI
    simp only[go_sem,he]
    exact fin _ _ _ _ hI (by rfl)
   ·rw[decide_eq_false he,Bool.not_false,Bool.true_and]at hI
    simp only[go_sem,he]
    refine⟨inR_i64.2 (by omega),k+1,⟨by omega,by rw[drop_cons hd];exact hI⟩,by omega,?_⟩
    exact le_slots' (by simp only[go_sem,Int.natCast_add,Int.cast_ofNat_Int])
end Go.AM
namespace Go.AM
open Go Go.Proofs
structure PSys.big (s:PSys):Prop where
 np:s.pools.length<=100000
 nl:s.locks.length<=100000
 nc:s.classes.length<=100000
def nmsBR(ds:List D)(v:AV):Prop:=∃s:PSys,ds=[sysD s]/\s.big/\v=.dat (.sl none ((namesL s).map .str))
def nmsSR(ds:List D)(xs:List D):Prop:=∃s:PSys,ds=[sysD s]/\s.big/\xs=(namesL s).map .str
theorem namesS_ok:OkF Tryz.prog 30 (madeC (madeS none nmsSR)):=by
 refine okF_made Tryz.func30 rfl (by decide) ?_
 rintro ds v ob ⟨xs,⟨s,rfl,⟨hp,hl,hc⟩,rfl⟩,rfl,rfl⟩
 obtain⟨pools,locks,classes⟩:=s
 simp only at hp hl hc ⊢
 generalize hv:namesL ⟨pools,locks,classes⟩=V
 rw[List.length_map]
 refine sem_of_awp (Γ:=tbl []) okG_nil _ _ _ ?_
 simp only[go_sem,Tryz.ntmps30,sysD]
 refine sem_le (le_addnil 3 none rfl (Nat.zero_le _)) ?_
 simp only[go_sem]
 refine sem_loop (fun k:Nat=>⟨slotsOf 39 [(1,.ptr 0 0 0),(2,.nils),(3,.sl 1 0 k),(9,.dat (.sl (some 3) (pools.map poolD))),(10,.dat (.int .i64 pools.length)),(11,.dat (.int .i64 k))],
   [.box [.dat (.sl (some 3) (pools.map poolD)),.dat (.sl none (locks.map .str)),.dat (.sl (some 4) (classes.map clsD))],.row none ((pools.take k).map fun p:PPool=>D.str p.name)],0,[]⟩)
  (fun k=>k<=pools.length) (fun k=>pools.length - k) 0 (Nat.zero_le _) ?_ ?_
 ·exact le_slots' (by simp only[go_sem,Int.natCast_zero])
 ·rintro k hk
  refine sem_of_awp (Γ:=tbl []) okG_nil _ _ _ ?_
  cases hd:pools.drop k with
  | nil =>
   have he:=end_of_drop hd hk
   have hk2:¬(k:Int)<pools.length:=by omega
   subst he
   have hlen:(pools.map fun p:PPool=>D.str p.name).take pools.length=pools.map fun p:PPool=>D.str p.name:=List.take_of_length_le (by simp)
   simp only[go_sem,hk2,List.take_length,hlen]
   refine⟨by omega,by omega,?_⟩
   refine sem_loop (fun k:Nat=>⟨slotsOf 39 [(1,.ptr 0 0 0),(2,.nils),(3,.sl 1 0 (pools.length+locks.length+k)),(26,.dat (.sl (some 4) (classes.map clsD))),(27,.dat (.int .i64 classes.length)),(28,.dat (.int .i64 k))],
     [.box [.dat (.sl (some 3) (pools.map poolD)),.dat (.sl none (locks.map .str)),.dat (.sl (some 4) (classes.map clsD))],.row none ((pools.map fun p:PPool=>D.str p.name)++locks.map D.str++(classes.take k).map fun p:PCls=>D.str p.name)],0,[]⟩)
    (fun k=>k<=classes.length) (fun k=>classes.length - k) 0 (Nat.zero_le _) ?_ ?_
   ·simp only[List.take_zero,List.map_nil,List.append_nil]
    exact le_slots' (by simp only[go_sem,Int.natCast_zero])
   ·rintro k hk
    refine sem_of_awp (Γ:=tbl []) okG_nil _ _ _ ?_
    cases hd:classes.drop k with
    | nil =>
     have he:=end_of_drop hd hk
     have hk2:¬(k:Int)<classes.length:=by omega
     subst he
     simp only[go_sem,hk2,List.take_length]
     refine post_resO (mv':=[]) (.inl rfl) [.tmp 2] rfl (fun _ h=>h) ?_
     simp only[go_sem]
     have e:((pools.map fun p:PPool=>D.str p.name)++locks.map D.str++classes.map fun p:PCls=>D.str p.name)=V.map .str:=by
      rw[← hv];simp[namesL,List.map_map,Function.comp_def]
     have e2:pools.length+locks.length+classes.length=V.length:=by rw[← hv];simp[namesL];omega
     rw[e,e2]
     refine Le.trans (le_swp (s':=[.sl 0 0 V.length]) (own':=[.row none (V.map .str),.box [.dat (.sl (some 3) (pools.map poolD)),.dat (.sl none (locks.map .str)),.dat (.sl (some 4) (classes.map clsD))]]) 0 1 (by decide:(0:Nat)<2) (by decide:(1:Nat)<2) (by rfl) (by rfl)) ?_
     refine le_end (own:=[_]) (ex:=[_]) (Nat.zero_le _) ?_ ?_ ?_
     ·simp only[go_sem]
     ·simp only[go_sem]
     ·simp only[go_sem,Obj.under,AV.unders,AV.under]
    | cons c q =>
     have hlt:=lt_of_drop hd
     have hk2:(k:Int)<classes.length:=by omega
     have hk0:(0:Int)<=k:=Int.natCast_nonneg k
     have hn:=nth_of_drop (f:=clsD) hd
     have hml:((classes.take k).map fun p:PCls=>D.str p.name).length=k:=by simp;omega
     have hrow:((pools.map fun p:PPool=>D.str p.name)++locks.map D.str++(classes.take k).map fun p:PCls=>D.str p.name).length=pools.length+locks.length+k:=by simp;omega
     have htk:((pools.map fun p:PPool=>D.str p.name)++locks.map D.str++(classes.take k).map fun p:PCls=>D.str p.name).take (pools.length+locks.length+k)=(pools.map fun p:PPool=>D.str p.name)++locks.map D.str++(classes.take k).map fun p:PCls=>D.str p.name :=
      List.take_of_length_le (by omega)
     have hsn:(pools.map fun p:PPool=>D.str p.name)++locks.map D.str++((classes.take (k+1)).map fun p:PCls=>D.str p.name)=((pools.map fun p:PPool=>D.str p.name)++locks.map D.str++(classes.take k).map fun p:PCls=>D.str p.name)++[.str c.name]:=by
      rw[map_snoc (f:=PCls.name) hd,List.append_assoc,List.append_assoc];simp
     generalize ((pools.map fun p:PPool=>D.str p.name)++locks.map D.str++(classes.take k).map fun p:PCls=>D.str p.name)=row at *
     simp only[go_sem,hk2,hk0,hn,clsD,hrow,htk]
     refine⟨by omega,by omega,inR_i64.2 (by omega),k+1,by omega,by omega,?_⟩
     rw[hsn]
     refine le_end (own:=[_,_]) (ex:=[_,_]) (Nat.zero_le _) ?_ ?_ ?_
     ·simp only[go_sem,Int.natCast_add,Int.cast_ofNat_Int,Nat.add_assoc]
     ·simp only[go_sem]
     ·simp only[go_sem,Obj.under,AV.unders,AV.under]
  | cons c q =>
   have hlt:=lt_of_drop hd
   have hk2:(k:Int)<pools.length:=by omega
   have hk0:(0:Int)<=k:=Int.natCast_nonneg k
   have hn:=nth_of_drop (f:=poolD) hd
   have hrow:((pools.take k).map fun p:PPool=>D.str p.name).length=k:=by simp;omega
   have htk:((pools.take k).map fun p:PPool=>D.str p.name).take k=(pools.take k).map fun p:PPool=>D.str p.name:=List.take_of_length_le (by omega)
   have hsn:=map_snoc (f:=PPool.name) hd
   generalize ((pools.take k).map fun p:PPool=>D.str p.name)=row at *
   simp only[go_sem,hk2,hk0,hn,poolD,hrow,htk]
   refine⟨by omega,by omega,inR_i64.2 (by omega),k+1,by omega,by omega,?_⟩
   rw[hsn]
   refine le_end (own:=[_,_]) (ex:=[_,_]) (Nat.zero_le _) ?_ ?_ ?_
   ·simp only[go_sem,Int.natCast_add,Int.cast_ofNat_Int,Nat.add_assoc]
   ·simp only[go_sem]
   ·simp only[go_sem,Obj.under,AV.unders,AV.under]
end Go.AM

