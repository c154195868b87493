/- Own work over the model of the kit. -/
import Derived.Test.YtaecgpgkfajfjaaGreatDoorD17
import Derived.Test.YtaecgpgkfajfjaaGreatDoorD15
import Derived.Test.YtaecgpgkfajfjaaGreatDoorD14
import Derived.Test.YtaecgpgkfajfjaaGreatDoorD11
import Derived.Lib.ItoaMem
set_option linter.unnecessarySimpa false
set_option linter.unusedSimpArgs false
set_option linter.unusedVariables false
set_option maxHeartbeats 4000000
set_option maxRecDepth 8000
namespace Go.AM
open Go Go.Proofs
def callsAny(l:List PStep)(c:Int):Bool:=l.any fun x=>decide (x.kind=5) && decide (x.on=c)
def callsL(n:Nat)(l:List PStep):List Int:=((List.range n).filter fun c:Nat=>callsAny l (c:Int)).map fun c:Nat=>(c:Int)
def callsS(out:List Int)(x:PStep):List Int:=if x.kind=5/\x.on∉out then out++[x.on] else out
def callsD(l:List PStep):List Int:=l.foldl callsS []
theorem callsAny_iff{l:List PStep}{c:Int}:callsAny l c=true↔∃x∈l,x.kind=5/\x.on=c:=by
 simp[callsAny,List.any_eq_true]
theorem callsD_spec:∀(l:List PStep) (out:List Int),out.Nodup->(l.foldl callsS out).Nodup/\∀y,y∈l.foldl callsS out↔y∈out∨∃x∈l,x.kind=5/\x.on=y
 | [],out,h=>⟨h,fun y=>by simp⟩
 | x :: l,out,h=>by
  rw[List.foldl_cons]
  by_cases hx:x.kind=5/\x.on∉out
  ·have e:callsS out x=out++[x.on]:=if_pos hx
   rw[e]
   obtain⟨h1,h2⟩:=callsD_spec l (out++[x.on]) (by
    rw[List.nodup_append]
    exact⟨h,by simp,fun a ha b hb=>by simp only[List.mem_cons,List.not_mem_nil,or_false]at hb;subst hb;rintro rfl;exact hx.2 ha⟩)
   refine⟨h1,fun y=>?_⟩
   rw[h2 y]
   constructor
   ·rintro (h3|⟨z,hz,h3⟩)
    ·rcases List.mem_append.1 h3 with h3|h3
     ·exact .inl h3
     ·simp only[List.mem_cons,List.not_mem_nil,or_false]at h3
      exact .inr ⟨x,by simp,hx.1,h3.symm⟩
    ·exact .inr ⟨z,by simp[hz],h3⟩
   ·rintro (h3|⟨z,hz,h3⟩)
    ·exact .inl (by simp[h3])
    ·rcases List.mem_cons.1 hz with rfl|hz
     ·exact .inl (by simp[h3.2])
     ·exact .inr ⟨z,hz,h3⟩
  ·have e:callsS out x=out:=if_neg hx
   rw[e]
   obtain⟨h1,h2⟩:=callsD_spec l out h
   refine⟨h1,fun y=>?_⟩
   rw[h2 y]
   constructor
   ·rintro (h3|⟨z,hz,h3⟩)
    ·exact .inl h3
    ·exact .inr ⟨z,by simp[hz],h3⟩
   ·rintro (h3|⟨z,hz,h3⟩)
    ·exact .inl h3
    ·rcases List.mem_cons.1 hz with rfl|hz
     ·refine .inl (Classical.byContradiction fun hn=>hx ⟨h3.1,?_⟩)
      rw[h3.2];exact hn
     ·exact .inr ⟨z,hz,h3⟩
theorem sorted_uniq:∀{a b:List Int},a.Pairwise (· < ·)->b.Pairwise (· < ·)->(∀x,x∈a↔x∈b)->a=b
 | [],b,_,_,h=>by
  cases b with
  | nil=>rfl
  | cons y b=>exact absurd ((h y).2 (by simp)) (by simp)
 | x :: a,[],_,_,h=>absurd ((h x).1 (by simp)) (by simp)
 | x :: a,y :: b,ha,hb,h=>by
  obtain⟨a1,a2⟩:=List.pairwise_cons.1 ha
  obtain⟨b1,b2⟩:=List.pairwise_cons.1 hb
  have hxy:x=y:=by
   rcases List.mem_cons.1 ((h x).1 (by simp)) with h1|h1
   ·exact h1
   ·rcases List.mem_cons.1 ((h y).2 (by simp)) with h2|h2
    ·exact h2.symm
    ·have:=b1 x h1;have:=a1 y h2;omega
  subst hxy
  have:a=b:=sorted_uniq a2 b2 fun z=>by
   constructor
   ·intro hz
    rcases List.mem_cons.1 ((h z).1 (by simp[hz])) with h1|h1
    ·subst h1;exact absurd (a1 z hz) (by omega)
    ·exact h1
   ·intro hz
    rcases List.mem_cons.1 ((h z).2 (by simp[hz])) with h1|h1
    ·subst h1;exact absurd (b1 z hz) (by omega)
    ·exact h1
  rw[this]
theorem callsL_sorted(n:Nat)(l:List PStep):(callsL n l).Pairwise (· < ·):=by
 unfold callsL
 rw[List.pairwise_map]
 exact List.Pairwise.imp (fun h=>by omega) ((List.pairwise_lt_range (n:=n)).filter _)
theorem mem_callsL{n:Nat}{l:List PStep}{y:Int}:y∈callsL n l↔(0<=y/\y<n)/\∃x∈l,x.kind=5/\x.on=y:=by
 unfold callsL
 simp only[List.mem_map,List.mem_filter,List.mem_range,callsAny_iff]
 constructor
 ·rintro ⟨c,⟨h1,h2⟩,rfl⟩;exact⟨by omega,h2⟩
 ·rintro ⟨h1,h2⟩;exact⟨y.toNat,⟨by omega,by rw[show ((y.toNat:Nat):Int)=y by omega];exact h2⟩,by omega⟩
theorem calls_sorted{n:Nat}{l:List PStep}{u:List Int}(hp:u.Perm (callsD l))(hs:u.Pairwise (· <= ·))(hl:∀x∈l,x.kind=5->0<=x.on/\x.on<n):u=callsL n l:=by
 obtain⟨h1,h2⟩:=callsD_spec l [] (by simp)
 have hn:u.Nodup:=hp.nodup_iff.2 h1
 refine sorted_uniq ?_ (callsL_sorted n l) fun y=>?_
 ·have:=List.Pairwise.and hs hn
  exact this.imp fun h=>by have:=h.1;have:=h.2;omega
 ·rw[hp.mem_iff,mem_callsL]
  unfold callsD
  rw[h2 y]
  constructor
  ·rintro (h3|⟨x,hx,h3⟩)
   ·simp at h3
   ·exact⟨by rw[← h3.2];exact hl x hx h3.1,x,hx,h3⟩
  ·rintro ⟨_,h3⟩;exact .inr h3
theorem callsD_len{n:Nat}{l:List PStep}(hl:∀x∈l,x.kind=5->0<=x.on/\x.on<n):(callsD l).length<=l.length:=by
 have key:∀(l:List PStep) (out:List Int),(l.foldl callsS out).length<=out.length+l.length:=fun l=>by
  induction l with
  | nil=>simp
  | cons x l ih =>
   intro out
   rw[List.foldl_cons]
   have:=ih (callsS out x)
   have h2:(callsS out x).length<=out.length+1:=by unfold callsS;split <;> simp
   simp only[List.length_cons];omega
 have:=key l []
 simpa [callsD] using this
end Go.AM
namespace Go.AM
open Go Go.Proofs
def srtI(i j:Nat)(l:List Int):Prop:=∀p q:Nat,p<q->q<=i->q≠j->l.getD p 0<=l.getD q 0
def swapI(l:List Int)(j:Nat):List Int:=(l.set j (l.getD (j - 1) 0)).set (j - 1) (l.getD j 0)
theorem swapI_len(l:List Int)(j:Nat):(swapI l j).length=l.length:=by simp[swapI]
theorem getD_setI{l:List Int}{i j:Nat}{a:Int}:(l.set i a).getD j 0=if i=j/\i<l.length then a else l.getD j 0:=by
 rw[List.getD_eq_getElem?_getD,List.getElem?_set,List.getD_eq_getElem?_getD]
 by_cases h:i=j
 ·subst h
  by_cases h2:i<l.length
  ·simp[h2]
  ·simp[h2]
 ·simp[h]
theorem swapI_at{l:List Int}{j k:Nat}(h1:1<=j)(h2:j<l.length):(swapI l j).getD k 0=if k=j - 1 then l.getD j 0 else if k=j then l.getD (j - 1) 0 else l.getD k 0:=by
 unfold swapI
 rw[getD_setI,getD_setI,List.length_set]
 by_cases a:k=j - 1
 ·rw[if_pos ⟨a.symm,by omega⟩,if_pos a]
 ·rw[if_neg (fun h=>a h.1.symm),if_neg a]
  by_cases b:k=j
  ·rw[if_pos ⟨b.symm,h2⟩,if_pos b]
  ·rw[if_neg (fun h=>b h.1.symm),if_neg b]
theorem swapI_perm{l:List Int}{j:Nat}(h1:1<=j)(h2:j<l.length):(swapI l j).Perm l:=by
 obtain⟨k,rfl⟩:∃k,j=k+1:=⟨j - 1,by omega⟩
 have e:l=l.take k++(l.getD k 0 :: l.getD (k+1) 0 :: l.drop (k+2)):=by
  have a1:l.drop k=l.getD k 0 :: l.drop (k+1):=by
   rw[List.drop_eq_getElem_cons (by omega),List.getD_eq_getElem?_getD,List.getElem?_eq_getElem (by omega)];rfl
  have a2:l.drop (k+1)=l.getD (k+1) 0 :: l.drop (k+2):=by
   rw[List.drop_eq_getElem_cons (by omega),List.getD_eq_getElem?_getD,List.getElem?_eq_getElem (by omega)];rfl
  rw[← a2,← a1,List.take_append_drop]
 have e2:swapI l (k+1)=l.take k++(l.getD (k+1) 0 :: l.getD k 0 :: l.drop (k+2)):=by
  refine List.ext_getElem (by simp[swapI];omega) fun n n1 n2=>?_
  have n1':n<l.length:=by rw[swapI_len]at n1;exact n1
  have hl:(swapI l (k+1)).getD n 0=(swapI l (k+1))[n]:=by rw[List.getD_eq_getElem?_getD,List.getElem?_eq_getElem n1];rfl
  rw[← hl,swapI_at (by omega) h2]
  have ht:(l.take k).length=k:=by simp;omega
  by_cases c1:n<k
  ·rw[if_neg (by omega),if_neg (by omega),List.getElem_append_left (by omega),List.getElem_take,List.getD_eq_getElem?_getD,List.getElem?_eq_getElem n1'];rfl
  ·rw[List.getElem_append_right (by omega)]
   simp only[ht]
   by_cases c2:n=k
   ·subst c2;simp
   ·by_cases c3:n=k+1
    ·subst c3
     simp
    ·rw[if_neg (by omega),if_neg c3]
     obtain⟨m,rfl⟩:∃m,n=k+(m+2):=⟨n - k - 2,by omega⟩
     have:k+(m+2) - k=m+2:=by omega
     simp only[this,List.getElem_cons_succ,List.getElem_drop]
     rw[List.getD_eq_getElem?_getD,List.getElem?_eq_getElem n1']
     simp only[Option.getD_some]
     congr 1;omega
 rw[e2]
 conv=>rhs;rw[e]
 exact(List.Perm.swap _ _ _).append_left _
theorem srtI_swap{i j:Nat}{l:List Int}(h:srtI i j l)(h1:1<=j)(h2:j<l.length)(hji:j<=i)(hlt:l.getD j 0<l.getD (j - 1) 0):srtI i (j - 1) (swapI l j):=by
 intro p q hpq hqi hqj
 rw[swapI_at h1 h2,swapI_at h1 h2,if_neg hqj]
 by_cases q1:q=j
 ·rw[if_pos q1]
  by_cases p1:p=j - 1
  ·rw[if_pos p1];omega
  ·rw[if_neg p1,if_neg (by omega)]
   exact h p (j - 1) (by omega) (by omega) (by omega)
 ·rw[if_neg q1]
  by_cases p1:p=j - 1
  ·rw[if_pos p1];exact h j q (by omega) hqi q1
  ·rw[if_neg p1]
   by_cases p2:p=j
   ·rw[if_pos p2];exact h (j - 1) q (by omega) hqi q1
   ·rw[if_neg p2];exact h p q hpq hqi q1
theorem srtI_stop{i j:Nat}{l:List Int}(h:srtI i j l)(hs:j=0∨¬l.getD j 0<l.getD (j - 1) 0):∀p q:Nat,p<q->q<=i->l.getD p 0<=l.getD q 0:=by
 intro p q hpq hqi
 by_cases hq:q=j
 ·subst hq
  rcases hs with h0|h0
  ·omega
  ·by_cases hp:p=q - 1
   ·subst hp;omega
   ·have:=h p (q - 1) (by omega) (by omega) (by omega)
    omega
 ·exact h p q hpq hqi hq
theorem srt_pairwise{l:List Int}(h:∀p q:Nat,p<q->q<l.length->l.getD p 0<=l.getD q 0):l.Pairwise (· <= ·):=by
 rw[List.pairwise_iff_getElem]
 intro p q hp hq hpq
 have:=h p q hpq hq
 rw[List.getD_eq_getElem?_getD,List.getD_eq_getElem?_getD,List.getElem?_eq_getElem hp,List.getElem?_eq_getElem hq]at this
 exact this
end Go.AM
namespace Go.AM
open Go Go.Proofs
def numF(s:Str):Int:=s.foldl (fun n b=>10*n+((b.toNat:Int) - 48)) 0
def numN(s:Str):Int:=if s.length<1∨3<s.length∨(1<s.length/\s.getD 0 0=48) then -1 else if s.all digc then numF s else -1
theorem numF_snoc(s:Str)(b:UInt8):numF (s++[b])=10*numF s+((b.toNat:Int) - 48):=by simp[numF,List.foldl_append]
theorem numF_bound:∀s:Str,s.length<=3->s.all digc=true->0<=numF s/\numF s<=999
 | [],_,_=>by simp[numF]
 | [a],_,h=>by
  simp only[List.all_cons,List.all_nil,Bool.and_true,digc_iff]at h
  simp only[numF,List.foldl_cons,List.foldl_nil];omega
 | [a,b],_,h=>by
  simp only[List.all_cons,List.all_nil,Bool.and_true,Bool.and_eq_true,digc_iff]at h
  simp only[numF,List.foldl_cons,List.foldl_nil];omega
 | [a,b,c],_,h=>by
  simp only[List.all_cons,List.all_nil,Bool.and_true,Bool.and_eq_true,digc_iff]at h
  simp only[numF,List.foldl_cons,List.foldl_nil];omega
 | a :: b :: c :: d :: r,h,_=>by simp at h
theorem bin_sub8{P:Program}{t:TypeId}{a b:Int}{K:AV->Prop}:binTop P .sub t (.dat (.int .u8 a)) (.dat (.int .u8 b)) K=K (.dat (.int .u8 (IntKind.u8.wrap (a - b)))):=by simp[binTop,eqOk,eqTy,binw,intw,fitw,isSigned]
theorem wrap_u8{n:Int}(h0:0<=n)(h1:n<256):IntKind.u8.wrap n=n:=by
 simp[IntKind.wrap,IntKind.signed,IntKind.bits]
 omega
def numR(ds:List D)(v:AV):Prop:=∃s:Str,ds=[.str s]/\s.length<=1000000/\v=.dat (.int .i64 (numN s))
end Go.AM
namespace Go.AM
open Go Go.Proofs
abbrev idxB(s:Str)(c:UInt8):Int:=Lib.indexByte s c
theorem idxB_lt(c:UInt8):∀s:Str,idxB s c<s.length∨(s=[]/\idxB s c=-1)
 | []=>.inr ⟨rfl,rfl⟩
 | b :: s=>by
  left
  unfold idxB Lib.indexByte
  have:=idxB_lt c s
  unfold idxB at this
  simp only[List.length_cons]
  split
  ·omega
  ·split
   ·omega
   ·rcases this with h|⟨rfl,h⟩
    ·omega
    ·rw[h];omega
theorem idxB_le(s:Str)(c:UInt8):-1<=idxB s c/\idxB s c<s.length+1:=by
 have h1:=Lib.indexByte_ge s c
 have h2:=idxB_lt c s
 unfold idxB at *
 omega
theorem ext_indexByte(s:Str)(c:UInt8):ExtOk Tryz.prog 133 [.dat (.str s),.dat (.int .u8 c.toNat)] (.dat (.int .i64 (idxB s c))):=by
 refine ext_of (e:=Extern.BytealgIndexByte.indexByte) Tryz.func133 (by decide) rfl (by kernel_rfl) (by kernel_rfl) ?_
 intro F φ w vs hs
 simp only[AV.Rs]at hs
 obtain⟨v1,r1,rfl,h1,v2,r2,rfl,h2,rfl⟩:=hs
 obtain⟨rfl,hl⟩:=R_str.1 h1
 obtain⟨rfl,_⟩:=R_int.1 h2
 refine⟨_,Lib.run_indexByteString _ _ _,?_⟩
 have e:((c.toNat:Nat):Int).toNat.toUInt8=c:=by simp
 rw[e]
 refine R_int.2 ⟨rfl,?_⟩
 have:=idxB_le s c
 simp only[maxLen]at hl
 exact inR_i64.2 (by unfold idxB at *;show -9223372036854775808<=_/\_;omega)
def idxYR(ds:List D)(v:AV):Prop:=∃(s:Str) (c:UInt8),ds=[.str s,.int .u8 c.toNat]/\v=.dat (.int .i64 (idxB s c))
theorem indexByte_ok:OkF Tryz.prog 122 (dataC idxYR):=by
 refine okF_data Tryz.func122 rfl (by decide) ?_
 rintro ds v ⟨s,c,rfl,rfl⟩
 refine sem_of_awpK [1] (Γ:=tbl []) okG_nil _ _ _ ?_
 simp only[go_sem,Tryz.ntmps122]
 refine sem_regionE (Γ:=tbl []) okG_nil ?_
 refine .inr ?_
 simp only[go_sem]
 refine .inr ?_
 simp only[go_sem]
 refine .inl ?_
 refine⟨_,ext_indexByte s c,?_⟩
 simp only[go_sem]
 refine .inr ?_
 simp only[go_sem]
 exact post_data (.inl rfl) [4] rfl trivial rfl
def idxTR(ds:List D)(v:AV):Prop:=∃(s:Str) (c:UInt8),ds=[.str s,.str [c]]/\v=.dat (.int .i64 (idxB s c))
abbrev tabIx:List (Nat×Contract):=[(122,dataC idxYR)]
theorem tabIx_ok:OkG Tryz.prog (tbl tabIx):=okG_cons indexByte_ok okG_nil
theorem sliteIndex_ok:OkF Tryz.prog 109 (dataC idxTR):=by
 refine okF_data Tryz.func109 rfl (by decide) ?_
 rintro ds v ⟨s,c,rfl,rfl⟩
 refine sem_of_awp (Γ:=tbl tabIx) tabIx_ok _ _ _ ?_
 by_cases h:[c]=s
 ·subst h
  have h0:idxB [c] c=0:=by simp[idxB,Lib.indexByte]
  simp only[go_sem,Tryz.ntmps109,List.length_cons,List.length_nil,eq_self,decide_true]
  rw[h0]
  exact post_data (.inl rfl) [4] rfl trivial rfl
 ·simp only[go_sem,Tryz.ntmps109,List.length_cons,List.length_nil,eq_self,decide_true,h]
  refine call_data idxYR (by simp) [.str s,.int .u8 c.toNat] _ rfl ⟨s,c,rfl,rfl⟩ (.inl rfl) ?_
  simp only[go_sem]
  exact post_data (.inl rfl) [4] rfl trivial rfl
abbrev tabIy:List (Nat×Contract):=[(109,dataC idxTR)]
theorem tabIy_ok:OkG Tryz.prog (tbl tabIy):=okG_cons sliteIndex_ok okG_nil
theorem strIndex_ok:OkF Tryz.prog 92 (dataC idxTR):=by
 refine okF_data Tryz.func92 rfl (by decide) ?_
 rintro ds v ⟨s,c,rfl,rfl⟩
 refine sem_of_awp (Γ:=tbl tabIy) tabIy_ok _ _ _ ?_
 simp only[go_sem,Tryz.ntmps92]
 refine call_data idxTR (by simp) [.str s,.str [c]] _ rfl ⟨s,c,rfl,rfl⟩ (.inl rfl) ?_
 simp only[go_sem]
 exact post_data (.inl rfl) [4] rfl trivial rfl
def sqsR(ds:List D)(v:AV)(ob:List Obj):Prop:=∃(s:Str) (c:UInt8),ds=[.str s,.str [c],.int .i64 0]/\v=.fn 90 [.ptr 1 0 0,.ptr 0 0 0,.ptr 2 0 0]/\ob=[.box [.dat (.str s)],.box [.dat (.str [c])],.box [.dat (.int .i64 0)]]
theorem splitSeqI_ok:OkF Tryz.prog 72 (madeC sqsR):=by
 refine okF_made Tryz.func72 rfl (by decide) ?_
 rintro ds v ob ⟨s,c,rfl,rfl,rfl⟩
 refine sem_of_awp (Γ:=tbl []) okG_nil _ _ _ ?_
 simp only[go_sem,Tryz.ntmps72]
 exact post_own (.inl rfl) [6] rfl rfl (fun _ h=>h)
def sqR(ds:List D)(v:AV)(ob:List Obj):Prop:=∃(s:Str) (c:UInt8),ds=[.str s,.str [c]]/\v=.fn 90 [.ptr 1 0 0,.ptr 0 0 0,.ptr 2 0 0]/\ob=[.box [.dat (.str s)],.box [.dat (.str [c])],.box [.dat (.int .i64 0)]]
abbrev tabSq:List (Nat×Contract):=[(72,madeC sqsR)]
theorem tabSq_ok:OkG Tryz.prog (tbl tabSq):=okG_cons splitSeqI_ok okG_nil
theorem splitSeq_ok:OkF Tryz.prog 38 (madeC sqR):=by
 refine okF_made Tryz.func38 rfl (by decide) ?_
 rintro ds v ob ⟨s,c,rfl,rfl,rfl⟩
 refine sem_of_awp (Γ:=tbl tabSq) tabSq_ok _ _ _ ?_
 simp only[go_sem,Tryz.ntmps38]
 refine call_made sqsR (by simp) [.str s,.str [c],.int .i64 0] _ _ rfl rfl ⟨s,c,rfl,rfl,rfl⟩ ?_
 simp only[go_sem,AV.shift,Obj.shift,AV.shifts]
 exact post_own (.inl rfl) [4] rfl rfl (fun _ h=>h)
end Go.AM
namespace Go.AM
open Go Go.Proofs
def splitC(c:UInt8):Str->List Str
 | []=>[[]]
 | b :: t=>if b=c then [] :: splitC c t else match splitC c t with
  | []=>[[b]]
  | x :: r=>(b :: x) :: r
theorem splitC_cons(c b:UInt8)(t:Str):splitC c (b :: t)=if b=c then [] :: splitC c t else match splitC c t with
  | []=>[[b]]
  | x :: r=>(b :: x) :: r:=rfl
theorem splitC_ne(c:UInt8):∀s:Str,splitC c s≠[]
 | []=>by simp[splitC]
 | b :: t=>by
  unfold splitC
  split
  ·simp
  ·split <;> simp
theorem splitC_none{c:UInt8}:∀{s:Str},idxB s c<0->splitC c s=[s]
 | [],_=>rfl
 | b :: t,h=>by
  unfold idxB Lib.indexByte at h
  have hge:=Lib.indexByte_ge t c
  split at h
  ·omega
  ·rename_i hb
   split at h
   ·rename_i h1
    have h1':Lib.indexByte t c=-1:=by simpa using h1
    have ih:=splitC_none (c:=c) (s:=t) (by unfold idxB;omega)
    have hb':b≠c:=by simpa using hb
    unfold splitC
    rw[if_neg hb',ih]
   ·rename_i h1
    have:Lib.indexByte t c≠-1:=by simpa using h1
    omega
theorem splitC_some{c:UInt8}:∀{s:Str} {i:Nat},idxB s c=i->splitC c s=s.take i :: splitC c (s.drop (i+1))
 | [],i,h=>by unfold idxB Lib.indexByte at h;omega
 | b :: t,i,h=>by
  unfold idxB Lib.indexByte at h
  have hge:=Lib.indexByte_ge t c
  split at h
  ·rename_i hb
   have hb':b=c:=by simpa using hb
   have:i=0:=by omega
   subst this
   rw[splitC_cons,if_pos hb']
   rfl
  ·rename_i hb
   have hb':b≠c:=by simpa using hb
   split at h
   ·omega
   ·rename_i h1
    have h2:Lib.indexByte t c≠-1:=by simpa using h1
    obtain⟨j,rfl⟩:∃j,i=j+1:=⟨i - 1,by omega⟩
    have ih:=splitC_some (c:=c) (s:=t) (i:=j) (show Lib.indexByte t c=j by omega)
    rw[splitC_cons,if_neg hb',ih]
    rfl
def iterRun{ε:Type}(f:Str->ε->ε ⊕ List Obj):List Str->ε->ε ⊕ List Obj
 | [],E=>.inl E
 | p :: ps,E=>match f p E with
  | .inl E'=>iterRun f ps E'
  | .inr o=>.inr o
structure IterW (P:Program) (n:Nat) (c:UInt8) {ε:Type} (W:ε->Str->List Obj) (M:List Nat) (f:Str->ε->ε ⊕ List Obj) (J:List Str->ε->Prop):Prop where
 g0:∀E s,(W E s).getD n .dead=.box [.dat (.str s)]
 g1:∀E s,(W E s).getD (n+1) .dead=.box [.dat (.str [c])]
 g2:∀E s,(W E s).getD (n+2) .dead=.box [.dat (.int .i64 0)]
 s0:∀E s s',(W E s).set n (.box [.dat (.str s')])=W E s'
 nM:∀o∈M,o<n∨n+3<o
 step:∀E s p ps,J (p :: ps) E->∃r cs b own' mv,(W E s).getD (n+3) .dead=.lp r cs/\r.params.size=1/\RoundW P (n+3) r [.dat (.str p)] (W E s) b own' mv/\(∀o∈mv,o∈M) /\
  (match f p E with
   | .inl E'=>b=true/\own'=W E' s/\J ps E'
   | .inr O=>b=false/\own'.set n .dead=O)
def iterOut{ε:Type}(W:ε->Str->List Obj)(n:Nat):ε ⊕ List Obj->List Obj
 | .inl E=>(W E []).set n .dead
 | .inr O=>O
def iterC:Contract:=fun args own v own' mv=>∃(n:Nat) (c:UInt8) (ε:Type) (W:ε->Str->List Obj) (M:List Nat) (f:Str->ε->ε ⊕ List Obj) (J:List Str->ε->Prop) (E:ε) (s:Str),IterW Tryz.prog n c W M f J /\
 args=[.yld (n+3),.ptr (n+1) 0 0,.ptr n 0 0,.ptr (n+2) 0 0]/\s.length<=9000000000000000000/\own=W E s/\J (splitC c s) E/\v=.tup []/\mv=M /\
 own'=iterOut W n (iterRun f (splitC c s) E)
theorem PutE_eff{d:Tmp}{K:S->Prop}{sl:List AV}{own own':List Obj}{n:Nat}{m kl:List Nat}{v:AV}:PutE (some d) K ⟨sl,own,n,m⟩ v own' kl=K ⟨(killAll kl sl).set d v,own',n,addMv n m kl⟩:=rfl
theorem mem_addMv2:∀(kl mv:List Nat) (n0 o:Nat),o∈addMv n0 mv kl->o∈mv∨o∈kl
 | [],mv,n0,o,h=>.inl (by simpa [addMv] using h)
 | k :: kl,mv,n0,o,h=>by
  simp only[addMv]at h
  rcases mem_addMv2 kl _ n0 o h with h1|h1
  ·split at h1
   ·split at h1
    ·exact .inl h1
    ·rcases List.mem_append.1 h1 with h2|h2
     ·exact .inl h2
     ·exact .inr (by simp at h2;simp[h2])
   ·exact .inl h1
  ·exact .inr (List.mem_cons_of_mem _ h1)
theorem killAll_same:∀(kl:List Nat) (s:List AV),(∀a∈s,∀o∈kl,a.kill o=a)->killAll kl s=s
 | [],_,_=>rfl
 | o :: kl,s,h=>by
  simp only[killAll]
  have e:AV.kills o s=s:=by
   have:∀l:List AV,(∀a∈l,a.kill o=a)->AV.kills o l=l:=by
    intro l
    induction l with
    | nil=>intro _;rfl
    | cons a l ih=>intro hl;simp only[AV.kills];rw[hl a (by simp),ih (fun b hb=>hl b (by simp[hb]))]
   exact this s fun a ha=>h a ha o (by simp)
  rw[e]
  exact killAll_same kl s fun a ha k hk=>h a ha k (by simp[hk])
theorem iter_len{ε:Type}{W:ε->Str->List Obj}{n:Nat}(s0:∀E s s',(W E s).set n (.box [.dat (.str s')])=W E s')(E:ε)(s s':Str):(W E s).set n .dead=(W E s').set n .dead:=by
 rw[← s0 E s' s,List.set_set]
def okA(n:Nat):AV->Bool
 | .top=>true
 | .dat _=>true
 | .yld m=>m == n+3
 | .ptr m _ _=>m == n || m == n+1 || m == n+2
 | _=>false
theorem okA_kill{n:Nat}{kl:List Nat}(h:∀o∈kl,o<n∨n+3<o){sl:List AV}(hs:sl.all (okA n)=true):killAll kl sl=sl:=by
 refine killAll_same kl sl fun a ha o ho=>?_
 have h1:=List.all_eq_true.1 hs a ha
 have h2:=h o ho
 cases a <;> simp only[okA,Bool.or_eq_true,beq_iff_eq,Bool.false_eq_true]at h1 <;> simp only[AV.kill]
 ·rw[if_neg];omega
 ·rw[if_neg];omega
abbrev tabIt:List (Nat×Contract):=[(92,dataC idxTR)]
theorem tabIt_ok:OkG Tryz.prog (tbl tabIt):=okG_cons strIndex_ok okG_nil
theorem iter_ok:OkF Tryz.prog 90 iterC:=by
 refine okF_of_sem Tryz.func90 rfl (by decide) ?_
 rintro args own v own' mv ⟨n,c,ε,W,M,f,J,E,s,hW,rfl,hsl,rfl,hJ,rfl,rfl,rfl⟩
 obtain⟨g0,g1,g2,s0,nM,step⟩:=hW
 generalize hR:iterRun f (splitC c s) E=R
 generalize hN:(W E s).length=N
 refine sem_of_awpK [8,10] (Γ:=tbl tabIt) tabIt_ok _ _ _ ?_
 simp only[go_sem,Tryz.ntmps90,g1,List.length_cons,List.length_nil]
 have M1:∀kl:List Nat,(∀o∈kl,o∈mv)->∀o∈kl,o<n∨n+3<o:=fun kl h o ho=>nM o (h o ho)
 refine sem_loop (fun p:ε×Str=>⟨slotsOf 52 [(0,.yld (n+3)),(1,.ptr (n+1) 0 0),(2,.ptr n 0 0),(3,.ptr (n+2) 0 0)],W p.1 p.2,N,mv⟩)
  (fun p=>p.2.length<=9000000000000000000/\J (splitC c p.2) p.1/\iterRun f (splitC c p.2) p.1=R) (fun p=>p.2.length) (E,s) ⟨hsl,hJ,hR⟩ ?_ ?_
 ·exact Le.trans (le_mvs (by simp)) (le_slots' (by simp only[go_sem]))
 rintro ⟨E,s⟩ ⟨hsl,hJ,hR⟩
 simp only at hsl hJ hR ⊢
 refine sem_of_awpK [8,10] (Γ:=tbl tabIt) tabIt_ok _ _ _ ?_
 simp only[go_sem,g0,g1,g2]
 refine call_data idxTR (by simp) [.str s,.str [c]] _ rfl ⟨s,c,rfl,rfl⟩ (.inl rfl) ?_
 have hi:=idxB_le s c
 generalize hidx:idxB s c=i at hi
 by_cases hneg:i<0
 ·have hsp:=splitC_none (c:=c) (s:=s) (by rw[hidx];exact hneg)
  rw[hsp]at hJ hR
  obtain⟨r,cs,b,ow,kl,y1,y2,y3,y4,y5⟩:=step E s s [] hJ
  have hk1:=M1 kl y4
  simp only[go_sem,hneg]
  refine sem_regionY tabIt_ok ?_
  refine .inr ?_
  simp only[go_sem]
  refine .inr ?_
  simp only[go_sem,g0]
  refine .inl ?_
  simp only[go_sem]
  refine⟨r,cs,b,ow,kl,y1,y2,y3,?_⟩
  rw[PutE_eff,okA_kill hk1 (by simp[okA])]
  have hmv2:∀o∈addMv N mv kl,o∈mv:=fun o ho=>(mem_addMv2 _ _ _ _ ho).elim id (y4 o)
  generalize addMv N mv kl=mv2 at hmv2
  simp only[go_sem]
  refine post_resO (mv':=mv) (.inr rfl) [] rfl (fun _ h=>h) ?_
  simp only[go_sem]
  have hfin:ow.set n .dead=iterOut W n R:=by
   rw[← hR]
   simp only[iterRun]
   cases hf:f s E with
   | inl E' =>
    rw[hf]at y5
    obtain⟨_,rfl,_⟩:=y5
    exact iter_len s0 _ _ _
   | inr O =>
    rw[hf]at y5
    exact y5.2
  rw[← hfin]
  exact Le.trans (le_dead n) (le_mvs hmv2)
 ·obtain⟨j,rfl⟩:∃j:Nat,i=j:=⟨i.toNat,by omega⟩
  have hsp:=splitC_some (c:=c) (s:=s) hidx
  rw[hsp]at hJ hR
  obtain⟨r,cs,b,ow,kl,y1,y2,y3,y4,y5⟩:=step E s _ _ hJ
  have hk1:=M1 kl y4
  have hj0:(0:Int)<=(j:Int):=by omega
  have hj1:(j:Int)<=s.length:=by omega
  simp only[go_sem,hneg,g0,g1,g2,Int.add_zero,Int.sub_zero,List.drop_zero,hj0,hj1]
  refine⟨inR_i64.2 (by omega),?_⟩
  refine sem_regionY tabIt_ok ?_
  refine .inr ?_
  simp only[go_sem]
  refine .inr ?_
  simp only[go_sem,g0]
  refine .inl ?_
  simp only[go_sem]
  refine⟨r,cs,b,ow,kl,y1,y2,y3,?_⟩
  rw[PutE_eff,okA_kill hk1 (by simp[okA])]
  have hmv2:∀o∈addMv N mv kl,o∈mv:=fun o ho=>(mem_addMv2 _ _ _ _ ho).elim id (y4 o)
  generalize addMv N mv kl=mv2 at hmv2
  refine .inr ?_
  cases hf:f (s.take j) E with
  | inr O =>
   rw[hf]at y5
   obtain⟨rfl,y6⟩:=y5
   simp only[go_sem]
   refine post_resO (mv':=mv) (.inl rfl) [] rfl (fun _ h=>h) ?_
   simp only[go_sem]
   have hfin:ow.set n .dead=iterOut W n R:=by
    rw[← hR]
    simp only[iterRun,hf]
    exact y6
   rw[← hfin]
   exact Le.trans (le_dead n) (le_mvs hmv2)
  | inl E' =>
   rw[hf]at y5
   obtain⟨rfl,rfl,y6⟩:=y5
   have e1:((j:Int)+1).toNat=j+1:=by omega
   have e2:((s.length:Int) - ((j:Int)+1)).toNat=s.length - (j+1):=by omega
   have e3:(s.drop (j+1)).take (s.length - (j+1))=s.drop (j+1):=List.take_of_length_le (by rw[List.length_drop];exact Nat.le_refl _)
   have hjlt:j<s.length:=by
    rcases idxB_lt c s with h|⟨_,h⟩
    ·rw[hidx]at h;omega
    ·rw[hidx]at h;omega
   simp only[go_sem,g0,g1,List.length_cons,List.length_nil,e1,e2,e3,s0]
   refine⟨inR_i64.2 (by omega),by omega,by omega,Int.le_refl _,(E',s.drop (j+1)),⟨by simp only[List.length_drop];omega,y6,?_⟩,by simp only[List.length_drop];omega,?_⟩
   ·rw[← hR];simp only[iterRun,hf]
   ·exact Le.trans (le_mvs hmv2) (le_slots' (by simp only[go_sem]))
end Go.AM
namespace Go.AM
open Go Go.Proofs
def wRun:Str->Str->List Str
 | w,[]=>if w=[] then [] else [w]
 | w,b :: t=>if b=32 then (if w=[] then wRun [] t else w :: wRun [] t) else wRun (w++[b]) t
def wordsW(s:Str):List Str:=(splitC 32 s).filter fun w=>!decide (w=[])
def lRun:Str->Str->List Str
 | c,[]=>if c=[] then [] else [c]
 | c,b :: t=>if b=10 then c :: lRun [] t else lRun (c++[b]) t
def linesW(s:Str):List Str:=lRun [] s
theorem lRun_cons(w:Str)(b:UInt8)(t:Str):lRun w (b :: t)=if b=10 then w :: lRun [] t else lRun (w++[b]) t:=rfl
theorem byte_eq(b c:UInt8)(k:Int)(hc:(c.toNat:Int)=k):((b.toNat:Int)=k)=(b=c):=by
 apply propext
 constructor
 ·intro h
  exact UInt8.toNat_inj.1 (by omega)
 ·rintro rfl;exact hc
def strsR(f:Str->List Str)(ds:List D)(v:AV):Prop:=∃s:Str,ds=[.str s]/\s.length<=1000000/\v=.dat (.sl none ((f s).map .str))
theorem lines41_ok:OkF Tryz.prog 43 (dataC (strsR linesW)):=by
 refine okF_data Tryz.func43 rfl (by decide) ?_
 rintro ds v ⟨s,rfl,hmx,rfl⟩
 unfold linesW
 generalize hV:lRun [] s=V
 refine sem_of_awp (Γ:=tbl []) okG_nil _ _ _ ?_
 simp only[go_sem,Tryz.ntmps43]
 refine sem_le (le_addnil 3 none rfl (Nat.zero_le _)) ?_
 simp only[go_sem]
 refine sem_loop (fun p:Nat×Nat×List Str=>⟨slotsOf 36 [(0,.dat (.str s)),(3,.sl 0 0 p.2.2.length),(4,.dat (.int .i64 p.2.1)),(5,.dat (.int .i64 p.1))],[.row none (p.2.2.map D.str)],0,[]⟩)
  (fun p=>p.1<=s.length/\p.2.1<=p.1/\p.2.2.length<=p.1/\p.2.2++lRun ((s.take p.1).drop p.2.1) (s.drop p.1)=V) (fun p=>s.length - p.1) (0,0,[]) ⟨Nat.zero_le _,Nat.le_refl _,Nat.le_refl _,by simpa using hV⟩ ?_ ?_
 ·exact le_slots' (by simp only[go_sem,List.length_nil,Int.natCast_zero])
 rintro ⟨i,f,O⟩ ⟨hi,hf,hO,hI⟩
 simp only at hi hf hO hI ⊢
 refine sem_of_awp (Γ:=tbl []) okG_nil _ _ _ ?_
 have tkO:(O.map D.str).take O.length=O.map D.str:=List.take_of_length_le (by simp)
 have k0:(0:Int)<=(i:Int):=by omega
 have kf:(0:Int)<=(f:Int):=by omega
 have kfi:(f:Int)<=(i:Int):=by omega
 have kis:(i:Int)<=(s.length:Int):=by omega
 cases hd:s.drop i with
 | nil =>
  have hie:i=s.length:=by have:=nil_of_drop hd;omega
  have k2:¬(i:Int)<(s.length:Int):=by omega
  rw[hd,List.take_of_length_le (by omega)]at hI
  unfold lRun at hI
  by_cases hfl:f<s.length
  ·have k3:(f:Int)<(s.length:Int):=by omega
   have kfs:(f:Int)<=(s.length:Int):=by omega
   have hne:¬s.drop f=[]:=fun h=>by have:=nil_of_drop h;omega
   have hsl:(s.drop f).take ((s.length:Int) - (f:Int)).toNat=s.drop f:=List.take_of_length_le (by rw[List.length_drop];omega)
   rw[if_neg hne]at hI
   subst hI
   simp only[go_sem,k0,kf,k2,k3,kfs,hsl,Int.toNat_natCast,decide_true,decide_false,List.length_map,tkO]
   refine⟨Int.le_refl _,by omega,by omega,?_⟩
   refine post_res (.inl rfl) [.tmp 2] rfl ?_
   simp only[go_sem]
   refine Le.trans (le_freeze 0 (ag:=none) rfl (Nat.zero_le _)) ?_
   have e3:(O.map D.str++[D.str (s.drop f)]).take (O.length+1)=O.map D.str++[D.str (s.drop f)]:=List.take_of_length_le (by simp)
   simp only[go_sem,e3,List.map_append,List.map_cons,List.map_nil]
   exact le_fin (by simp only[go_sem]) (by simp only[go_sem])
  ·have k3:¬(f:Int)<(s.length:Int):=by omega
   have hne:s.drop f=[]:=List.drop_eq_nil_of_le (by omega)
   rw[if_pos hne,List.append_nil]at hI
   subst hI
   simp only[go_sem,k0,k2,k3,Int.toNat_natCast,decide_true,decide_false]
   refine post_res (.inl rfl) [.tmp 2] rfl ?_
   simp only[go_sem]
   refine Le.trans (le_freeze 0 (ag:=none) rfl (Nat.zero_le _)) ?_
   simp only[go_sem,tkO]
   exact le_fin (by simp only[go_sem]) (by simp only[go_sem])
 | cons b t =>
  have hlt:=lt_of_drop hd
  have k2:(i:Int)<(s.length:Int):=by omega
  have hb:s.getD i 0=b:=getD_of_drop hd
  rw[hd,lRun_cons]at hI
  by_cases h10:b=10
  ·have hb10:((b.toNat:Int)=10)=True:=by subst h10;simp
   have hsl:(s.drop f).take ((i:Int) - (f:Int)).toNat=(s.take i).drop f:=by
    rw[List.drop_take,show ((i:Int) - (f:Int)).toNat=i - f by omega]
   rw[if_pos h10,← drop_cons hd]at hI
   simp only[go_sem,k0,kf,kfi,kis,k2,hb,hb10,hsl,Int.toNat_natCast,decide_true,List.length_map,tkO]
   refine⟨by omega,by omega,inR_i64.2 (by omega),inR_i64.2 (by omega),(i+1,i+1,O++[(s.take i).drop f]),⟨by show i+1<=_;omega,Nat.le_refl _,by simp;omega,?_⟩,by show _ - (i+1)<_;omega,?_⟩
   ·have e:((s.take (i+1)).drop (i+1))=[]:=List.drop_eq_nil_of_le (by rw[List.length_take];omega)
    simp only[e]
    rw[← hI];simp
   ·simp only[List.map_append,List.map_cons,List.map_nil]
    refine le_end (own:=[_]) (ex:=[_]) (Nat.zero_le _) ?_ ?_ ?_
    ·simp only[go_sem,List.length_append,List.length_cons,List.length_nil,Int.natCast_add,Int.cast_ofNat_Int]
    ·simp only[go_sem]
    ·simp only[go_sem,Obj.under,AV.unders,AV.under]
  ·have hb10:((b.toNat:Int)=10)=False:=by
    rw[byte_eq b 10 10 rfl];exact eq_false h10
   rw[if_neg h10,← drop_cons hd]at hI
   simp only[go_sem,k0,k2,hb,hb10,Int.toNat_natCast,decide_true,decide_false]
   refine⟨inR_i64.2 (by omega),(i+1,f,O),⟨by show i+1<=_;omega,by show f<=i+1;omega,by show O.length<=i+1;omega,?_⟩,by show _ - (i+1)<_;omega,le_slots' (by simp only[go_sem,Int.natCast_add,Int.cast_ofNat_Int])⟩
   have e:(s.take (i+1)).drop f=(s.take i).drop f++[b]:=by
    rw[take_of_drop hd,List.drop_append_of_le_length (by rw[List.length_take];omega)]
   simp only[e]
   exact hI
end Go.AM
namespace Go.AM
open Go Go.Proofs
def dig3(u:Nat):Str:=if u<10 then [UInt8.ofNat (48+u)] else if u<100 then [UInt8.ofNat (48+u / 10),UInt8.ofNat (48+u % 10)] else [UInt8.ofNat (48+u / 100),UInt8.ofNat (48+u / 10 % 10),UInt8.ofNat (48+u % 10)]
theorem dec3{u:Nat}(h:u<1000):Lib.decDigits u=dig3 u:=by
 unfold dig3
 by_cases h1:u<10
 ·rw[if_pos h1,Lib.decDigits_one h1]
 ·rw[if_neg h1]
  by_cases h2:u<100
  ·rw[if_pos h2,Lib.decDigits_two h1 h2]
  ·rw[if_neg h2,Lib.decDigits,dif_neg h1,Lib.decDigits_two (by omega) (by omega),Nat.div_div_eq_div_mul]
   rfl
def digOk(u:Nat):Bool:=decide (numN (dig3 u)=(u:Int)) && decide (1<=(dig3 u).length) && decide ((dig3 u).length<=3) && (dig3 u).all fun b=>decide (48<=b.toNat) && decide (b.toNat<=57)
theorem dig_all:∀u:Fin 1000,digOk u.val=true:=by decide +kernel
structure NumOk (n:Int) (s:Str):Prop where
 val:numN s=n
 l1:1<=s.length
 l3:s.length<=3
 dig:∀b∈s,48<=b.toNat/\b.toNat<=57
theorem numOk{n:Int}(h0:0<=n)(h1:n<=999):NumOk n (Lib.itoa n):=by
 obtain⟨u,rfl⟩:∃u:Nat,n=u:=⟨n.toNat,by omega⟩
 rw[Lib.itoa_nonneg,dec3 (by omega)]
 have h:=dig_all ⟨u,by omega⟩
 simp only[digOk,Bool.and_eq_true,decide_eq_true_eq,List.all_eq_true]at h
 exact⟨h.1.1.1,h.1.1.2,h.1.2,h.2⟩
def Word(s:Str):Prop:=s≠[]/\∀b∈s,b≠32/\b≠10
theorem NumOk.word{n:Int}{s:Str}(h:NumOk n s):Word s:=by
 refine⟨fun e=>by have:=h.l1;rw[e]at this;simp at this,fun b hb=>?_⟩
 have:=h.dig b hb
 constructor
 ·rintro rfl;simp at this
 ·rintro rfl;simp at this
instance (s:Str):Decidable (Word s):=inferInstanceAs (Decidable (_/\_))
theorem splitC_app(c:UInt8):∀(s t:Str),splitC c (s++c :: t)=splitC c s++splitC c t
 | [],t=>by rw[List.nil_append,splitC_cons,if_pos rfl];rfl
 | b :: s,t=>by
  have ih:=splitC_app c s t
  rw[List.cons_append,splitC_cons,splitC_cons]
  by_cases h:b=c
  ·rw[if_pos h,if_pos h,ih];rfl
  ·rw[if_neg h,if_neg h,ih]
   cases hs:splitC c s with
   | nil=>exact absurd hs (splitC_ne c s)
   | cons x r=>rfl
theorem splitC_none'{c:UInt8}:∀s:Str,(∀b∈s,b≠c)->splitC c s=[s]
 | [],_=>rfl
 | b :: s,h=>by
  rw[splitC_cons,if_neg (h b (by simp)),splitC_none' s fun b hb=>h b (by simp[hb])]
theorem wordsW_nil:wordsW []=[]:=rfl
theorem wordsW_app(s t:Str):wordsW (s++32 :: t)=wordsW s++wordsW t:=by
 unfold wordsW
 rw[splitC_app,List.filter_append]
theorem wordsW_word{s:Str}(h:Word s):wordsW s=[s]:=by
 unfold wordsW
 rw[splitC_none' s fun b hb=>(h.2 b hb).1]
 simp[h.1]
theorem lRun_split:∀(s c:Str),lRun c s=(match splitC 10 s with
  | []=>[]
  | x :: r=>if r=[] then (if c++x=[] then [] else [c++x]) else (c++x) :: (if r.getLast?=some [] then r.dropLast else r))
 | [],c=>by
  unfold lRun
  simp[splitC]
 | b :: t,c=>by
  rw[lRun_cons,splitC_cons]
  by_cases h:b=10
  ·rw[if_pos h,if_pos h,lRun_split t []]
   cases hs:splitC 10 t with
   | nil=>exact absurd hs (splitC_ne 10 t)
   | cons x r =>
    simp only[List.nil_append,List.append_nil,reduceCtorEq,if_false]
    by_cases hr:r=[]
    ·subst hr
     by_cases hx:x=[]
     ·subst hx;simp
     ·simp[hx]
    ·rw[if_neg hr,List.getLast?_cons_of_ne_nil hr,List.dropLast_cons_of_ne_nil hr]
     split <;> rfl
  ·rw[if_neg h,if_neg h,lRun_split t (c++[b])]
   cases hs:splitC 10 t with
   | nil=>exact absurd hs (splitC_ne 10 t)
   | cons x r=>simp
theorem linesW_split(s:Str):linesW s=if (splitC 10 s).getLast?=some [] then (splitC 10 s).dropLast else splitC 10 s:=by
 unfold linesW
 rw[lRun_split]
 cases hs:splitC 10 s with
 | nil=>exact absurd hs (splitC_ne 10 s)
 | cons x r =>
  simp only[List.nil_append]
  by_cases hr:r=[]
  ·subst hr
   by_cases hx:x=[]
   ·subst hx;simp
   ·simp[hx]
  ·rw[if_neg hr,List.getLast?_cons_of_ne_nil hr,List.dropLast_cons_of_ne_nil hr]
   split <;> rfl
end Go.AM
namespace Go.AM
open Go Go.Proofs
def kindS(w:Str):Nat :=
 if w=[112,111,111,108] then 1 else if w=[109,117,116,101,120] then 2 else if w=[99,108,97,115,115] then 3 else if w=[115,101,114,118,101,114] then 4
 else if w=[116,97,107,101] then 11 else if w=[103,105,118,101] then 12 else if w=[108,111,99,107] then 13 else if w=[117,110,108,111,99,107] then 14 else if w=[99,97,108,108] then 15 else 0
inductive PL where
 | skip
 | bad
 | decl (k:Nat) (name:Str) (a b:Int)
 | use (k:Nat) (cnt:Int) (deep:Bool) (name:Str)
deriving DecidableEq
def skip41(w:List Str):Bool:=decide (w=[]) || decide ((w.getD 0 []).getD 0 0=35)
def deepW(w:List Str):Bool:=decide (w.length=4) && decide (w.getD 3 []=[100,101,101,112])
def wantK(k:Nat)(w:List Str):Nat:=if k=1 then 4 else if k=3∨k=4∨k=12 then 3 else if k=11 then (if deepW w then 4 else 3) else 2
def formW(w:List Str)(k:Nat):Bool :=
 !decide (k=0) && decide (w.length=wantK k w) && isNm (w.getD 1 []) && (decide (wantK k w=2) || decide (0<=numN (w.getD 2 []))) && (!decide (k=1) || decide (0<=numN (w.getD 3 [])))
def lineK(w:List Str)(k:Nat):PL :=
 if formW w k then
  (if k<10 then .decl k (w.getD 1 []) (if k=2 then 0 else numN (w.getD 2 [])) (if k=1 then numN (w.getD 3 []) else 0)
  else .use (k - 10) (if k=11∨k=12 then numN (w.getD 2 []) else 0) (decide (3<w.length)) (w.getD 1 []))
 else .bad
def lineW(w:List Str):PL:=if skip41 w then .skip else lineK w (kindS (w.getD 0 []))
def addD(s:PSys)(k:Nat)(x:Str)(a b:Int):PSys :=
 if k=1 then ⟨s.pools++[⟨x,a,b⟩],s.locks,s.classes⟩ else if k=2 then ⟨s.pools,s.locks++[x],s.classes⟩ else ⟨s.pools,s.locks,s.classes++[⟨x,a,decide (k=4),[]⟩]⟩
structure US where
 cls:Nat
 line:Nat
 name:Str
 kind:Nat
 cnt:Int
 deep:Bool
deriving DecidableEq,Inhabited
def pass1:List PL->Nat->PSys->List US->(Int×Int) ⊕ (PSys×List US)
 | [],_,s,us=>.inr (s,us)
 | .skip :: r,i,s,us=>pass1 r (i+1) s us
 | .bad :: _,i,_,_=>.inl ((i+1:Nat),4)
 | .decl k x a b :: r,i,s,us=>if x∈namesL s then .inl ((i+1:Nat),5) else pass1 r (i+1) (addD s k x a b) us
 | .use k c d x :: r,i,s,us=>if s.classes.length=0 then .inl ((i+1:Nat),4) else pass1 r (i+1) s (us++[⟨s.classes.length - 1,i+1,x,k,c,d⟩])
def findE(s:PSys)(k:Nat)(x:Str):Int:=if k=1∨k=2 then idxG x 0 (s.pools.map (·.name)) else if k=5 then idxG x 0 (s.classes.map (·.name)) else idxG x 0 s.locks
def addT(c:PCls)(x:PStep):PCls:=⟨c.name,c.workers,c.server,c.steps++[x]⟩
def addS(s:PSys)(c:Nat)(x:PStep):PSys:=⟨s.pools,s.locks,s.classes.set c (addT (s.classes.getD c default) x)⟩
def US.step(u:US)(n:Int):PStep:=⟨u.kind,n,u.cnt,u.deep⟩
def pass2:List US->PSys->(Int×Int) ⊕ PSys
 | [],s=>.inr s
 | u :: r,s=>if findE s u.kind u.name<0 then .inl (u.line,5) else pass2 r (addS s u.cls (u.step (findE s u.kind u.name)))
def sys0:PSys:=⟨[],[],[]⟩
def end41(q:(Int×Int) ⊕ PSys):PSys×Int×Int:=match q with
 | .inl ne=>(sys0,ne.1,ne.2)
 | .inr s=>if checkE s≠0 then (sys0,0,checkE s) else (s,0,0)
def mid41(q:(Int×Int) ⊕ (PSys×List US)):(Int×Int) ⊕ PSys:=match q with
 | .inl ne=>.inl ne
 | .inr su=>pass2 su.2 su.1
def parseM(ls:List PL):PSys×Int×Int:=end41 (mid41 (pass1 ls 0 sys0 []))
def lines41(lines:Str->List Str)(t:Str):List PL:=(lines t).map fun l=>lineW (wordsW l)
def parse41(lines:Str->List Str)(t:Str):PSys×Int×Int:=if 4000<t.length then (sys0,0,9) else parseM (lines41 lines t)
def scanL:List PL->Nat->List Str->Nat->Int×Int
 | [],_,_,_=>(0,0)
 | .skip :: r,i,dn,c=>scanL r (i+1) dn c
 | .bad :: _,i,_,_=>((i+1:Nat),4)
 | .decl k x _ _ :: r,i,dn,c=>if x∈dn then ((i+1:Nat),5) else scanL r (i+1) (dn++[x]) (if 3<=k then c+1 else c)
 | .use _ _ _ _ :: r,i,dn,c=>if c=0 then ((i+1:Nat),4) else scanL r (i+1) dn c
def declL:List PL->PSys->PSys
 | [],s=>s
 | .decl k x a b :: r,s=>declL r (addD s k x a b)
 | .skip :: r,s=>declL r s
 | .bad :: r,s=>declL r s
 | .use _ _ _ _ :: r,s=>declL r s
def stepsL:List PL->Nat->Nat->PSys->(Int×Int) ⊕ PSys
 | [],_,_,s=>.inr s
 | .skip :: r,i,c,s=>stepsL r (i+1) c s
 | .bad :: r,i,c,s=>stepsL r (i+1) c s
 | .decl k _ _ _ :: r,i,c,s=>stepsL r (i+1) (if 3<=k then c+1 else c) s
 | .use k n d x :: r,i,c,s=>if findE s k x<0 then .inl ((i+1:Nat),5) else stepsL r (i+1) c (addS s (c - 1) ⟨k,findE s k x,n,d⟩)
def parseMR(ls:List PL):PSys×Int×Int:=if (scanL ls 0 [] 0).2≠0 then (sys0,(scanL ls 0 [] 0).1,(scanL ls 0 [] 0).2) else end41 (stepsL ls 0 0 (declL ls sys0))
def usesL:List PL->Nat->Nat->List US
 | [],_,_=>[]
 | .skip :: r,i,c=>usesL r (i+1) c
 | .bad :: r,i,c=>usesL r (i+1) c
 | .decl k _ _ _ :: r,i,c=>usesL r (i+1) (if 3<=k then c+1 else c)
 | .use k n d x :: r,i,c=>⟨c - 1,i+1,x,k,n,d⟩ :: usesL r (i+1) c
theorem pass2_uses:∀(ls:List PL) (i c:Nat) (s:PSys),pass2 (usesL ls i c) s=stepsL ls i c s
 | [],_,_,_=>rfl
 | .skip :: r,i,c,s=>pass2_uses r (i+1) c s
 | .bad :: r,i,c,s=>pass2_uses r (i+1) c s
 | .decl k _ _ _ :: r,i,c,s=>pass2_uses r (i+1) _ s
 | .use k n d x :: r,i,c,s=>by
  simp only[usesL,pass2,stepsL,US.step]
  split
  ·rfl
  ·exact pass2_uses r (i+1) c _
def kindOk:PL->Prop
 | .decl k _ _ _=>1<=k/\k<=4
 | _=>True
theorem addD_len{s:PSys}{k:Nat}{x:Str}{a b:Int}(h:1<=k/\k<=4):(addD s k x a b).classes.length=if 3<=k then s.classes.length+1 else s.classes.length:=by
 unfold addD
 by_cases h1:k=1
 ·subst h1;simp
 by_cases h2:k=2
 ·subst h2;simp
 ·rw[if_neg h1,if_neg h2,if_pos (by omega)];simp
theorem addD_names{s:PSys}{k:Nat}{x y:Str}{a b:Int}:y∈namesL (addD s k x a b)↔y∈namesL s∨y=x:=by
 unfold addD namesL
 by_cases h1:k=1
 ·subst h1;simp;exact⟨fun h=>by rcases h with h|h|h|h <;> simp[h],fun h=>by rcases h with(h|h|h)|h <;> simp[h]⟩
 by_cases h2:k=2
 ·subst h2;simp;exact⟨fun h=>by rcases h with h|h|h|h <;> simp[h],fun h=>by rcases h with(h|h|h)|h <;> simp[h]⟩
 ·rw[if_neg h1,if_neg h2];simp;exact⟨fun h=>by rcases h with h|h|h|h <;> simp[h],fun h=>by rcases h with(h|h|h)|h <;> simp[h]⟩
def orE{β:Type}(q:Int×Int)(z:β):(Int×Int) ⊕ β:=if q.2=0 then .inr z else .inl q
theorem pass1_scan:∀(ls:List PL) (i:Nat) (s:PSys) (us:List US) (dn:List Str),(∀l∈ls,kindOk l)->(∀y,y∈namesL s↔y∈dn) ->
  pass1 ls i s us=orE (scanL ls i dn s.classes.length) (declL ls s,us++usesL ls i s.classes.length)
 | [],i,s,us,dn,_,_=>by simp[pass1,scanL,declL,usesL,orE]
 | .skip :: r,i,s,us,dn,hk,hn=>by
  simp only[pass1,scanL,declL,usesL]
  exact pass1_scan r (i+1) s us dn (fun l h=>hk l (by simp[h])) hn
 | .bad :: r,i,s,us,dn,hk,hn=>by simp[pass1,scanL,orE]
 | .decl k x a b :: r,i,s,us,dn,hk,hn=>by
  have hk1:1<=k/\k<=4:=hk (.decl k x a b) (by simp)
  simp only[pass1,scanL,declL,usesL]
  by_cases hx:x∈dn
  ·rw[if_pos ((hn x).2 hx),if_pos hx];simp[orE]
  ·rw[if_neg (fun h=>hx ((hn x).1 h)),if_neg hx,← addD_len (s:=s) (x:=x) (a:=a) (b:=b) hk1]
   exact pass1_scan r (i+1) _ us _ (fun l h=>hk l (by simp[h])) fun y=>by rw[addD_names,hn y];simp
 | .use k n d x :: r,i,s,us,dn,hk,hn=>by
  simp only[pass1,scanL,declL,usesL]
  by_cases hc:s.classes.length=0
  ·rw[if_pos hc,if_pos hc];simp[orE]
  ·rw[if_neg hc,if_neg hc,pass1_scan r (i+1) s _ dn (fun l h=>hk l (by simp[h])) hn]
   simp
theorem parseM_eq(ls:List PL)(hk:∀l∈ls,kindOk l):parseM ls=parseMR ls:=by
 unfold parseM parseMR
 rw[pass1_scan ls 0 sys0 [] [] hk (fun y=>by simp[sys0,namesL])]
 have e:sys0.classes.length=0:=rfl
 rw[e]
 unfold orE
 by_cases h:(scanL ls 0 [] 0).2=0
 ·rw[if_pos h,if_neg (fun h'=>h' h)]
  simp only[mid41,List.nil_append,pass2_uses]
 ·rw[if_neg h,if_pos h];rfl
theorem kindS_le(w:Str):kindS w<=4∨(11<=kindS w/\kindS w<=15):=by
 unfold kindS
 repeat' split
 all_goals omega
theorem lineK_ok{w:List Str}{k:Nat}(h:k<=4∨11<=k):kindOk (lineK w k):=by
 unfold lineK
 split
 ·rename_i hf
  split
  ·have:¬k=0:=by
    unfold formW at hf
    simp only[Bool.and_eq_true,Bool.not_eq_true',decide_eq_false_iff_not]at hf
    exact hf.1.1.1.1
   exact⟨by omega,by omega⟩
  ·trivial
 ·trivial
theorem lineW_ok(w:List Str):kindOk (lineW w):=by
 unfold lineW
 split
 ·trivial
 ·exact lineK_ok ((kindS_le _).imp id fun h=>h.1)
theorem parse41_eq(lines:Str->List Str)(t:Str):parse41 lines t=if 4000<t.length then (sys0,0,9) else parseMR (lines41 lines t):=by
 unfold parse41
 rw[parseM_eq _ (fun l hl=>by
  unfold lines41 at hl
  obtain⟨x,_,rfl⟩:=List.mem_map.1 hl
  exact lineW_ok _)]
end Go.AM
namespace Go.AM
open Go Go.Proofs
def poolL(p:PPool):Str:=[112,111,111,108,32]++p.name++32 :: (Lib.itoa p.size++32 :: Lib.itoa p.res)
def lockL(x:Str):Str:=[109,117,116,101,120,32]++x
def clsL(c:PCls):Str:=(if c.server then [115,101,114,118,101,114,32] else [99,108,97,115,115,32])++c.name++32 :: Lib.itoa c.workers
def onName(s:PSys)(x:PStep):Str:=if x.kind=1∨x.kind=2 then (s.pools.getD x.on.toNat default).name else if x.kind=3∨x.kind=4 then s.locks.getD x.on.toNat [] else (s.classes.getD x.on.toNat default).name
def stepT(s:PSys)(x:PStep):Str :=
 if x.kind=1 then [116,97,107,101,32]++onName s x++32 :: Lib.itoa x.cnt++(if x.deep then [32,100,101,101,112] else [])
 else if x.kind=2 then [103,105,118,101,32]++onName s x++32 :: Lib.itoa x.cnt
 else if x.kind=3 then [108,111,99,107,32]++onName s x
 else if x.kind=4 then [117,110,108,111,99,107,32]++onName s x
 else [99,97,108,108,32]++onName s x
def clsT(s:PSys)(c:PCls):List Str:=clsL c :: c.steps.map fun x=>32 :: 32 :: stepT s x
def sysL(s:PSys):List Str:=s.pools.map poolL++s.locks.map lockL++s.classes.flatMap (clsT s)
def joinL(l:List Str):Str:=l.flatMap fun x=>x++[10]
def textS(s:PSys):Str:=joinL (sysL s)
theorem joinL_app(a b:List Str):joinL (a++b)=joinL a++joinL b:=by unfold joinL;rw[List.flatMap_append]
theorem joinL_cons(a:Str)(b:List Str):joinL (a :: b)=a++10 :: joinL b:=by unfold joinL;rw[List.flatMap_cons];simp
theorem joinL_split:∀(l:List Str),(∀x∈l,∀b∈x,b≠10)->splitC 10 (joinL l)=l++[[]]
 | [],_=>rfl
 | x :: l,h=>by
  rw[joinL_cons,splitC_app,splitC_none' x (h x (by simp)),joinL_split l fun y hy=>h y (by simp[hy])]
  rfl
theorem isNm_word{s:Str}(h:isNm s=true):Word s:=by
 cases s with
 | nil=>cases h
 | cons b r =>
  simp only[isNm,Bool.and_eq_true,decide_eq_true_eq,List.all_eq_true]at h
  refine⟨by simp,fun x hx=>?_⟩
  have hn:nmc x=true:=by
   rcases List.mem_cons.1 hx with rfl|hx
   ·unfold nmc;rw[h.1.2];rfl
   ·exact h.2 x hx
  simp only[nmc,lowc,digc,Bool.or_eq_true,Bool.and_eq_true,decide_eq_true_eq]at hn
  constructor
  ·rintro rfl;revert hn;decide
  ·rintro rfl;revert hn;decide
theorem isNm_len{s:Str}(h:isNm s=true):1<=s.length/\s.length<=8:=by
 cases s with
 | nil=>cases h
 | cons b r =>
  simp only[isNm,Bool.and_eq_true,decide_eq_true_eq]at h
  simp only[List.length_cons];omega
theorem words_pair{a b:Str}(ha:Word a)(hb:Word b):wordsW (a++32 :: b)=[a,b]:=by rw[wordsW_app,wordsW_word ha,wordsW_word hb];rfl
def stPL(s:PSys)(x:PStep):PL:=.use x.kind.toNat x.cnt x.deep (onName s x)
def clPL(s:PSys)(c:PCls):List PL:=.decl (if c.server then 4 else 3) c.name c.workers 0 :: c.steps.map (stPL s)
def sysPL(s:PSys):List PL:=s.pools.map (fun p=>.decl 1 p.name p.size p.res)++s.locks.map (fun x=>.decl 2 x 0 0)++s.classes.flatMap (clPL s)
theorem lineW_pool{p:PPool}(hn:isNm p.name=true)(h1:0<=p.size)(h2:p.size<=999)(h3:0<=p.res)(h4:p.res<=999):lineW (wordsW (poolL p))=.decl 1 p.name p.size p.res:=by
 have n1:=numOk h1 h2
 have n2:=numOk h3 h4
 have e:wordsW (poolL p)=[[112,111,111,108],p.name,Lib.itoa p.size,Lib.itoa p.res]:=by
  have:poolL p=[112,111,111,108]++32 :: (p.name++32 :: (Lib.itoa p.size++32 :: Lib.itoa p.res)):=by simp[poolL]
  rw[this,wordsW_app,wordsW_word (by decide),wordsW_app,wordsW_word (isNm_word hn),words_pair n1.word n2.word]
  rfl
 have hk:kindS [112,111,111,108]=1:=rfl
 rw[e]
 simp[lineW,skip41,lineK,formW,wantK,hk,hn,n1.val,n2.val,h1,h3]
theorem lineW_lock{x:Str}(hn:isNm x=true):lineW (wordsW (lockL x))=.decl 2 x 0 0:=by
 have e:wordsW (lockL x)=[[109,117,116,101,120],x]:=words_pair (a:=[109,117,116,101,120]) (by decide) (isNm_word hn)
 have hk:kindS [109,117,116,101,120]=2:=rfl
 rw[e]
 simp[lineW,skip41,lineK,formW,wantK,hk,hn]
theorem lineW_cls{c:PCls}(hn:isNm c.name=true)(h1:0<=c.workers)(h2:c.workers<=999):lineW (wordsW (clsL c))=.decl (if c.server then 4 else 3) c.name c.workers 0:=by
 have n1:=numOk h1 h2
 unfold clsL
 cases c.server with
 | true =>
  have e:wordsW ([115,101,114,118,101,114,32]++c.name++32 :: Lib.itoa c.workers)=[[115,101,114,118,101,114],c.name,Lib.itoa c.workers]:=by
   have:[115,101,114,118,101,114,32]++c.name++32 :: Lib.itoa c.workers=[115,101,114,118,101,114]++32 :: (c.name++32 :: Lib.itoa c.workers):=by simp
   rw[this,wordsW_app,wordsW_word (by decide),words_pair (isNm_word hn) n1.word];rfl
  have hk:kindS [115,101,114,118,101,114]=4:=rfl
  simp only[if_true]
  rw[e]
  simp[lineW,skip41,lineK,formW,wantK,hk,hn,n1.val,h1]
 | false =>
  have e:wordsW ([99,108,97,115,115,32]++c.name++32 :: Lib.itoa c.workers)=[[99,108,97,115,115],c.name,Lib.itoa c.workers]:=by
   have:[99,108,97,115,115,32]++c.name++32 :: Lib.itoa c.workers=[99,108,97,115,115]++32 :: (c.name++32 :: Lib.itoa c.workers):=by simp
   rw[this,wordsW_app,wordsW_word (by decide),words_pair (isNm_word hn) n1.word];rfl
  have hk:kindS [99,108,97,115,115]=3:=rfl
  simp only[Bool.false_eq_true,if_false]
  rw[e]
  simp[lineW,skip41,lineK,formW,wantK,hk,hn,n1.val,h1]
structure StFit (s:PSys) (x:PStep):Prop where
 k:1<=x.kind/\x.kind<=5
 nm:isNm (onName s x)=true
 c0:0<=x.cnt
 c1:x.cnt<=999
 cz:¬(x.kind=1∨x.kind=2)->x.cnt=0
 dp:x.kind≠1->x.deep=false
theorem words_sp(x:Str):wordsW (32 :: 32 :: x)=wordsW x:=by
 have h1:wordsW (32 :: x)=wordsW x:=by
  have:=wordsW_app [] x
  rw[wordsW_nil]at this
  simpa using this
 have h2:=wordsW_app [] (32 :: x)
 rw[wordsW_nil]at h2
 simpa [h1] using h2
theorem lineW_step{s:PSys}{x:PStep}(h:StFit s x):lineW (wordsW (32 :: 32 :: stepT s x))=stPL s x:=by
 rw[words_sp]
 have hw:=isNm_word h.nm
 have n1:=numOk h.c0 h.c1
 obtain⟨k0,k1⟩:=h.k
 have hcase:x.kind=1∨x.kind=2∨x.kind=3∨x.kind=4∨x.kind=5:=by omega
 rcases hcase with hk|hk|hk|hk|hk
 ·have hks:kindS [116,97,107,101]=11:=rfl
  have e1:stepT s x=[116,97,107,101,32]++onName s x++32 :: Lib.itoa x.cnt++(if x.deep then [32,100,101,101,112] else []):=by unfold stepT;rw[if_pos hk]
  cases hd:x.deep with
  | true =>
   have e:wordsW (stepT s x)=[[116,97,107,101],onName s x,Lib.itoa x.cnt,[100,101,101,112]]:=by
    have:stepT s x=[116,97,107,101]++32 :: (onName s x++32 :: (Lib.itoa x.cnt++32 :: [100,101,101,112])):=by rw[e1,hd];simp
    rw[this,wordsW_app,wordsW_word (by decide),wordsW_app,wordsW_word hw,words_pair n1.word (by decide)];rfl
   rw[e]
   simp[lineW,skip41,lineK,formW,wantK,deepW,hks,h.nm,n1.val,h.c0,stPL,hk,hd]
  | false =>
   have e:wordsW (stepT s x)=[[116,97,107,101],onName s x,Lib.itoa x.cnt]:=by
    have:stepT s x=[116,97,107,101]++32 :: (onName s x++32 :: Lib.itoa x.cnt):=by rw[e1,hd];simp
    rw[this,wordsW_app,wordsW_word (by decide),words_pair hw n1.word];rfl
   rw[e]
   simp[lineW,skip41,lineK,formW,wantK,deepW,hks,h.nm,n1.val,h.c0,stPL,hk,hd]
 ·have hks:kindS [103,105,118,101]=12:=rfl
  have e:wordsW (stepT s x)=[[103,105,118,101],onName s x,Lib.itoa x.cnt]:=by
   have:stepT s x=[103,105,118,101]++32 :: (onName s x++32 :: Lib.itoa x.cnt):=by unfold stepT;rw[if_neg (by omega),if_pos hk];simp
   rw[this,wordsW_app,wordsW_word (by decide),words_pair hw n1.word];rfl
  have hd:=h.dp (by omega)
  rw[e]
  simp[lineW,skip41,lineK,formW,wantK,deepW,hks,h.nm,n1.val,h.c0,stPL,hk,hd]
 ·have hks:kindS [108,111,99,107]=13:=rfl
  have e:wordsW (stepT s x)=[[108,111,99,107],onName s x]:=by
   have:stepT s x=[108,111,99,107]++32 :: onName s x:=by unfold stepT;rw[if_neg (by omega),if_neg (by omega),if_pos hk];simp
   rw[this,words_pair (by decide) hw]
  have hd:=h.dp (by omega)
  have hc:=h.cz (by omega)
  rw[e]
  simp[lineW,skip41,lineK,formW,wantK,deepW,hks,h.nm,stPL,hk,hd,hc]
 ·have hks:kindS [117,110,108,111,99,107]=14:=rfl
  have e:wordsW (stepT s x)=[[117,110,108,111,99,107],onName s x]:=by
   have:stepT s x=[117,110,108,111,99,107]++32 :: onName s x:=by unfold stepT;rw[if_neg (by omega),if_neg (by omega),if_neg (by omega),if_pos hk];simp
   rw[this,words_pair (by decide) hw]
  have hd:=h.dp (by omega)
  have hc:=h.cz (by omega)
  rw[e]
  simp[lineW,skip41,lineK,formW,wantK,deepW,hks,h.nm,stPL,hk,hd,hc]
 ·have hks:kindS [99,97,108,108]=15:=rfl
  have e:wordsW (stepT s x)=[[99,97,108,108],onName s x]:=by
   have:stepT s x=[99,97,108,108]++32 :: onName s x:=by unfold stepT;rw[if_neg (by omega),if_neg (by omega),if_neg (by omega),if_neg (by omega)];simp
   rw[this,words_pair (by decide) hw]
  have hd:=h.dp (by omega)
  have hc:=h.cz (by omega)
  rw[e]
  simp[lineW,skip41,lineK,formW,wantK,deepW,hks,h.nm,stPL,hk,hd,hc]
end Go.AM

