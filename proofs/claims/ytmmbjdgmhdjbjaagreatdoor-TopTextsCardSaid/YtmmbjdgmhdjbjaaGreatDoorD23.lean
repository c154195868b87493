/- Own work over the model of the kit. -/
import Derived.Test.YtmmbjdgmhdjbjaaGreatDoorD22
import Derived.Test.YtmmbjdgmhdjbjaaGreatDoorD21
import Derived.Test.YtmmbjdgmhdjbjaaGreatDoorD15
import Derived.Test.YtmmbjdgmhdjbjaaGreatDoorD13
import Derived.Test.YtmmbjdgmhdjbjaaGreatDoorD14
import Derived.Test.YtmmbjdgmhdjbjaaGreatDoorD10
import Derived.Lib.ItoaMem
import Derived.Test.YtmmbjdgmhdjbjaaGreatDoorD16
set_option linter.unnecessarySimpa false
set_option linter.unusedSimpArgs false
set_option linter.unusedVariables false
set_option maxHeartbeats 4000000
set_option maxRecDepth 100000
namespace Go.AM
open Go Go.Proofs
abbrev vt(s:PSys):List PEdge:=edC s 0 s.classes []
def rf(s:PSys):Nat:=s.pools.length+s.locks.length+s.classes.length
theorem BS{s:PSys}(h:aT s=0):GOk (rf s) (vt s):=by
 have hg:=eJ h
 have hlen:=DN s 12 0 s.classes [] (fun c hc=>(hg.cls c hc).l12)
 have h1:=hg.np
 have h2:=hg.nl
 have h3:=hg.nc
 have hl2:s.classes.length*(12*(s.pools.length+s.locks.length+1))<=6*(12*11):=Nat.mul_le_mul h3 (by omega)
 have key:∀e∈vt s,(∃r:Nat,e.src=r/\r<rf s)/\∃r:Nat,e.dst=r/\r<rf s:=by
  intro e he
  obtain⟨i,k,c,x,h1,h2,h3,h4,h5,h6,h7⟩:=(Je s).mem e he
  have hi:=(List.getElem?_eq_some_iff.1 h1).1
  obtain⟨r,hr,hr2,_⟩:=jK hi h7
  refine⟨⟨r,hr,hr2⟩,?_⟩
  have hp:=(hg.cls c (List.mem_of_getElem? h1)).pre x (List.mem_of_getElem? h2)
  obtain⟨_,⟨o1,o2⟩,_⟩:=dy hp
  rw[h6]
  unfold cD at o2
  unfold rf dR
  by_cases k3:x.kind=3
  ·rw[if_pos (.inl k3)]at o2
   rw[if_pos k3]
   exact⟨s.pools.length+x.on.toNat,by omega,by omega⟩
  ·rw[if_neg k3]
   by_cases k5:x.kind=5
   ·rw[if_neg (by omega),if_pos k5]at o2
    rw[if_pos k5]
    exact⟨s.pools.length+s.locks.length+x.on.toNat,by omega,by omega⟩
   ·rw[if_neg k5]
    have k1:x.kind=1:=Classical.byContradiction fun hk=>by
     unfold nr at h3
     rw[if_neg (by omega),if_neg hk]at h3
     cases h3
    rw[if_neg (by omega),if_neg k5]at o2
    exact⟨x.on.toNat,by omega,by omega⟩
 refine⟨by unfold rf;omega,by simp only[List.length_nil]at hlen;show (edC s 0 s.classes []).length<=10000;omega,fun e he=>?_,fun e he=>?_⟩
 ·obtain⟨⟨r,hr,hr2⟩,_⟩:=key e he
  unfold PEdge.s;rw[hr,Int.toNat_natCast];exact⟨rfl,hr2⟩
 ·obtain⟨_,r,hr,hr2⟩:=key e he
  unfold PEdge.t;rw[hr,Int.toNat_natCast];exact⟨rfl,hr2⟩
theorem LY{s:PSys}(h:aT s=0):Mm s=(rf s:Nat):=by unfold Mm rf;rw[if_neg (by rw[h];decide)];omega
theorem D7{s:PSys}(h:aT s=0):oU s=.tup [.dat (.sl (some 4) (dW (vt s))),.dat (.int .i64 0)]:=by unfold oU;rw[if_neg (by rw[h];decide)]
theorem zg{s:PSys}(h:aT s≠0):oU s=.tup [.dat (.sl none []),.dat (.int .i64 (aT s))]:=by unfold oU;rw[if_pos h]
def pT(L:List Nat):D:=.agg [.sl none (aF L)]
noncomputable def ly (s:PSys):List Nat×Int:=if aT s≠0 then ([],aT s) else if (Nw s).isSome=true then ([],9) else match vW (rf s) (vt s) with
 | some L=>(L,0)
 | none=>([],20)
noncomputable def Bf (s:PSys):AV:=.tup [.dat (pT (ly s).1),.dat (.int .i64 (ly s).2)]
def py(ds:List D)(v:AV):Prop:=∃s:PSys,ds=[aY s]/\s.fit/\v=Bf s
abbrev Ot:List (Nat×a8):=[(21,au B0),(22,au JP),(24,au VI),(23,au wr)]
theorem HC:OkG Tryz.prog (tbl Ot):=ai Fs (ai sP (ai uy (ai Bt ae)))
theorem wJ{s:PSys}(h:aT s=0):k8 (rf s:Nat) (vt s)=match vW (rf s) (vt s) with
 | some L=>.tup [.dat (.sl none (aF L)),.dat (.int .i64 0)]
 | none=>.tup [.dat (.sl none []),.dat (.int .i64 10)]:=by
 unfold k8;rw[if_neg (by rw[X7 (BS h)];decide),Int.toNat_natCast]
 all_goals (cases vW (rf s) (vt s) <;> rfl)
theorem C0:OkF Tryz.prog 8 (au py):=by
 refine az Tryz.func8 rfl (by decide) ?_
 rintro ds v ⟨s,rfl,hf,rfl⟩
 refine a6 (Γ:=tbl Ot) HC _ _ _ ?_
 simp only[go_sem,Tryz.ntmps8,aY]
 refine ah B0 (by simp) [aY s] _ rfl ⟨s,rfl,hf,rfl⟩ (.inl rfl) ?_
 unfold Bf ly
 by_cases h:aT s=0
 case neg =>
  rw[zg h,if_pos h]
  simp only[go_sem,h]
  refine aZ (.inl rfl) [.cell 2 38,.tmp 3] rfl ?_
  simp only[go_sem,pT]
  exact bp (by simp only[go_sem]) (by simp only[go_sem])
 rw[D7 h,if_neg (by rw[h];decide)]
 have hgk:=BS h
 have hgl:=hgk.len
 simp only[go_sem,h]
 refine ah JP (by simp) [aY s] _ rfl ⟨s,rfl,hf,rfl⟩ (.inl rfl) ?_
 cases hi:Nw s with
 | some q =>
  obtain⟨i,k⟩:=q
  simp only[go_sem,O5]
  refine aZ (.inl rfl) [.cell 2 38,.tmp 3] rfl ?_
  simp only[go_sem,pT]
  exact bp (by simp only[go_sem]) (by simp only[go_sem])
 | none =>
 simp only[go_sem,O5]
 refine ah VI (by simp) [aY s] _ rfl ⟨s,rfl,hf,rfl⟩ (.inl rfl) ?_
 rw[LY h]
 simp only[go_sem]
 refine ah wr (by simp) [.int .i64 (rf s:Nat),.sl (some 4) (dW (vt s))] _ rfl ⟨_,_,rfl,by omega,rfl⟩ (.inl rfl) ?_
 rw[wJ h]
 cases hl:vW (rf s) (vt s) with
 | none =>
  simp only[go_sem]
  refine aZ (.inl rfl) [.cell 2 38,.tmp 3] rfl ?_
  simp only[go_sem,pT]
  exact bp (by simp only[go_sem]) (by simp only[go_sem])
 | some L =>
  simp only[go_sem]
  refine aZ (.inl rfl) [.cell 2 38,.tmp 3] rfl ?_
  simp only[go_sem,pT]
  exact bp (by simp only[go_sem]) (by simp only[go_sem])
def q33:PSys:=⟨[],Zc,[mO 3 0,⟨119 :: pY (48+(1:Nat)),1,false,[⟨3,1,0,false⟩,⟨3,0,0,false⟩,⟨4,0,0,false⟩,⟨4,1,0,false⟩]⟩]⟩
abbrev p33:PSys:=aaC [3,3]
theorem o7:aT p33=0:=by kernel_rfl
theorem nI:aT q33=0:=by kernel_rfl
theorem Mh:Nw p33=none:=by kernel_rfl
theorem M6:Nw q33=none:=by kernel_rfl
theorem HO:FT p33 10=some ([],0,6):=by kernel_rfl
theorem FA:FT q33 10=some ([0,1],0,0):=by kernel_rfl
def f33(v:Nat):Nat:=if v=0 then 1 else 0
theorem M9:(((vt p33).all fun e=>decide (f33 e.t<f33 e.s) && decide (e.t<rf p33)) && (List.range (rf p33)).all fun v=>decide (f33 v=0) || (vt p33).any fun e=>decide (e.s=v) && decide (f33 v=f33 e.t+1))=true:=by kernel_rfl
theorem Gn:(ly p33).2=0:=by
 have h:=M9
 rw[Bool.and_eq_true,List.all_eq_true,List.all_eq_true]at h
 obtain⟨h1,h2⟩:=h
 have hE:∀e∈vt p33,e.t<rf p33:=fun e he=>by
  have:=h1 e he
  simp only[Bool.and_eq_true,decide_eq_true_eq]at this
  exact this.2
 have hf:IsLev (rf p33) (vt p33) f33:=⟨fun e he=>by
  have:=h1 e he
  simp only[Bool.and_eq_true,decide_eq_true_eq]at this
  exact this.1,fun v hv=>by
  have:=h2 v (List.mem_range.2 hv)
  simp only[Bool.or_eq_true,decide_eq_true_eq,List.any_eq_true,Bool.and_eq_true]at this
  exact this⟩
 unfold ly
 rw[if_neg (by simp[o7]),if_neg (by simp[Mh]),nt hE hf]
theorem K1:((vt q33).any (fun e=>decide (e.s=0) && decide (e.t=1)) && (vt q33).any (fun e=>decide (e.s=1) && decide (e.t=0)))=true:=by kernel_rfl
theorem Hc:(ly q33).2=20:=by
 have h:=K1
 simp only[Bool.and_eq_true,List.any_eq_true,decide_eq_true_eq]at h
 obtain⟨⟨e1,m1,s1,t1⟩,e2,m2,s2,t2⟩:=h
 have hl:vW (rf q33) (vt q33)=none:=u7 fun ⟨f,hf⟩=>by
  have a1:=hf e1 m1
  have a2:=hf e2 m2
  rw[s1,t1]at a1
  rw[s2,t2]at a2
  omega
 unfold ly
 rw[if_neg (by simp[nI]),if_neg (by simp[M6]),hl]
def Gy(ds:List D)(v:AV):Prop:=ds=[]/\v=.dat (.bool true)
theorem zf:Gy [] (.dat (.bool true)):=⟨rfl,rfl⟩
abbrev EZ:List (Nat×a8):=[(10,fk xG),(8,au py),(9,au rt)]
theorem j9:OkG Tryz.prog (tbl EZ):=ai Ds (ai C0 (ai mj ae))
theorem wt:OkF Tryz.prog 4 (au Gy):=by
 refine az Tryz.func4 rfl (by decide) ?_
 rintro ds v ⟨rfl,rfl⟩
 have d1:=xq o7 HO
 have d2:=xq nI FA
 have m1:py [aY p33] (Bf p33):=⟨_,rfl,⟨(eJ o7).small⟩,rfl⟩
 have m2:py [aY q33] (Bf q33):=⟨_,rfl,⟨(eJ nI).small⟩,rfl⟩
 unfold Bf at m1 m2
 rw[Gn]at m1
 rw[Hc]at m2
 refine al [1,2,3,5,6] (Γ:=tbl EZ) j9 _ _ _ ?_
 simp only[go_sem,Tryz.ntmps4]
 refine DY 1 j9 ?_
 simp only[go_sem]
 refine⟨_,aq 0 (ag:=none) rfl (Nat.zero_le _),?_⟩
 simp only[go_sem]
 refine co xG (by simp) [.sl none [.int .u8 3,.int .u8 3]] _ _ rfl rfl ⟨rfl,rfl,rfl⟩ ?_
 simp only[o33]
 simp only[go_sem,AV.shift,Obj.shift,AV.shifts,List.map_append,OZ,IA,List.map_cons,List.map_nil,List.cons_append,List.nil_append]
 have hS:List.map ar (ql 3)=[.agg [.int .i64 3,.int .i64 0,.int .i64 0,.bool false],.agg [.int .i64 3,.int .i64 1,.int .i64 0,.bool false],.agg [.int .i64 4,.int .i64 0,.int .i64 0,.bool false],.agg [.int .i64 4,.int .i64 1,.int .i64 0,.bool false]]:=rfl
 have h0:mO 3 0=⟨[119,48],1,false,ql 3⟩:=rfl
 have h1:mO 3 1=⟨[119,49],1,false,ql 3⟩:=rfl
 simp only[h0,h1,bD,hS]
 refine av (aq 7 (ag:=some 4) rfl (Nat.zero_le _)) ?_
 refine av (lK 5 (k:=4) (M:=[[.str [119,48],.int .i64 1,.bool false,.sl (some 4) [.agg [.int .i64 3,.int .i64 0,.int .i64 0,.bool false],.agg [.int .i64 3,.int .i64 1,.int .i64 0,.bool false],.agg [.int .i64 4,.int .i64 0,.int .i64 0,.bool false],.agg [.int .i64 4,.int .i64 1,.int .i64 0,.bool false]]],[.str [119,49],.int .i64 1,.bool false,.sl (some 4) [.agg [.int .i64 3,.int .i64 0,.int .i64 0,.bool false],.agg [.int .i64 3,.int .i64 1,.int .i64 0,.bool false],.agg [.int .i64 4,.int .i64 0,.int .i64 0,.bool false],.agg [.int .i64 4,.int .i64 1,.int .i64 0,.bool false]]]]) (by decide) (by decide) rfl rfl (Nat.zero_le _)) ?_
 refine av (aq 4 (ag:=some 3) rfl (Nat.zero_le _)) ?_
 refine av (aq 2 (ag:=none) rfl (Nat.zero_le _)) ?_
 refine av (jI 1) ?_
 refine av (jI 3) ?_
 refine DY 1 j9 ?_
 simp only[go_sem,List.length_cons,List.length_nil,Nat.le_refl,List.take_succ_cons,List.take_zero,List.drop_zero,List.map_cons,List.map_nil,List.take_nil]
 refine⟨_,aq 9 (ag:=none) rfl (Nat.zero_le _),?_⟩
 simp only[go_sem]
 refine co xG (by simp) [.sl none [.int .u8 3,.int .u8 3]] _ _ rfl rfl ⟨rfl,rfl,rfl⟩ ?_
 simp only[o33]
 simp only[go_sem,AV.shift,Obj.shift,AV.shifts,List.map_append,OZ,IA,List.map_cons,List.map_nil,List.cons_append,List.nil_append]
 simp only[h0,h1,bD,hS]
 refine al [5,6] (Γ:=tbl EZ) j9 _ _ _ ?_
 simp only[go_sem,eq_self,not_true,decide_false,not_false_eq_true,decide_true]
 refine BF [] [] (pf:=[]) (mf:=[]) mixed j9 b0 fQ (il [0,1,2,3,4,5,6,7,8,9,10,11,12,13,14,15]) (by kernel_rfl) ?_
 simp only[go_sem,eq_self,not_true,decide_false,not_false_eq_true,decide_true]
 have hst:∀(a b c d:D),D.nth [a,b,c,d] 0=a/\D.nth [a,b,c,d] 1=b:=fun _ _ _ _=>⟨rfl,rfl⟩
 simp only[hst,List.set_cons_zero,List.set_cons_succ]
 refine av (aq 16 (ag:=some 4) rfl (Nat.zero_le _)) ?_
 refine av (lK 14 (k:=4) (M:=[[.str [119,48],.int .i64 1,.bool false,.sl (some 4) [.agg [.int .i64 3,.int .i64 0,.int .i64 0,.bool false],.agg [.int .i64 3,.int .i64 1,.int .i64 0,.bool false],.agg [.int .i64 4,.int .i64 0,.int .i64 0,.bool false],.agg [.int .i64 4,.int .i64 1,.int .i64 0,.bool false]]],[.str [119,49],.int .i64 1,.bool false,.sl (some 4) [.agg [.int .i64 3,.int .i64 1,.int .i64 0,.bool false],.agg [.int .i64 3,.int .i64 0,.int .i64 0,.bool false],.agg [.int .i64 4,.int .i64 0,.int .i64 0,.bool false],.agg [.int .i64 4,.int .i64 1,.int .i64 0,.bool false]]]]) (by decide) (by decide) rfl rfl (Nat.zero_le _)) ?_
 refine av (aq 13 (ag:=some 3) rfl (Nat.zero_le _)) ?_
 refine av (aq 11 (ag:=none) rfl (Nat.zero_le _)) ?_
 refine av (jI 10) ?_
 refine av (jI 12) ?_
 refine a6 (Γ:=tbl EZ) j9 _ _ _ ?_
 simp only[go_sem,List.length_cons,List.length_nil,Nat.le_refl,List.take_succ_cons,List.take_zero,List.drop_zero,List.map_cons,List.map_nil,List.take_nil]
 refine ah py (by simp) [aY p33] _ rfl m1 (.inl rfl) ?_
 simp only[go_sem,pT]
 refine ah py (by simp) [aY q33] _ rfl m2 (.inl rfl) ?_
 simp only[go_sem,pT]
 refine ah rt (by simp) [aY q33] _ rfl d2 (.inl rfl) ?_
 simp only[go_sem]
 refine ah rt (by simp) [aY p33] _ rfl d1 (.inl rfl) ?_
 simp only[go_sem,decide_true,eq_self,List.length_cons,List.length_nil,List.map_cons,List.map_nil]
 exact am (.inl rfl) [0] rfl trivial rfl
def x8(s:Str):Int:=s.foldl (fun n b=>10*n+((b.toNat:Int) - 48)) 0
def ct(s:Str):Int:=if s.length<1∨3<s.length∨(1<s.length/\s.getD 0 0=48) then -1 else if s.all DC then x8 s else -1
theorem BX(s:Str)(b:UInt8):x8 (s++[b])=10*x8 s+((b.toNat:Int) - 48):=by simp[x8,List.foldl_append]
theorem r5:∀s:Str,s.length<=3->s.all DC=true->0<=x8 s/\x8 s<=999
 | [],_,_=>by simp[x8]
 | [a],_,h=>by
  simp only[List.all_cons,List.all_nil,Bool.and_true,gW]at h
  simp only[x8,List.foldl_cons,List.foldl_nil];omega
 | [a,b],_,h=>by
  simp only[List.all_cons,List.all_nil,Bool.and_true,Bool.and_eq_true,gW]at h
  simp only[x8,List.foldl_cons,List.foldl_nil];omega
 | [a,b,c],_,h=>by
  simp only[List.all_cons,List.all_nil,Bool.and_true,Bool.and_eq_true,gW]at h
  simp only[x8,List.foldl_cons,List.foldl_nil];omega
 | a :: b :: c :: d :: r,h,_=>by simp at h
theorem HB{P:Program}{t:TypeId}{a b:Int}{K:AV->Prop}:aL P .sub t (.dat (.int .u8 a)) (.dat (.int .u8 b)) K=K (.dat (.int .u8 (IntKind.u8.wrap (a - b)))):=by simp[aL,jm,fY,jB,mS,nT,bT]
theorem Hu{n:Int}(h0:0<=n)(h1:n<256):IntKind.u8.wrap n=n:=by
 simp[IntKind.wrap,IntKind.signed,IntKind.bits]
 omega
def Eo(ds:List D)(v:AV):Prop:=∃s:Str,ds=[.str s]/\s.length<=1000000/\v=.dat (.int .i64 (ct s))
abbrev mT(s:Str)(c:UInt8):Int:=Lib.indexByte s c
theorem rE(c:UInt8):∀s:Str,mT s c<s.length∨(s=[]/\mT s c=-1)
 | []=>.inr ⟨rfl,rfl⟩
 | b :: s=>by
  left
  unfold mT Lib.indexByte
  have:=rE c s
  unfold mT at this
  simp only[List.length_cons]
  split
  ·omega
  ·split
   ·omega
   ·rcases this with h|⟨rfl,h⟩
    ·omega
    ·rw[h];omega
theorem Dj(s:Str)(c:UInt8):-1<=mT s c/\mT s c<s.length+1:=by
 have h1:=Lib.indexByte_ge s c
 have h2:=rE c s
 unfold mT at *
 omega
theorem rz(s:Str)(c:UInt8):Fu Tryz.prog 102 [.dat (.str s),.dat (.int .u8 c.toNat)] (.dat (.int .i64 (mT s c))):=by
 refine Jb (e:=Extern.BytealgIndexByte.indexByte) Tryz.func102 (by decide) rfl (by kernel_rfl) (by kernel_rfl) ?_
 intro F φ w vs hs
 simp only[AV.Rs]at hs
 obtain⟨v1,r1,rfl,h1,v2,r2,rfl,h2,rfl⟩:=hs
 obtain⟨rfl,hl⟩:=im.1 h1
 obtain⟨rfl,_⟩:=bw.1 h2
 refine⟨_,Lib.run_indexByteString _ _ _,?_⟩
 have e:((c.toNat:Nat):Int).toNat.toUInt8=c:=by simp
 rw[e]
 refine bw.2 ⟨rfl,?_⟩
 have:=Dj s c
 simp only[maxLen]at hl
 exact ac.2 (by unfold mT at *;show -9223372036854775808<=_/\_;omega)
def Lu(ds:List D)(v:AV):Prop:=∃(s:Str) (c:UInt8),ds=[.str s,.int .u8 c.toNat]/\v=.dat (.int .i64 (mT s c))
theorem tD:OkF Tryz.prog 94 (au Lu):=by
 refine az Tryz.func94 rfl (by decide) ?_
 rintro ds v ⟨s,c,rfl,rfl⟩
 refine al [1] (Γ:=tbl []) ae _ _ _ ?_
 simp only[go_sem,Tryz.ntmps94]
 refine nE (Γ:=tbl []) ae ?_
 refine .inr ?_
 simp only[go_sem]
 refine .inr ?_
 simp only[go_sem]
 refine .inl ?_
 refine⟨_,rz s c,?_⟩
 simp only[go_sem]
 refine .inr ?_
 simp only[go_sem]
 exact am (.inl rfl) [4] rfl trivial rfl
def tL(ds:List D)(v:AV):Prop:=∃(s:Str) (c:UInt8),ds=[.str s,.str [c]]/\v=.dat (.int .i64 (mT s c))
abbrev Py:List (Nat×a8):=[(94,au Lu)]
theorem HG:OkG Tryz.prog (tbl Py):=ai tD ae
theorem rF:OkF Tryz.prog 85 (au tL):=by
 refine az Tryz.func85 rfl (by decide) ?_
 rintro ds v ⟨s,c,rfl,rfl⟩
 refine a6 (Γ:=tbl Py) HG _ _ _ ?_
 by_cases h:[c]=s
 ·subst h
  have h0:mT [c] c=0:=by simp[mT,Lib.indexByte]
  simp only[go_sem,Tryz.ntmps85,List.length_cons,List.length_nil,eq_self,decide_true]
  rw[h0]
  exact am (.inl rfl) [4] rfl trivial rfl
 ·simp only[go_sem,Tryz.ntmps85,List.length_cons,List.length_nil,eq_self,decide_true,h]
  refine ah Lu (by simp) [.str s,.int .u8 c.toNat] _ rfl ⟨s,c,rfl,rfl⟩ (.inl rfl) ?_
  simp only[go_sem]
  exact am (.inl rfl) [4] rfl trivial rfl
abbrev Ru:List (Nat×a8):=[(85,au tL)]
theorem Fl:OkG Tryz.prog (tbl Ru):=ai rF ae
theorem nX:OkF Tryz.prog 68 (au tL):=by
 refine az Tryz.func68 rfl (by decide) ?_
 rintro ds v ⟨s,c,rfl,rfl⟩
 refine a6 (Γ:=tbl Ru) Fl _ _ _ ?_
 simp only[go_sem,Tryz.ntmps68]
 refine ah tL (by simp) [.str s,.str [c]] _ rfl ⟨s,c,rfl,rfl⟩ (.inl rfl) ?_
 simp only[go_sem]
 exact am (.inl rfl) [4] rfl trivial rfl
def XX(ds:List D)(v:AV)(ob:List Obj):Prop:=∃(s:Str) (c:UInt8),ds=[.str s,.str [c],.int .i64 0]/\v=.fn 66 [.ptr 1 0 0,.ptr 0 0 0,.ptr 2 0 0]/\ob=[.box [.dat (.str s)],.box [.dat (.str [c])],.box [.dat (.int .i64 0)]]
theorem uL:OkF Tryz.prog 36 (fk XX):=by
 refine ec Tryz.func36 rfl (by decide) ?_
 rintro ds v ob ⟨s,c,rfl,rfl,rfl⟩
 refine a6 (Γ:=tbl []) ae _ _ _ ?_
 simp only[go_sem,Tryz.ntmps36]
 exact gP (.inl rfl) [6] rfl rfl (fun _ h=>h)
def sqR(ds:List D)(v:AV)(ob:List Obj):Prop:=∃(s:Str) (c:UInt8),ds=[.str s,.str [c]]/\v=.fn 66 [.ptr 1 0 0,.ptr 0 0 0,.ptr 2 0 0]/\ob=[.box [.dat (.str s)],.box [.dat (.str [c])],.box [.dat (.int .i64 0)]]
abbrev Qw:List (Nat×a8):=[(36,fk XX)]
theorem EX:OkG Tryz.prog (tbl Qw):=ai uL ae
theorem wn:OkF Tryz.prog 16 (fk sqR):=by
 refine ec Tryz.func16 rfl (by decide) ?_
 rintro ds v ob ⟨s,c,rfl,rfl,rfl⟩
 refine a6 (Γ:=tbl Qw) EX _ _ _ ?_
 simp only[go_sem,Tryz.ntmps16]
 refine co XX (by simp) [.str s,.str [c],.int .i64 0] _ _ rfl rfl ⟨s,c,rfl,rfl,rfl⟩ ?_
 simp only[go_sem,AV.shift,Obj.shift,AV.shifts]
 exact gP (.inl rfl) [4] rfl rfl (fun _ h=>h)
def aJ(c:UInt8):Str->List Str
 | []=>[[]]
 | b :: t=>if b=c then [] :: aJ c t else match aJ c t with
  | []=>[[b]]
  | x :: r=>(b :: x) :: r
theorem cT(c b:UInt8)(t:Str):aJ c (b :: t)=if b=c then [] :: aJ c t else match aJ c t with
  | []=>[[b]]
  | x :: r=>(b :: x) :: r:=rfl
theorem p7(c:UInt8):∀s:Str,aJ c s≠[]
 | []=>by simp[aJ]
 | b :: t=>by
  unfold aJ
  split
  ·simp
  ·split <;> simp
theorem jL{c:UInt8}:∀{s:Str},mT s c<0->aJ c s=[s]
 | [],_=>rfl
 | b :: t,h=>by
  unfold mT Lib.indexByte at h
  have hge:=Lib.indexByte_ge t c
  split at h
  ·omega
  ·rename_i hb
   split at h
   ·rename_i h1
    have h1':Lib.indexByte t c=-1:=by simpa using h1
    have ih:=jL (c:=c) (s:=t) (by unfold mT;omega)
    have hb':b≠c:=by simpa using hb
    unfold aJ
    rw[if_neg hb',ih]
   ·rename_i h1
    have:Lib.indexByte t c≠-1:=by simpa using h1
    omega
theorem jA{c:UInt8}:∀{s:Str} {i:Nat},mT s c=i->aJ c s=s.take i :: aJ c (s.drop (i+1))
 | [],i,h=>by unfold mT Lib.indexByte at h;omega
 | b :: t,i,h=>by
  unfold mT Lib.indexByte at h
  have hge:=Lib.indexByte_ge t c
  split at h
  ·rename_i hb
   have hb':b=c:=by simpa using hb
   have:i=0:=by omega
   subst this
   rw[cT,if_pos hb']
   rfl
  ·rename_i hb
   have hb':b≠c:=by simpa using hb
   split at h
   ·omega
   ·rename_i h1
    have h2:Lib.indexByte t c≠-1:=by simpa using h1
    obtain⟨j,rfl⟩:∃j,i=j+1:=⟨i - 1,by omega⟩
    have ih:=jA (c:=c) (s:=t) (i:=j) (show Lib.indexByte t c=j by omega)
    rw[cT,if_neg hb',ih]
    rfl
def gh{ε:Type}(f:Str->ε->ε ⊕ List Obj):List Str->ε->ε ⊕ List Obj
 | [],E=>.inl E
 | p :: ps,E=>match f p E with
  | .inl E'=>gh f ps E'
  | .inr o=>.inr o
structure IterW (P:Program) (n:Nat) (c:UInt8) {ε:Type} (W:ε->Str->List Obj) (M:List Nat) (f:Str->ε->ε ⊕ List Obj) (J:List Str->ε->Prop):Prop where
 g0:∀E s,(W E s).getD n .dead=.box [.dat (.str s)]
 g1:∀E s,(W E s).getD (n+1) .dead=.box [.dat (.str [c])]
 g2:∀E s,(W E s).getD (n+2) .dead=.box [.dat (.int .i64 0)]
 s0:∀E s s',(W E s).set n (.box [.dat (.str s')])=W E s'
 nM:∀o∈M,o<n∨n+3<o
 step:∀E s p ps,J (p :: ps) E->∃r cs b own' mv,(W E s).getD (n+3) .dead=.lp r cs/\r.params.size=1/\xl P (n+3) r [.dat (.str p)] (W E s) b own' mv/\(∀o∈mv,o∈M) /\
  (match f p E with
   | .inl E'=>b=true/\own'=W E' s/\J ps E'
   | .inr O=>b=false/\own'.set n .dead=O)
def lV{ε:Type}(W:ε->Str->List Obj)(n:Nat):ε ⊕ List Obj->List Obj
 | .inl E=>(W E []).set n .dead
 | .inr O=>O
def Fi:a8:=fun args own v own' mv=>∃(n:Nat) (c:UInt8) (ε:Type) (W:ε->Str->List Obj) (M:List Nat) (f:Str->ε->ε ⊕ List Obj) (J:List Str->ε->Prop) (E:ε) (s:Str),IterW Tryz.prog n c W M f J /\
 args=[.yld (n+3),.ptr (n+1) 0 0,.ptr n 0 0,.ptr (n+2) 0 0]/\s.length<=9000000000000000000/\own=W E s/\J (aJ c s) E/\v=.tup []/\mv=M /\
 own'=lV W n (gh f (aJ c s) E)
theorem xE{d:Tmp}{K:S->Prop}{sl:List AV}{own own':List Obj}{n:Nat}{m kl:List Nat}{v:AV}:gb (some d) K ⟨sl,own,n,m⟩ v own' kl=K ⟨(killAll kl sl).set d v,own',n,bW n m kl⟩:=rfl
theorem lQ:∀(kl mv:List Nat) (n0 o:Nat),o∈bW n0 mv kl->o∈mv∨o∈kl
 | [],mv,n0,o,h=>.inl (by simpa [bW] using h)
 | k :: kl,mv,n0,o,h=>by
  simp only[bW]at h
  rcases lQ kl _ n0 o h with h1|h1
  ·split at h1
   ·split at h1
    ·exact .inl h1
    ·rcases List.mem_append.1 h1 with h2|h2
     ·exact .inl h2
     ·exact .inr (by simp at h2;simp[h2])
   ·exact .inl h1
  ·exact .inr (List.mem_cons_of_mem _ h1)
theorem mt:∀(kl:List Nat) (s:List AV),(∀a∈s,∀o∈kl,a.kill o=a)->killAll kl s=s
 | [],_,_=>rfl
 | o :: kl,s,h=>by
  simp only[killAll]
  have e:AV.kills o s=s:=by
   have:∀l:List AV,(∀a∈l,a.kill o=a)->AV.kills o l=l:=by
    intro l
    induction l with
    | nil=>intro _;rfl
    | cons a l ih=>intro hl;simp only[AV.kills];rw[hl a (by simp),ih (fun b hb=>hl b (by simp[hb]))]
   exact this s fun a ha=>h a ha o (by simp)
  rw[e]
  exact mt kl s fun a ha k hk=>h a ha k (by simp[hk])
theorem GL{ε:Type}{W:ε->Str->List Obj}{n:Nat}(s0:∀E s s',(W E s).set n (.box [.dat (.str s')])=W E s')(E:ε)(s s':Str):(W E s).set n .dead=(W E s').set n .dead:=by
 rw[← s0 E s' s,List.set_set]
def okA(n:Nat):AV->Bool
 | .top=>true
 | .dat _=>true
 | .yld m=>m == n+3
 | .ptr m _ _=>m == n || m == n+1 || m == n+2
 | _=>false
theorem yu{n:Nat}{kl:List Nat}(h:∀o∈kl,o<n∨n+3<o){sl:List AV}(hs:sl.all (okA n)=true):killAll kl sl=sl:=by
 refine mt kl sl fun a ha o ho=>?_
 have h1:=List.all_eq_true.1 hs a ha
 have h2:=h o ho
 cases a <;> simp only[okA,Bool.or_eq_true,beq_iff_eq,Bool.false_eq_true]at h1 <;> simp only[AV.kill]
 ·rw[if_neg];omega
 ·rw[if_neg];omega
abbrev KE:List (Nat×a8):=[(68,au tL)]
theorem mW:OkG Tryz.prog (tbl KE):=ai nX ae
theorem K4:OkF Tryz.prog 66 Fi:=by
 refine qu Tryz.func66 rfl (by decide) ?_
 rintro args own v own' mv ⟨n,c,ε,W,M,f,J,E,s,hW,rfl,hsl,rfl,hJ,rfl,rfl,rfl⟩
 obtain⟨g0,g1,g2,s0,nM,step⟩:=hW
 generalize hR:gh f (aJ c s) E=R
 generalize hN:(W E s).length=N
 refine al [8,10] (Γ:=tbl KE) mW _ _ _ ?_
 simp only[go_sem,Tryz.ntmps66,g1,List.length_cons,List.length_nil]
 have M1:∀kl:List Nat,(∀o∈kl,o∈mv)->∀o∈kl,o<n∨n+3<o:=fun kl h o ho=>nM o (h o ho)
 refine ap (fun p:ε×Str=>⟨an 52 [(0,.yld (n+3)),(1,.ptr (n+1) 0 0),(2,.ptr n 0 0),(3,.ptr (n+2) 0 0)],W p.1 p.2,N,mv⟩)
  (fun p=>p.2.length<=9000000000000000000/\J (aJ c p.2) p.1/\gh f (aJ c p.2) p.1=R) (fun p=>p.2.length) (E,s) ⟨hsl,hJ,hR⟩ ?_ ?_
 ·exact Le.trans (qx (by simp)) (a7 (by simp only[go_sem]))
 rintro ⟨E,s⟩ ⟨hsl,hJ,hR⟩
 simp only at hsl hJ hR ⊢
 refine al [8,10] (Γ:=tbl KE) mW _ _ _ ?_
 simp only[go_sem,g0,g1,g2]
 refine ah tL (by simp) [.str s,.str [c]] _ rfl ⟨s,c,rfl,rfl⟩ (.inl rfl) ?_
 have hi:=Dj s c
 generalize Jw:mT s c=i at hi
 by_cases hneg:i<0
 ·have hsp:=jL (c:=c) (s:=s) (by rw[Jw];exact hneg)
  rw[hsp]at hJ hR
  obtain⟨r,cs,b,ow,kl,y1,y2,y3,y4,y5⟩:=step E s s [] hJ
  have hk1:=M1 kl y4
  simp only[go_sem,hneg]
  refine p5 mW ?_
  refine .inr ?_
  simp only[go_sem]
  refine .inr ?_
  simp only[go_sem,g0]
  refine .inl ?_
  simp only[go_sem]
  refine⟨r,cs,b,ow,kl,y1,y2,y3,?_⟩
  rw[xE,yu hk1 (by simp[okA])]
  have Od:∀o∈bW N mv kl,o∈mv:=fun o ho=>(lQ _ _ _ _ ho).elim id (y4 o)
  generalize bW N mv kl=mv2 at Od
  simp only[go_sem]
  refine aH (mv':=mv) (.inr rfl) [] rfl (fun _ h=>h) ?_
  simp only[go_sem]
  have S3:ow.set n .dead=lV W n R:=by
   rw[← hR]
   simp only[gh]
   cases hf:f s E with
   | inl E' =>
    rw[hf]at y5
    obtain⟨_,rfl,_⟩:=y5
    exact GL s0 _ _ _
   | inr O =>
    rw[hf]at y5
    exact y5.2
  rw[← S3]
  exact Le.trans (jI n) (qx Od)
 ·obtain⟨j,rfl⟩:∃j:Nat,i=j:=⟨i.toNat,by omega⟩
  have hsp:=jA (c:=c) (s:=s) Jw
  rw[hsp]at hJ hR
  obtain⟨r,cs,b,ow,kl,y1,y2,y3,y4,y5⟩:=step E s _ _ hJ
  have hk1:=M1 kl y4
  have hj0:(0:Int)<=(j:Int):=by omega
  have hj1:(j:Int)<=s.length:=by omega
  simp only[go_sem,hneg,g0,g1,g2,Int.add_zero,Int.sub_zero,List.drop_zero,hj0,hj1]
  refine⟨ac.2 (by omega),?_⟩
  refine p5 mW ?_
  refine .inr ?_
  simp only[go_sem]
  refine .inr ?_
  simp only[go_sem,g0]
  refine .inl ?_
  simp only[go_sem]
  refine⟨r,cs,b,ow,kl,y1,y2,y3,?_⟩
  rw[xE,yu hk1 (by simp[okA])]
  have Od:∀o∈bW N mv kl,o∈mv:=fun o ho=>(lQ _ _ _ _ ho).elim id (y4 o)
  generalize bW N mv kl=mv2 at Od
  refine .inr ?_
  cases hf:f (s.take j) E with
  | inr O =>
   rw[hf]at y5
   obtain⟨rfl,y6⟩:=y5
   simp only[go_sem]
   refine aH (mv':=mv) (.inl rfl) [] rfl (fun _ h=>h) ?_
   simp only[go_sem]
   have S3:ow.set n .dead=lV W n R:=by
    rw[← hR]
    simp only[gh,hf]
    exact y6
   rw[← S3]
   exact Le.trans (jI n) (qx Od)
  | inl E' =>
   rw[hf]at y5
   obtain⟨rfl,rfl,y6⟩:=y5
   have e1:((j:Int)+1).toNat=j+1:=by omega
   have e2:((s.length:Int) - ((j:Int)+1)).toNat=s.length - (j+1):=by omega
   have e3:(s.drop (j+1)).take (s.length - (j+1))=s.drop (j+1):=List.take_of_length_le (by rw[List.length_drop];exact Nat.le_refl _)
   have abN:j<s.length:=by
    rcases rE c s with h|⟨_,h⟩
    ·rw[Jw]at h;omega
    ·rw[Jw]at h;omega
   simp only[go_sem,g0,g1,List.length_cons,List.length_nil,e1,e2,e3,s0]
   refine⟨ac.2 (by omega),by omega,by omega,Int.le_refl _,(E',s.drop (j+1)),⟨by simp only[List.length_drop];omega,y6,?_⟩,by simp only[List.length_drop];omega,?_⟩
   ·rw[← hR];simp only[gh,hf]
   ·exact Le.trans (qx Od) (a7 (by simp only[go_sem]))
def aU(s:Str):List Str:=(aJ 32 s).filter fun w=>!decide (w=[])
theorem LU(b c:UInt8)(k:Int)(hc:(c.toNat:Int)=k):((b.toNat:Int)=k)=(b=c):=by
 apply propext
 constructor
 ·intro h
  exact UInt8.toNat_inj.1 (by omega)
 ·rintro rfl;exact hc
def NS(u:Nat):Str:=if u<10 then [UInt8.ofNat (48+u)] else if u<100 then [UInt8.ofNat (48+u / 10),UInt8.ofNat (48+u % 10)] else [UInt8.ofNat (48+u / 100),UInt8.ofNat (48+u / 10 % 10),UInt8.ofNat (48+u % 10)]
theorem aaW{u:Nat}(h:u<1000):Lib.decDigits u=NS u:=by
 unfold NS
 by_cases h1:u<10
 ·rw[if_pos h1,Lib.decDigits_one h1]
 ·rw[if_neg h1]
  by_cases h2:u<100
  ·rw[if_pos h2,Lib.decDigits_two h1 h2]
  ·rw[if_neg h2,Lib.decDigits,dif_neg h1,Lib.decDigits_two (by omega) (by omega),Nat.div_div_eq_div_mul]
   rfl
def QA(u:Nat):Bool:=decide (ct (NS u)=(u:Int)) && decide (1<=(NS u).length) && decide ((NS u).length<=3) && (NS u).all fun b=>decide (48<=b.toNat) && decide (b.toNat<=57)
theorem LZ:∀u:Fin 1000,QA u.val=true:=by decide +kernel
structure NumOk (n:Int) (s:Str):Prop where
 val:ct s=n
 l1:1<=s.length
 l3:s.length<=3
 dig:∀b∈s,48<=b.toNat/\b.toNat<=57
theorem pE{n:Int}(h0:0<=n)(h1:n<=999):NumOk n (Lib.itoa n):=by
 obtain⟨u,rfl⟩:∃u:Nat,n=u:=⟨n.toNat,by omega⟩
 rw[Lib.itoa_nonneg,aaW (by omega)]
 have h:=LZ ⟨u,by omega⟩
 simp only[QA,Bool.and_eq_true,decide_eq_true_eq,List.all_eq_true]at h
 exact⟨h.1.1.1,h.1.1.2,h.1.2,h.2⟩
def Kd(s:Str):Prop:=s≠[]/\∀b∈s,b≠32/\b≠10
theorem NumOk.word{n:Int}{s:Str}(h:NumOk n s):Kd s:=by
 refine⟨fun e=>by have:=h.l1;rw[e]at this;simp at this,fun b hb=>?_⟩
 have:=h.dig b hb
 constructor
 ·rintro rfl;simp at this
 ·rintro rfl;simp at this
instance (s:Str):Decidable (Kd s):=inferInstanceAs (Decidable (_/\_))
theorem lx(c:UInt8):∀(s t:Str),aJ c (s++c :: t)=aJ c s++aJ c t
 | [],t=>by rw[List.nil_append,cT,if_pos rfl];rfl
 | b :: s,t=>by
  have ih:=lx c s t
  rw[List.cons_append,cT,cT]
  by_cases h:b=c
  ·rw[if_pos h,if_pos h,ih];rfl
  ·rw[if_neg h,if_neg h,ih]
   cases hs:aJ c s with
   | nil=>exact absurd hs (p7 c s)
   | cons x r=>rfl
theorem fT{c:UInt8}:∀s:Str,(∀b∈s,b≠c)->aJ c s=[s]
 | [],_=>rfl
 | b :: s,h=>by
  rw[cT,if_neg (h b (by simp)),fT s fun b hb=>h b (by simp[hb])]
theorem rb:aU []=[]:=rfl
theorem cd(s t:Str):aU (s++32 :: t)=aU s++aU t:=by
 unfold aU
 rw[lx,List.filter_append]
theorem bY{s:Str}(h:Kd s):aU s=[s]:=by
 unfold aU
 rw[fT s fun b hb=>(h.2 b hb).1]
 simp[h.1]
def bm(w:Str):Nat :=
 if w=[112,111,111,108] then 1 else if w=[109,117,116,101,120] then 2 else if w=[99,108,97,115,115] then 3 else if w=[115,101,114,118,101,114] then 4
 else if w=[116,97,107,101] then 11 else if w=[103,105,118,101] then 12 else if w=[108,111,99,107] then 13 else if w=[117,110,108,111,99,107] then 14 else if w=[99,97,108,108] then 15 else 0
inductive PL where
 | skip
 | bad
 | decl (k:Nat) (name:Str) (a b:Int)
 | use (k:Nat) (cnt:Int) (deep:Bool) (name:Str)
deriving DecidableEq
def d6(w:List Str):Bool:=decide (w=[]) || decide ((w.getD 0 []).getD 0 0=35)
def ij(w:List Str):Bool:=decide (w.length=4) && decide (w.getD 3 []=[100,101,101,112])
def cw(k:Nat)(w:List Str):Nat:=if k=1 then 4 else if k=3∨k=4∨k=12 then 3 else if k=11 then (if ij w then 4 else 3) else 2
def b7(w:List Str)(k:Nat):Bool :=
 !decide (k=0) && decide (w.length=cw k w) && gg (w.getD 1 []) && (decide (cw k w=2) || decide (0<=ct (w.getD 2 []))) && (!decide (k=1) || decide (0<=ct (w.getD 3 [])))
def jl(w:List Str)(k:Nat):PL :=
 if b7 w k then
  (if k<10 then .decl k (w.getD 1 []) (if k=2 then 0 else ct (w.getD 2 [])) (if k=1 then ct (w.getD 3 []) else 0)
  else .use (k - 10) (if k=11∨k=12 then ct (w.getD 2 []) else 0) (decide (3<w.length)) (w.getD 1 []))
 else .bad
def eP(w:List Str):PL:=if d6 w then .skip else jl w (bm (w.getD 0 []))
def ru(s:PSys)(k:Nat)(x:Str)(a b:Int):PSys :=
 if k=1 then ⟨s.pools++[⟨x,a,b⟩],s.locks,s.classes⟩ else if k=2 then ⟨s.pools,s.locks++[x],s.classes⟩ else ⟨s.pools,s.locks,s.classes++[⟨x,a,decide (k=4),[]⟩]⟩
structure US where
 cls:Nat
 line:Nat
 name:Str
 kind:Nat
 cnt:Int
 deep:Bool
deriving DecidableEq,Inhabited
def fB:List PL->Nat->PSys->List US->(Int×Int) ⊕ (PSys×List US)
 | [],_,s,us=>.inr (s,us)
 | .skip :: r,i,s,us=>fB r (i+1) s us
 | .bad :: _,i,_,_=>.inl ((i+1:Nat),4)
 | .decl k x a b :: r,i,s,us=>if x∈aB s then .inl ((i+1:Nat),5) else fB r (i+1) (ru s k x a b) us
 | .use k c d x :: r,i,s,us=>if s.classes.length=0 then .inl ((i+1:Nat),4) else fB r (i+1) s (us++[⟨s.classes.length - 1,i+1,x,k,c,d⟩])
def eM(s:PSys)(k:Nat)(x:Str):Int:=if k=1∨k=2 then dF x 0 (s.pools.map (·.name)) else if k=5 then dF x 0 (s.classes.map (·.name)) else dF x 0 s.locks
def Xt(c:PCls)(x:PStep):PCls:=⟨c.name,c.workers,c.server,c.steps++[x]⟩
def vh(s:PSys)(c:Nat)(x:PStep):PSys:=⟨s.pools,s.locks,s.classes.set c (Xt (s.classes.getD c default) x)⟩
def US.step(u:US)(n:Int):PStep:=⟨u.kind,n,u.cnt,u.deep⟩
def rr:List US->PSys->(Int×Int) ⊕ PSys
 | [],s=>.inr s
 | u :: r,s=>if eM s u.kind u.name<0 then .inl (u.line,5) else rr r (vh s u.cls (u.step (eM s u.kind u.name)))
def sys0:PSys:=⟨[],[],[]⟩
def zq(q:(Int×Int) ⊕ PSys):PSys×Int×Int:=match q with
 | .inl ne=>(sys0,ne.1,ne.2)
 | .inr s=>if aT s≠0 then (sys0,0,aT s) else (s,0,0)
def EV(q:(Int×Int) ⊕ (PSys×List US)):(Int×Int) ⊕ PSys:=match q with
 | .inl ne=>.inl ne
 | .inr su=>rr su.2 su.1
def xI(ls:List PL):PSys×Int×Int:=zq (EV (fB ls 0 sys0 []))
def lF(lines:Str->List Str)(t:Str):List PL:=(lines t).map fun l=>eP (aU l)
def pn(lines:Str->List Str)(t:Str):PSys×Int×Int:=if 4000<t.length then (sys0,0,9) else xI (lF lines t)
def dq:List PL->Nat->List Str->Nat->Int×Int
 | [],_,_,_=>(0,0)
 | .skip :: r,i,dn,c=>dq r (i+1) dn c
 | .bad :: _,i,_,_=>((i+1:Nat),4)
 | .decl k x _ _ :: r,i,dn,c=>if x∈dn then ((i+1:Nat),5) else dq r (i+1) (dn++[x]) (if 3<=k then c+1 else c)
 | .use _ _ _ _ :: r,i,dn,c=>if c=0 then ((i+1:Nat),4) else dq r (i+1) dn c
def fm:List PL->PSys->PSys
 | [],s=>s
 | .decl k x a b :: r,s=>fm r (ru s k x a b)
 | .skip :: r,s=>fm r s
 | .bad :: r,s=>fm r s
 | .use _ _ _ _ :: r,s=>fm r s
def df:List PL->Nat->Nat->PSys->(Int×Int) ⊕ PSys
 | [],_,_,s=>.inr s
 | .skip :: r,i,c,s=>df r (i+1) c s
 | .bad :: r,i,c,s=>df r (i+1) c s
 | .decl k _ _ _ :: r,i,c,s=>df r (i+1) (if 3<=k then c+1 else c) s
 | .use k n d x :: r,i,c,s=>if eM s k x<0 then .inl ((i+1:Nat),5) else df r (i+1) c (vh s (c - 1) ⟨k,eM s k x,n,d⟩)
def oh(ls:List PL):PSys×Int×Int:=if (dq ls 0 [] 0).2≠0 then (sys0,(dq ls 0 [] 0).1,(dq ls 0 [] 0).2) else zq (df ls 0 0 (fm ls sys0))
def nW:List PL->Nat->Nat->List US
 | [],_,_=>[]
 | .skip :: r,i,c=>nW r (i+1) c
 | .bad :: r,i,c=>nW r (i+1) c
 | .decl k _ _ _ :: r,i,c=>nW r (i+1) (if 3<=k then c+1 else c)
 | .use k n d x :: r,i,c=>⟨c - 1,i+1,x,k,n,d⟩ :: nW r (i+1) c
theorem gK:∀(ls:List PL) (i c:Nat) (s:PSys),rr (nW ls i c) s=df ls i c s
 | [],_,_,_=>rfl
 | .skip :: r,i,c,s=>gK r (i+1) c s
 | .bad :: r,i,c,s=>gK r (i+1) c s
 | .decl k _ _ _ :: r,i,c,s=>gK r (i+1) _ s
 | .use k n d x :: r,i,c,s=>by
  simp only[nW,rr,df,US.step]
  split
  ·rfl
  ·exact gK r (i+1) c _
def xu:PL->Prop
 | .decl k _ _ _=>1<=k/\k<=4
 | _=>True
theorem GM{s:PSys}{k:Nat}{x:Str}{a b:Int}(h:1<=k/\k<=4):(ru s k x a b).classes.length=if 3<=k then s.classes.length+1 else s.classes.length:=by
 unfold ru
 by_cases h1:k=1
 ·subst h1;simp
 by_cases h2:k=2
 ·subst h2;simp
 ·rw[if_neg h1,if_neg h2,if_pos (by omega)];simp
theorem zx{s:PSys}{k:Nat}{x y:Str}{a b:Int}:y∈aB (ru s k x a b)↔y∈aB s∨y=x:=by
 unfold ru aB
 by_cases h1:k=1
 ·subst h1;simp;exact⟨fun h=>by rcases h with h|h|h|h <;> simp[h],fun h=>by rcases h with(h|h|h)|h <;> simp[h]⟩
 by_cases h2:k=2
 ·subst h2;simp;exact⟨fun h=>by rcases h with h|h|h|h <;> simp[h],fun h=>by rcases h with(h|h|h)|h <;> simp[h]⟩
 ·rw[if_neg h1,if_neg h2];simp;exact⟨fun h=>by rcases h with h|h|h|h <;> simp[h],fun h=>by rcases h with(h|h|h)|h <;> simp[h]⟩
def orE{β:Type}(q:Int×Int)(z:β):(Int×Int) ⊕ β:=if q.2=0 then .inr z else .inl q
theorem ji:∀(ls:List PL) (i:Nat) (s:PSys) (us:List US) (dn:List Str),(∀l∈ls,xu l)->(∀y,y∈aB s↔y∈dn) ->
  fB ls i s us=orE (dq ls i dn s.classes.length) (fm ls s,us++nW ls i s.classes.length)
 | [],i,s,us,dn,_,_=>by simp[fB,dq,fm,nW,orE]
 | .skip :: r,i,s,us,dn,hk,hn=>by
  simp only[fB,dq,fm,nW]
  exact ji r (i+1) s us dn (fun l h=>hk l (by simp[h])) hn
 | .bad :: r,i,s,us,dn,hk,hn=>by simp[fB,dq,orE]
 | .decl k x a b :: r,i,s,us,dn,hk,hn=>by
  have hk1:1<=k/\k<=4:=hk (.decl k x a b) (by simp)
  simp only[fB,dq,fm,nW]
  by_cases hx:x∈dn
  ·rw[if_pos ((hn x).2 hx),if_pos hx];simp[orE]
  ·rw[if_neg (fun h=>hx ((hn x).1 h)),if_neg hx,← GM (s:=s) (x:=x) (a:=a) (b:=b) hk1]
   exact ji r (i+1) _ us _ (fun l h=>hk l (by simp[h])) fun y=>by rw[zx,hn y];simp
 | .use k n d x :: r,i,s,us,dn,hk,hn=>by
  simp only[fB,dq,fm,nW]
  by_cases hc:s.classes.length=0
  ·rw[if_pos hc,if_pos hc];simp[orE]
  ·rw[if_neg hc,if_neg hc,ji r (i+1) s _ dn (fun l h=>hk l (by simp[h])) hn]
   simp
theorem BJ(ls:List PL)(hk:∀l∈ls,xu l):xI ls=oh ls:=by
 unfold xI oh
 rw[ji ls 0 sys0 [] [] hk (fun y=>by simp[sys0,aB])]
 have e:sys0.classes.length=0:=rfl
 rw[e]
 unfold orE
 by_cases h:(dq ls 0 [] 0).2=0
 ·rw[if_pos h,if_neg (fun h'=>h' h)]
  simp only[EV,List.nil_append,gK]
 ·rw[if_neg h,if_pos h];rfl
theorem rx(w:Str):bm w<=4∨(11<=bm w/\bm w<=15):=by
 unfold bm
 repeat' split
 all_goals omega
theorem Ha{w:List Str}{k:Nat}(h:k<=4∨11<=k):xu (jl w k):=by
 unfold jl
 split
 ·rename_i hf
  split
  ·have:¬k=0:=by
    unfold b7 at hf
    simp only[Bool.and_eq_true,Bool.not_eq_true',decide_eq_false_iff_not]at hf
    exact hf.1.1.1.1
   exact⟨by omega,by omega⟩
  ·trivial
 ·trivial
theorem FO(w:List Str):xu (eP w):=by
 unfold eP
 split
 ·trivial
 ·exact Ha ((rx _).imp id fun h=>h.1)
theorem A1(lines:Str->List Str)(t:Str):pn lines t=if 4000<t.length then (sys0,0,9) else oh (lF lines t):=by
 unfold pn
 rw[BJ _ (fun l hl=>by
  unfold lF at hl
  obtain⟨x,_,rfl⟩:=List.mem_map.1 hl
  exact FO _)]
def bU(p:PPool):Str:=[112,111,111,108,32]++p.name++32 :: (Lib.itoa p.size++32 :: Lib.itoa p.res)
def da(x:Str):Str:=[109,117,116,101,120,32]++x
def tT(c:PCls):Str:=(if c.server then [115,101,114,118,101,114,32] else [99,108,97,115,115,32])++c.name++32 :: Lib.itoa c.workers
def bt(s:PSys)(x:PStep):Str:=if x.kind=1∨x.kind=2 then (s.pools.getD x.on.toNat default).name else if x.kind=3∨x.kind=4 then s.locks.getD x.on.toNat [] else (s.classes.getD x.on.toNat default).name
def c6(s:PSys)(x:PStep):Str :=
 if x.kind=1 then [116,97,107,101,32]++bt s x++32 :: Lib.itoa x.cnt++(if x.deep then [32,100,101,101,112] else [])
 else if x.kind=2 then [103,105,118,101,32]++bt s x++32 :: Lib.itoa x.cnt
 else if x.kind=3 then [108,111,99,107,32]++bt s x
 else if x.kind=4 then [117,110,108,111,99,107,32]++bt s x
 else [99,97,108,108,32]++bt s x
def jF(s:PSys)(c:PCls):List Str:=tT c :: c.steps.map fun x=>32 :: 32 :: c6 s x
def sk(s:PSys):List Str:=s.pools.map bU++s.locks.map da++s.classes.flatMap (jF s)
def c7(l:List Str):Str:=l.flatMap fun x=>x++[10]
def pX(s:PSys):Str:=c7 (sk s)
theorem BV(a b:List Str):c7 (a++b)=c7 a++c7 b:=by unfold c7;rw[List.flatMap_append]
theorem qv(a:Str)(b:List Str):c7 (a :: b)=a++10 :: c7 b:=by unfold c7;rw[List.flatMap_cons];simp
theorem oz:∀(l:List Str),(∀x∈l,∀b∈x,b≠10)->aJ 10 (c7 l)=l++[[]]
 | [],_=>rfl
 | x :: l,h=>by
  rw[qv,lx,fT x (h x (by simp)),oz l fun y hy=>h y (by simp[hy])]
  rfl
theorem gy{s:Str}(h:gg s=true):Kd s:=by
 cases s with
 | nil=>cases h
 | cons b r =>
  simp only[gg,Bool.and_eq_true,decide_eq_true_eq,List.all_eq_true]at h
  refine⟨by simp,fun x hx=>?_⟩
  have hn:nmc x=true:=by
   rcases List.mem_cons.1 hx with rfl|hx
   ·unfold nmc;rw[h.1.2];rfl
   ·exact h.2 x hx
  simp only[nmc,Kx,DC,Bool.or_eq_true,Bool.and_eq_true,decide_eq_true_eq]at hn
  constructor
  ·rintro rfl;revert hn;decide
  ·rintro rfl;revert hn;decide
theorem rl{s:Str}(h:gg s=true):1<=s.length/\s.length<=8:=by
 cases s with
 | nil=>cases h
 | cons b r =>
  simp only[gg,Bool.and_eq_true,decide_eq_true_eq]at h
  simp only[List.length_cons];omega
theorem cG{a b:Str}(ha:Kd a)(hb:Kd b):aU (a++32 :: b)=[a,b]:=by rw[cd,bY ha,bY hb];rfl
def yf(s:PSys)(x:PStep):PL:=.use x.kind.toNat x.cnt x.deep (bt s x)
def yj(s:PSys)(c:PCls):List PL:=.decl (if c.server then 4 else 3) c.name c.workers 0 :: c.steps.map (yf s)
def pR(s:PSys):List PL:=s.pools.map (fun p=>.decl 1 p.name p.size p.res)++s.locks.map (fun x=>.decl 2 x 0 0)++s.classes.flatMap (yj s)
theorem zk{p:PPool}(hn:gg p.name=true)(h1:0<=p.size)(h2:p.size<=999)(h3:0<=p.res)(h4:p.res<=999):eP (aU (bU p))=.decl 1 p.name p.size p.res:=by
 have n1:=pE h1 h2
 have n2:=pE h3 h4
 have e:aU (bU p)=[[112,111,111,108],p.name,Lib.itoa p.size,Lib.itoa p.res]:=by
  have:bU p=[112,111,111,108]++32 :: (p.name++32 :: (Lib.itoa p.size++32 :: Lib.itoa p.res)):=by simp[bU]
  rw[this,cd,bY (by decide),cd,bY (gy hn),cG n1.word n2.word]
  rfl
 have hk:bm [112,111,111,108]=1:=rfl
 rw[e]
 simp[eP,d6,jl,b7,cw,hk,hn,n1.val,n2.val,h1,h3]
theorem zj{x:Str}(hn:gg x=true):eP (aU (da x))=.decl 2 x 0 0:=by
 have e:aU (da x)=[[109,117,116,101,120],x]:=cG (a:=[109,117,116,101,120]) (by decide) (gy hn)
 have hk:bm [109,117,116,101,120]=2:=rfl
 rw[e]
 simp[eP,d6,jl,b7,cw,hk,hn]
theorem Dq{c:PCls}(hn:gg c.name=true)(h1:0<=c.workers)(h2:c.workers<=999):eP (aU (tT c))=.decl (if c.server then 4 else 3) c.name c.workers 0:=by
 have n1:=pE h1 h2
 unfold tT
 cases c.server with
 | true =>
  have e:aU ([115,101,114,118,101,114,32]++c.name++32 :: Lib.itoa c.workers)=[[115,101,114,118,101,114],c.name,Lib.itoa c.workers]:=by
   have:[115,101,114,118,101,114,32]++c.name++32 :: Lib.itoa c.workers=[115,101,114,118,101,114]++32 :: (c.name++32 :: Lib.itoa c.workers):=by simp
   rw[this,cd,bY (by decide),cG (gy hn) n1.word];rfl
  have hk:bm [115,101,114,118,101,114]=4:=rfl
  simp only[if_true]
  rw[e]
  simp[eP,d6,jl,b7,cw,hk,hn,n1.val,h1]
 | false =>
  have e:aU ([99,108,97,115,115,32]++c.name++32 :: Lib.itoa c.workers)=[[99,108,97,115,115],c.name,Lib.itoa c.workers]:=by
   have:[99,108,97,115,115,32]++c.name++32 :: Lib.itoa c.workers=[99,108,97,115,115]++32 :: (c.name++32 :: Lib.itoa c.workers):=by simp
   rw[this,cd,bY (by decide),cG (gy hn) n1.word];rfl
  have hk:bm [99,108,97,115,115]=3:=rfl
  simp only[Bool.false_eq_true,if_false]
  rw[e]
  simp[eP,d6,jl,b7,cw,hk,hn,n1.val,h1]
structure StFit (s:PSys) (x:PStep):Prop where
 k:1<=x.kind/\x.kind<=5
 nm:gg (bt s x)=true
 c0:0<=x.cnt
 c1:x.cnt<=999
 cz:¬(x.kind=1∨x.kind=2)->x.cnt=0
 dp:x.kind≠1->x.deep=false
theorem G5(x:Str):aU (32 :: 32 :: x)=aU x:=by
 have h1:aU (32 :: x)=aU x:=by
  have:=cd [] x
  rw[rb]at this
  simpa using this
 have h2:=cd [] (32 :: x)
 rw[rb]at h2
 simpa [h1] using h2
theorem zo{s:PSys}{x:PStep}(h:StFit s x):eP (aU (32 :: 32 :: c6 s x))=yf s x:=by
 rw[G5]
 have hw:=gy h.nm
 have n1:=pE h.c0 h.c1
 obtain⟨k0,k1⟩:=h.k
 have YM:x.kind=1∨x.kind=2∨x.kind=3∨x.kind=4∨x.kind=5:=by omega
 rcases YM with hk|hk|hk|hk|hk
 ·have hks:bm [116,97,107,101]=11:=rfl
  have e1:c6 s x=[116,97,107,101,32]++bt s x++32 :: Lib.itoa x.cnt++(if x.deep then [32,100,101,101,112] else []):=by unfold c6;rw[if_pos hk]
  cases hd:x.deep with
  | true =>
   have e:aU (c6 s x)=[[116,97,107,101],bt s x,Lib.itoa x.cnt,[100,101,101,112]]:=by
    have:c6 s x=[116,97,107,101]++32 :: (bt s x++32 :: (Lib.itoa x.cnt++32 :: [100,101,101,112])):=by rw[e1,hd];simp
    rw[this,cd,bY (by decide),cd,bY hw,cG n1.word (by decide)];rfl
   rw[e]
   simp[eP,d6,jl,b7,cw,ij,hks,h.nm,n1.val,h.c0,yf,hk,hd]
  | false =>
   have e:aU (c6 s x)=[[116,97,107,101],bt s x,Lib.itoa x.cnt]:=by
    have:c6 s x=[116,97,107,101]++32 :: (bt s x++32 :: Lib.itoa x.cnt):=by rw[e1,hd];simp
    rw[this,cd,bY (by decide),cG hw n1.word];rfl
   rw[e]
   simp[eP,d6,jl,b7,cw,ij,hks,h.nm,n1.val,h.c0,yf,hk,hd]
 ·have hks:bm [103,105,118,101]=12:=rfl
  have e:aU (c6 s x)=[[103,105,118,101],bt s x,Lib.itoa x.cnt]:=by
   have:c6 s x=[103,105,118,101]++32 :: (bt s x++32 :: Lib.itoa x.cnt):=by unfold c6;rw[if_neg (by omega),if_pos hk];simp
   rw[this,cd,bY (by decide),cG hw n1.word];rfl
  have hd:=h.dp (by omega)
  rw[e]
  simp[eP,d6,jl,b7,cw,ij,hks,h.nm,n1.val,h.c0,yf,hk,hd]
 ·have hks:bm [108,111,99,107]=13:=rfl
  have e:aU (c6 s x)=[[108,111,99,107],bt s x]:=by
   have:c6 s x=[108,111,99,107]++32 :: bt s x:=by unfold c6;rw[if_neg (by omega),if_neg (by omega),if_pos hk];simp
   rw[this,cG (by decide) hw]
  have hd:=h.dp (by omega)
  have hc:=h.cz (by omega)
  rw[e]
  simp[eP,d6,jl,b7,cw,ij,hks,h.nm,yf,hk,hd,hc]
 ·have hks:bm [117,110,108,111,99,107]=14:=rfl
  have e:aU (c6 s x)=[[117,110,108,111,99,107],bt s x]:=by
   have:c6 s x=[117,110,108,111,99,107]++32 :: bt s x:=by unfold c6;rw[if_neg (by omega),if_neg (by omega),if_neg (by omega),if_pos hk];simp
   rw[this,cG (by decide) hw]
  have hd:=h.dp (by omega)
  have hc:=h.cz (by omega)
  rw[e]
  simp[eP,d6,jl,b7,cw,ij,hks,h.nm,yf,hk,hd,hc]
 ·have hks:bm [99,97,108,108]=15:=rfl
  have e:aU (c6 s x)=[[99,97,108,108],bt s x]:=by
   have:c6 s x=[99,97,108,108]++32 :: bt s x:=by unfold c6;rw[if_neg (by omega),if_neg (by omega),if_neg (by omega),if_neg (by omega)];simp
   rw[this,cG (by decide) hw]
  have hd:=h.dp (by omega)
  have hc:=h.cz (by omega)
  rw[e]
  simp[eP,d6,jl,b7,cw,ij,hks,h.nm,yf,hk,hd,hc]
end Go.AM

