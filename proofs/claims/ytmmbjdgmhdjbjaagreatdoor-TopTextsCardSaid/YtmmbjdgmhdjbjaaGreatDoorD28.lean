/- Own work over the model of the kit. -/
import Derived.Test.YtmmbjdgmhdjbjaaGreatDoorD26
import Derived.Test.YtmmbjdgmhdjbjaaGreatDoorD22
set_option linter.unnecessarySimpa false
set_option linter.unusedSimpArgs false
set_option linter.unusedVariables false
set_option maxHeartbeats 8000000
set_option maxRecDepth 8000
namespace Go.AM
open Go Go.Proofs
theorem zP:OkF Tryz.prog 7 (au (yA (aJ 10))):=by
 refine az Tryz.func7 rfl (by decide) ?_
 rintro ds v ⟨s,rfl,hs,rfl⟩
 refine al [1,5,25,34] (Γ:=tbl fz) bc _ _ _ ?_
 unfold pn
 simp only[go_sem,Tryz.ntmps7]
 refine a6 (Γ:=tbl fz) bc _ _ _ ?_
 by_cases hl:4000<s.length
 ·have hl':(4000:Int)<(s.length:Int):=by omega
  rw[if_pos hl]
  simp only[go_sem,hl',decide_true]
  refine aH (mv':=[]) (.inl rfl) [.cell 2 26,.cell 3 3,.cell 4 3] rfl (fun _ h=>h) ?_
  simp only[go_sem]
  exact Le.trans (kG (some 3) none (some 4)) (bp (by rfl) (by simp only[AV.under,AV.unders,and_self]))
 have hl':¬(4000:Int)<(s.length:Int):=by omega
 rw[if_neg hl]
 simp only[go_sem,hl',decide_false]
 refine av (d9 3 0 (some 3) rfl rfl (Nat.zero_le _)) ?_
 refine av (d9 3 1 none rfl rfl (Nat.zero_le _)) ?_
 refine av (d9 3 2 (some 4) rfl rfl (Nat.zero_le _)) ?_
 refine av (d9 3 3 (some 7) rfl rfl (Nat.zero_le _)) ?_
 simp only[go_sem]
 refine av (IG 7 (k:=4) (M:=[]) (by decide) (fun r h=>by cases h) rfl) ?_
 simp only[go_sem,List.flatten_nil,List.map_nil]
 refine a6 (Γ:=tbl fz) bc _ _ _ ?_
 simp only[go_sem]
 refine co sqR (aI 0 rfl) [.str s,.str [10]] _ _ rfl rfl ⟨s,10,rfl,rfl,rfl⟩ ?_
 simp only[go_sem,AV.shift,Obj.shift,AV.shifts]
 obtain⟨aaw,hsl2⟩:=lW 10 s
 generalize hR:fB ((aJ 10 s).map NU) 0 sys0 []=R
 refine av (a7 (s':=an 104 [(2,.ptr 0 0 0),(3,.ptr 1 0 0),(4,.ptr 2 0 0),(5,.ptr 3 0 0),(6,.ptr 4 0 0),(19,.fn 66 [.ptr 10 0 0,.ptr 9 0 0,.ptr 11 0 0])]) (by simp only[go_sem])) ?_
 refine uk bc (aI 1 rfl) 9 10 s kr (0,sys0,[]) [5,6,7,8] xY (PJ41 R) rfl (by omega) rfl (fun E=>⟨rfl,vP _ (by decide) E⟩) (fun kl hk=>?_) (by decide) ⟨hR,fun x hx=>by have:=hsl2 x hx;omega,by show 0+_<=_;omega,P1⟩ PJ41.next ?_ ?_ ?_
 ·refine r7 (L:=[5,6,7,8,12]) (fun o ho=>?_) kl fun o ho=>?_
  ·simp only[List.mem_cons,List.not_mem_nil,or_false]at ho
   rcases ho with rfl|rfl|rfl|rfl|rfl <;> rfl
  ·rcases hk o ho with h|h
   ·simp only[List.mem_cons,List.not_mem_nil,or_false]at h ⊢;omega
   ·simp[h]
 ·rintro ⟨i,E⟩ x ps O jc _ hf
  unfold xY at hf
  split at hf
  ·cases hf
  split at hf
  ·cases hf
  ·cases hf
   exact⟨rfl,wl _ (by decide) _ _⟩
 ·rintro ⟨i,S,us⟩ s' x ps ⟨j1,j2,j3,j4⟩
  simp only at j1 j2 j3 j4
  have hx4:=j2 x (by simp)
  simp only[List.length_cons]at j3
  have hp:=j4.np;have hlk:=j4.nl;have hc:=j4.nc;have hu:=j4.nu
  simp only at hp hlk hc hu
  refine a6 (Γ:=tbl fz) bc _ _ _ ?_
  simp only[go_sem,true_and]
  refine al [9,11,23] (Γ:=tbl fz) bc _ _ _ ?_
  simp only[go_sem,kr,List.cons_append,List.nil_append]
  refine⟨ac.2 (by omega),?_⟩
  refine co (pb none Wz) (aI 2 rfl) [.str x] _ _ rfl rfl ⟨_,⟨x,rfl,by omega,rfl⟩,rfl,rfl⟩ ?_
  simp only[go_sem,AV.shift,Obj.shift,AV.shifts,List.length_map,List.map_cons,List.map_nil]
  obtain⟨w1,w2⟩:=A5 x
  have tkW:(bb (aU x)).take (aU x).length=bb (aU x):=List.take_of_length_le (by simp)
  refine av (aq 13 (ag:=none) (xs:=bb (aU x)) rfl (by decide)) ?_
  simp only[go_sem,tkW]
  have Vg:=@tN x (i,S,us)
  have Oe:=@Ar x (i,S,us)
  have HR:=@xN x (i,S,us)
  generalize xY x (i,S,us)=FX at *
  generalize aU x=w at *
  simp only at Vg Oe HR
  have hsw:∀f r,w=f :: r->f≠[]:=fun f r h=>(w2 f (by rw[h];simp)).2
  refine QJ ⟨an 104 [(2,.ptr 0 0 0),(3,.ptr 1 0 0),(4,.ptr 2 0 0),(5,.ptr 3 0 0),(6,.ptr 4 0 0),(8,.dat (.sl none (bb w))),(34,.dat (.bool (d6 w)))],[.box [.nils,.nils,.nils],.box [.dat (.int .i64 0)],.box [.dat (.int .i64 0)],.box [.sl 5 0 S.pools.length,.sl 6 0 S.locks.length,.sl 7 0 S.classes.length,.sl 8 0 us.length],.box [.dat (.int .i64 ((i:Int)+1))],.row (some 3) (S.pools.map aK),.row none (bb S.locks),.tab 4 (bL (fun _=>.nils) 0 S.classes),.row (some 7) (us.map usD),.box [.dat (.str s')],.box [.dat (.str [10])],.box [.dat (.int .i64 0)],.dead],13,[]⟩ ?_ ?_
  ·refine a6 (Γ:=tbl fz) bc _ _ _ ?_
   unfold d6
   cases w with
   | nil =>
    simp only[go_sem,List.map_nil,List.length_nil,Int.natCast_zero,eq_self,decide_true,Bool.true_or]
    refine aP (own:=[_,_,_,_,_,_,_,_,_,_,_,_,_]) (ex:=[_]) (by show 13<=13;decide) ?_ ?_ ?_
    ·simp only[go_sem]
    ·simp only[go_sem,AV.unders,AV.under,List.length_cons,List.length_nil]
    ·simp only[go_sem,AV.unders,AV.under,List.length_cons,List.length_nil,e8,Obj.allUnder,Obj.under]
   | cons f r =>
    have hf:=hsw f r rfl
    have z1:¬((r.length+1:Nat):Int)=0:=by omega
    have z2:(0:Int)<((r.length+1:Nat):Int):=by omega
    have z3:D.nth (D.str f :: r.map D.str) 0=.str f:=rfl
    have z4:(0:Int)<(f.length:Int):=by
     have:f.length≠0:=fun h=>hf (List.eq_nil_of_length_eq_zero h)
     omega
    have dh:(f :: r=[])=False:=by simp
    have hb:=LU (f.getD 0 0) 35 35 rfl
    simp only[go_sem,List.map_cons,List.length_cons,List.length_map,z1,z2,z3,z4,decide_true,decide_false,dh,Bool.false_or,List.getD_cons_zero,hb]
    refine aP (own:=[_,_,_,_,_,_,_,_,_,_,_,_,_]) (ex:=[_]) (by show 13<=13;decide) ?_ ?_ ?_
    ·simp only[go_sem]
    ·simp only[go_sem,AV.unders,AV.under,List.length_cons,List.length_nil]
    ·simp only[go_sem,AV.unders,AV.under,List.length_cons,List.length_nil,e8,Obj.allUnder,Obj.under]
  have endO:∀(q:PSys×List US) (sl:List AV) (mv:List Nat) (ex:List Obj) (at1:Int),at1=((i+1:Nat):Int)->(∀o∈mv,o∈[5,6,7,8])->uo true (kr (i+1,q)++sqT s' 10 .dead) [5,6,7,8] none .normal
    ⟨sl,[.box [.nils,.nils,.nils],.box [.dat (.int .i64 0)],.box [.dat (.int .i64 0)],.box [.sl 5 0 q.1.pools.length,.sl 6 0 q.1.locks.length,.sl 7 0 q.1.classes.length,.sl 8 0 q.2.length],.box [.dat (.int .i64 at1)],.row (some 3) (q.1.pools.map aK),.row none (bb q.1.locks),.tab 4 (bL (fun _=>.nils) 0 q.1.classes),.row (some 7) (q.2.map usD),.box [.dat (.str s')],.box [.dat (.str [10])],.box [.dat (.int .i64 0)],.dead]++ex,13,mv⟩:=by
   rintro q sl mv ex at1 rfl hm
   refine⟨⟨rfl,rfl⟩,Le.trans (qx (mv':=[5,6,7,8]) hm) ?_⟩
   refine aP (own:=kr (i+1,q)++sqT s' 10 .dead) (ex:=ex) (Nat.le_refl _) ?_ ?_ ?_
   ·simp only[bZ]
   ·simp only[AV.unders]
   ·simp only[go_sem,kr,sqT,List.cons_append,List.nil_append,List.length_cons,List.length_nil,AV.unders,AV.under,e8,Obj.allUnder,Obj.under]
  cases hsk:d6 w with
  | true =>
   rw[Vg hsk]
   simp only[go_sem]
   exact endO (S,us) _ [] [] _ rfl (by simp)
  | false =>
   have Oe:=Oe hsk
   have HR:=HR hsk
   simp only[go_sem]
   have hw0:w≠[]:=by rintro rfl;simp[d6]at hsk
   have hl0:0<w.length:=List.length_pos_iff.2 hw0
   have hwx:∀y∈w,y.length<=1000000:=fun y hy=>by have:=(w2 y hy).1;omega
   have n0:D.nth (bb w) 0=.str (w.getD 0 []):=D.nth_map hl0
   have z0:(0:Int)<w.length:=by omega
   generalize hq:jP w i (S,us)=q at *
   generalize hK:fc [9,11,23] Tryz.prog (tbl fz) ((Code.region 23 _ _).seq _) _=Q2
   have hcl:∀σ σ',Le σ σ'->Q2 .normal σ'->Q2 .normal σ:=by
    subst hK
    intro σ σ' h1 h2
    exact av h1 h2
   suffices hQ2:∀mv:List Nat,(∀o∈mv,o∈[5,6,7,8])->Q2 .normal ⟨an 104 [(2,.ptr 0 0 0),(3,.ptr 1 0 0),(4,.ptr 2 0 0),(5,.ptr 3 0 0),(6,.ptr 4 0 0),(9,.dat (.int .i64 q.1))],[.box [.nils,.nils,.nils],.box [.dat (.int .i64 0)],.box [.dat (.int .i64 0)],.box [.sl 5 0 q.2.1.pools.length,.sl 6 0 q.2.1.locks.length,.sl 7 0 q.2.1.classes.length,.sl 8 0 q.2.2.length],.box [.dat (.int .i64 ((i:Int)+1))],.row (some 3) (q.2.1.pools.map aK),.row none (bb q.2.1.locks),.tab 4 (bL (fun _=>.nils) 0 q.2.1.classes),.row (some 7) (q.2.2.map usD),.box [.dat (.str s')],.box [.dat (.str [10])],.box [.dat (.int .i64 0)],.dead],13,mv⟩ by
    have hbig:S.big:=⟨by omega,by omega,by omega⟩
    have e1:emb [3,5,6,7,8] 13 1=5:=rfl
    have e2:emb [3,5,6,7,8] 13 2=6:=rfl
    have e3:emb [3,5,6,7,8] 13 3=7:=rfl
    have e4:emb [3,5,6,7,8] 13 4=8:=rfl
    have hwl:w.length<=1000000:=by omega
    have sW:∀j,j<5->[Obj.box [.nils,.nils,.nils],.box [.dat (.int .i64 0)],.box [.dat (.int .i64 0)],.box [.sl 5 0 S.pools.length,.sl 6 0 S.locks.length,.sl 7 0 S.classes.length,.sl 8 0 us.length],.box [.dat (.int .i64 ((i:Int)+1))],.row (some 3) (S.pools.map aK),.row none (bb S.locks),.tab 4 (bL (fun _=>.nils) 0 S.classes),.row (some 7) (us.map usD),.box [.dat (.str s')],.box [.dat (.str [10])],.box [.dat (.int .i64 0)],.dead][[3,5,6,7,8].getD j 0]?=some (((f9 S us).getD j .dead).ren (emb [3,5,6,7,8] 13)):=fun j hj=>by
     match j,hj with
     | 0,_=>rfl
     | 1,_=>rfl
     | 2,_=>rfl
     | 3,_=>exact congrArg some (by simp only[f9,List.getD_cons_succ,List.getD_cons_zero,Obj.ren,uh])
     | 4,_=>rfl
    rcases Kp (w:=w.getD 0 []) with⟨hK,hk⟩|⟨hK,hk⟩|⟨hK,hk⟩|⟨hK,hk⟩|⟨hK,hk⟩|⟨hK,hk⟩|⟨hK,hk⟩|⟨hK,hk⟩|⟨hK,hk⟩|⟨hk,h0,h1,h2,h3,h4,h5,h6,h7,h8⟩
    ·unfold jP at hq
     rw[hk,if_neg (by decide),if_pos (by decide)]at hq
     subst hq
     refine a6 (Γ:=tbl fz) bc _ _ _ ?_
     simp only[go_sem,n0,z0,hK,eq_self,decide_true,decide_false]
     refine bC zn (aI 3 rfl) [3,5,6,7,8] ⟨S,us,w,rfl,rfl,hw0,hwl,hwx,hbig,by omega,by omega,by omega,j4.st,by rw[hk];decide,by rw[hk];decide,rfl,rfl,rfl,rfl⟩ (by decide) (by simp) rfl rfl rfl (by simp[AV.unders,AV.under]) (bH S us) sW ?_
     simp only at hQ2
     generalize gu w S=dw at hQ2 ⊢
     simp only[go_sem,f9,e1,e2,e3,e4,Obj.killAll,killAll]
     refine hcl _ _ ?_ (hQ2 [5,6,7] (by simp))
     exact a7 (by simp only[go_sem])
    ·have q0:=eq_false (by decide:¬([109,117,116,101,120]:Str)=[112,111,111,108])
     unfold jP at hq
     rw[hk,if_neg (by decide),if_pos (by decide)]at hq
     subst hq
     refine a6 (Γ:=tbl fz) bc _ _ _ ?_
     simp only[go_sem,n0,z0,hK,q0,eq_self,decide_true,decide_false]
     refine bC zn (aI 3 rfl) [3,5,6,7,8] ⟨S,us,w,rfl,rfl,hw0,hwl,hwx,hbig,by omega,by omega,by omega,j4.st,by rw[hk];decide,by rw[hk];decide,rfl,rfl,rfl,rfl⟩ (by decide) (by simp) rfl rfl rfl (by simp[AV.unders,AV.under]) (bH S us) sW ?_
     simp only at hQ2
     generalize gu w S=dw at hQ2 ⊢
     simp only[go_sem,f9,e1,e2,e3,e4,Obj.killAll,killAll]
     refine hcl _ _ ?_ (hQ2 [5,6,7] (by simp))
     exact a7 (by simp only[go_sem])
    ·have q0:=eq_false (by decide:¬([99,108,97,115,115]:Str)=[112,111,111,108])
     have q1:=eq_false (by decide:¬([99,108,97,115,115]:Str)=[109,117,116,101,120])
     unfold jP at hq
     rw[hk,if_neg (by decide),if_pos (by decide)]at hq
     subst hq
     refine a6 (Γ:=tbl fz) bc _ _ _ ?_
     simp only[go_sem,n0,z0,hK,q0,q1,eq_self,decide_true,decide_false]
     refine bC zn (aI 3 rfl) [3,5,6,7,8] ⟨S,us,w,rfl,rfl,hw0,hwl,hwx,hbig,by omega,by omega,by omega,j4.st,by rw[hk];decide,by rw[hk];decide,rfl,rfl,rfl,rfl⟩ (by decide) (by simp) rfl rfl rfl (by simp[AV.unders,AV.under]) (bH S us) sW ?_
     simp only at hQ2
     generalize gu w S=dw at hQ2 ⊢
     simp only[go_sem,f9,e1,e2,e3,e4,Obj.killAll,killAll]
     refine hcl _ _ ?_ (hQ2 [5,6,7] (by simp))
     exact a7 (by simp only[go_sem])
    ·have q0:=eq_false (by decide:¬([115,101,114,118,101,114]:Str)=[112,111,111,108])
     have q1:=eq_false (by decide:¬([115,101,114,118,101,114]:Str)=[109,117,116,101,120])
     have q2:=eq_false (by decide:¬([115,101,114,118,101,114]:Str)=[99,108,97,115,115])
     unfold jP at hq
     rw[hk,if_neg (by decide),if_pos (by decide)]at hq
     subst hq
     refine a6 (Γ:=tbl fz) bc _ _ _ ?_
     simp only[go_sem,n0,z0,hK,q0,q1,q2,eq_self,decide_true,decide_false]
     refine bC zn (aI 3 rfl) [3,5,6,7,8] ⟨S,us,w,rfl,rfl,hw0,hwl,hwx,hbig,by omega,by omega,by omega,j4.st,by rw[hk];decide,by rw[hk];decide,rfl,rfl,rfl,rfl⟩ (by decide) (by simp) rfl rfl rfl (by simp[AV.unders,AV.under]) (bH S us) sW ?_
     simp only at hQ2
     generalize gu w S=dw at hQ2 ⊢
     simp only[go_sem,f9,e1,e2,e3,e4,Obj.killAll,killAll]
     refine hcl _ _ ?_ (hQ2 [5,6,7] (by simp))
     exact a7 (by simp only[go_sem])
    ·have q0:=eq_false (by decide:¬([116,97,107,101]:Str)=[112,111,111,108])
     have q1:=eq_false (by decide:¬([116,97,107,101]:Str)=[109,117,116,101,120])
     have q2:=eq_false (by decide:¬([116,97,107,101]:Str)=[99,108,97,115,115])
     have q3:=eq_false (by decide:¬([116,97,107,101]:Str)=[115,101,114,118,101,114])
     unfold jP at hq
     rw[hk,if_neg (by decide),if_neg (by decide)]at hq
     subst hq
     refine a6 (Γ:=tbl fz) bc _ _ _ ?_
     simp only[go_sem,n0,z0,hK,q0,q1,q2,q3,eq_self,decide_true,decide_false]
     refine bC wE (aI 4 rfl) [3,5,6,7,8] ⟨S,us,w,i+1,rfl,rfl,hw0,hwl,hwx,by omega,by omega,by rw[hk];decide,by omega,rfl,rfl,rfl,rfl⟩ (by decide) (by simp) rfl rfl rfl (by simp[AV.unders,AV.under]) (bH S us) sW ?_
     simp only at hQ2
     generalize mE w (i+1) S us=dw at hQ2 ⊢
     simp only[go_sem,f9,e1,e2,e3,e4,Obj.killAll,killAll]
     refine hcl _ _ ?_ (hQ2 [8] (by simp))
     exact a7 (by simp only[go_sem])
    ·have q0:=eq_false (by decide:¬([103,105,118,101]:Str)=[112,111,111,108])
     have q1:=eq_false (by decide:¬([103,105,118,101]:Str)=[109,117,116,101,120])
     have q2:=eq_false (by decide:¬([103,105,118,101]:Str)=[99,108,97,115,115])
     have q3:=eq_false (by decide:¬([103,105,118,101]:Str)=[115,101,114,118,101,114])
     have q4:=eq_false (by decide:¬([103,105,118,101]:Str)=[116,97,107,101])
     unfold jP at hq
     rw[hk,if_neg (by decide),if_neg (by decide)]at hq
     subst hq
     refine a6 (Γ:=tbl fz) bc _ _ _ ?_
     simp only[go_sem,n0,z0,hK,q0,q1,q2,q3,q4,eq_self,decide_true,decide_false]
     refine bC wE (aI 4 rfl) [3,5,6,7,8] ⟨S,us,w,i+1,rfl,rfl,hw0,hwl,hwx,by omega,by omega,by rw[hk];decide,by omega,rfl,rfl,rfl,rfl⟩ (by decide) (by simp) rfl rfl rfl (by simp[AV.unders,AV.under]) (bH S us) sW ?_
     simp only at hQ2
     generalize mE w (i+1) S us=dw at hQ2 ⊢
     simp only[go_sem,f9,e1,e2,e3,e4,Obj.killAll,killAll]
     refine hcl _ _ ?_ (hQ2 [8] (by simp))
     exact a7 (by simp only[go_sem])
    ·have q0:=eq_false (by decide:¬([108,111,99,107]:Str)=[112,111,111,108])
     have q1:=eq_false (by decide:¬([108,111,99,107]:Str)=[109,117,116,101,120])
     have q2:=eq_false (by decide:¬([108,111,99,107]:Str)=[99,108,97,115,115])
     have q3:=eq_false (by decide:¬([108,111,99,107]:Str)=[115,101,114,118,101,114])
     have q4:=eq_false (by decide:¬([108,111,99,107]:Str)=[116,97,107,101])
     have q5:=eq_false (by decide:¬([108,111,99,107]:Str)=[103,105,118,101])
     unfold jP at hq
     rw[hk,if_neg (by decide),if_neg (by decide)]at hq
     subst hq
     refine a6 (Γ:=tbl fz) bc _ _ _ ?_
     simp only[go_sem,n0,z0,hK,q0,q1,q2,q3,q4,q5,eq_self,decide_true,decide_false]
     refine bC wE (aI 4 rfl) [3,5,6,7,8] ⟨S,us,w,i+1,rfl,rfl,hw0,hwl,hwx,by omega,by omega,by rw[hk];decide,by omega,rfl,rfl,rfl,rfl⟩ (by decide) (by simp) rfl rfl rfl (by simp[AV.unders,AV.under]) (bH S us) sW ?_
     simp only at hQ2
     generalize mE w (i+1) S us=dw at hQ2 ⊢
     simp only[go_sem,f9,e1,e2,e3,e4,Obj.killAll,killAll]
     refine hcl _ _ ?_ (hQ2 [8] (by simp))
     exact a7 (by simp only[go_sem])
    ·have q0:=eq_false (by decide:¬([117,110,108,111,99,107]:Str)=[112,111,111,108])
     have q1:=eq_false (by decide:¬([117,110,108,111,99,107]:Str)=[109,117,116,101,120])
     have q2:=eq_false (by decide:¬([117,110,108,111,99,107]:Str)=[99,108,97,115,115])
     have q3:=eq_false (by decide:¬([117,110,108,111,99,107]:Str)=[115,101,114,118,101,114])
     have q4:=eq_false (by decide:¬([117,110,108,111,99,107]:Str)=[116,97,107,101])
     have q5:=eq_false (by decide:¬([117,110,108,111,99,107]:Str)=[103,105,118,101])
     have q6:=eq_false (by decide:¬([117,110,108,111,99,107]:Str)=[108,111,99,107])
     unfold jP at hq
     rw[hk,if_neg (by decide),if_neg (by decide)]at hq
     subst hq
     refine a6 (Γ:=tbl fz) bc _ _ _ ?_
     simp only[go_sem,n0,z0,hK,q0,q1,q2,q3,q4,q5,q6,eq_self,decide_true,decide_false]
     refine bC wE (aI 4 rfl) [3,5,6,7,8] ⟨S,us,w,i+1,rfl,rfl,hw0,hwl,hwx,by omega,by omega,by rw[hk];decide,by omega,rfl,rfl,rfl,rfl⟩ (by decide) (by simp) rfl rfl rfl (by simp[AV.unders,AV.under]) (bH S us) sW ?_
     simp only at hQ2
     generalize mE w (i+1) S us=dw at hQ2 ⊢
     simp only[go_sem,f9,e1,e2,e3,e4,Obj.killAll,killAll]
     refine hcl _ _ ?_ (hQ2 [8] (by simp))
     exact a7 (by simp only[go_sem])
    ·have q0:=eq_false (by decide:¬([99,97,108,108]:Str)=[112,111,111,108])
     have q1:=eq_false (by decide:¬([99,97,108,108]:Str)=[109,117,116,101,120])
     have q2:=eq_false (by decide:¬([99,97,108,108]:Str)=[99,108,97,115,115])
     have q3:=eq_false (by decide:¬([99,97,108,108]:Str)=[115,101,114,118,101,114])
     have q4:=eq_false (by decide:¬([99,97,108,108]:Str)=[116,97,107,101])
     have q5:=eq_false (by decide:¬([99,97,108,108]:Str)=[103,105,118,101])
     have q6:=eq_false (by decide:¬([99,97,108,108]:Str)=[108,111,99,107])
     have q7:=eq_false (by decide:¬([99,97,108,108]:Str)=[117,110,108,111,99,107])
     unfold jP at hq
     rw[hk,if_neg (by decide),if_neg (by decide)]at hq
     subst hq
     refine a6 (Γ:=tbl fz) bc _ _ _ ?_
     simp only[go_sem,n0,z0,hK,q0,q1,q2,q3,q4,q5,q6,q7,eq_self,decide_true,decide_false]
     refine bC wE (aI 4 rfl) [3,5,6,7,8] ⟨S,us,w,i+1,rfl,rfl,hw0,hwl,hwx,by omega,by omega,by rw[hk];decide,by omega,rfl,rfl,rfl,rfl⟩ (by decide) (by simp) rfl rfl rfl (by simp[AV.unders,AV.under]) (bH S us) sW ?_
     simp only at hQ2
     generalize mE w (i+1) S us=dw at hQ2 ⊢
     simp only[go_sem,f9,e1,e2,e3,e4,Obj.killAll,killAll]
     refine hcl _ _ ?_ (hQ2 [8] (by simp))
     exact a7 (by simp only[go_sem])
    ·unfold jP at hq
     rw[hk,if_pos rfl]at hq
     subst hq
     refine a6 (Γ:=tbl fz) bc _ _ _ ?_
     simp only[go_sem,n0,z0,eq_false h0,eq_false h1,eq_false h2,eq_false h3,eq_false h4,eq_false h5,eq_false h6,eq_false h7,eq_false h8,decide_true,decide_false]
     refine hcl _ _ ?_ (hQ2 [] (by simp))
     exact a7 (by simp only[go_sem])
   intro mv hmv
   subst hK
   clear hcl
   simp only[iL]
   refine a6 (Γ:=tbl fz) bc _ _ _ ?_
   by_cases h0:q.1=0
   ·rw[Oe h0]
    simp only[go_sem,h0,eq_self,decide_true,Bool.not_true]
    exact endO q.2 _ mv [] _ rfl hmv
   ·rw[HR h0]
    simp only[go_sem,h0,decide_false,Bool.not_false]
    refine aX [] [] (pf:=[]) (mf:=[]) mixed bc b0 ew fQ (.one 0 (.one 2 (.alt 1 (.one 3 (.one 4 (.one 5 .fin))) (.alt 3 (.one 1 (.one 4 (.one 5 .fin))) .stop)))) (by kernel_rfl) ?_
    simp only[go_sem,and_true,and_self]
    refine⟨⟨rfl,rfl⟩,Le.trans (qx (mv':=[5,6,7,8]) hmv) ?_⟩
    refine aP (own:=ml (i+1,q.2) q.1++sqT s' 10 .dead) (ex:=[]) (Nat.le_refl _) ?_ ?_ ?_
    ·simp only[bZ]
    ·simp only[AV.unders]
    ·simp only[go_sem,ml,sqT,List.cons_append,List.nil_append,List.length_cons,List.length_nil,AV.unders,AV.under,e8,Obj.allUnder,Obj.under]
 ·have hJ0:PJ41 R (aJ 10 s) (0,sys0,[]):=⟨hR,fun x hx=>by have:=hsl2 x hx;omega,by show 0+_<=_;omega,P1⟩
  unfold xI lF
  rw[show (fun l=>eP (aU l))=NU from rfl,hR]
  cases hq:jr xY (aJ 10 s) (0,sys0,[]) with
  | inl E =>
   obtain⟨j1,_,j3,j4⟩:=qw xY (PJ41 R) PJ41.next _ _ _ hJ0 hq
   obtain⟨at0,S,us⟩:=E
   simp only[List.map_nil,fB]at j1
   subst j1
   simp only[List.length_nil]at j3
   simp only[go_sem,kr,List.cons_append,List.nil_append]
   have hp:=j4.np;have hlk:=j4.nl;have hc:=j4.nc;have hu:=j4.nu
   simp only at hp hlk hc hu
   have tkP:(S.pools.map aK).take S.pools.length=S.pools.map aK:=List.take_of_length_le (by simp)
   have tkL:(bb S.locks).take S.locks.length=bb S.locks:=List.take_of_length_le (by simp)
   have tkU:(us.map usD).take us.length=us.map usD:=List.take_of_length_le (by simp)
   refine av (aq 5 (ag:=some 3) (xs:=S.pools.map aK) rfl (Nat.zero_le _)) ?_
   simp only[go_sem,tkP]
   refine av (aq 6 (ag:=none) (xs:=bb S.locks) rfl (Nat.zero_le _)) ?_
   simp only[go_sem,tkL]
   refine av (aq 8 (ag:=some 7) (xs:=us.map usD) rfl (Nat.zero_le _)) ?_
   simp only[go_sem,tkU]
   refine av (a7 (s':=an 104 [(2,.ptr 0 0 0),(3,.ptr 1 0 0),(4,.ptr 2 0 0),(5,.ptr 3 0 0)]) (by simp only[go_sem])) ?_
   refine av (gf (own:=[_,_,_,_,_,_,_,_]) (ex:=[_,_,_,_,_]) (Nat.zero_le _) ?_ ?_) ?_
   ·simp only[go_sem,AV.unders,AV.under,List.length_cons,List.length_nil]
   ·simp only[List.mem_cons,List.not_mem_nil,or_false,forall_eq_or_imp,forall_eq,Obj.under,AV.unders,AV.under,e8,List.length_cons,List.length_nil];decide
   refine av (Cn (some 4) (Nat.zero_le _)) ?_
   have Vh:∀i,stp S i=[]:=fun i=>by
    unfold stp
    rw[List.getD_eq_getElem?_getD]
    cases hg:S.classes[i]? with
    | none=>rfl
    | some c=>exact j4.st c (List.mem_of_getElem? hg)
   have e0:bL (fun _=>.nils) 0 S.classes=bL (e7 8 S S.classes.length) 0 S.classes:=d8 _ _ fun j hj=>by
    unfold e7
    rw[if_neg (by omega),if_pos (Vh _)]
   rw[e0]
   simp only[EV]
   generalize hR2:rr us S=R2
   have hrd:=j4.us
   simp only at hrd
   refine a6 (Γ:=tbl fz) bc _ _ _ ?_
   simp only[go_sem,List.cons_append,List.nil_append]
   refine ap (fun p:Nat×PSys×Nat=>⟨an 104 [(2,.ptr 0 0 0),(3,.ptr 1 0 0),(4,.ptr 2 0 0),(5,.ptr 3 0 0),(60,.dat (.sl (some 7) (us.map usD))),(61,.dat (.int .i64 us.length)),(62,.dat (.int .i64 p.1))],
     [.box [.nils,.nils,.nils],.box [.dat (.int .i64 0)],.box [.dat (.int .i64 0)],.box [.dat (.sl (some 3) (S.pools.map aK)),.dat (.sl none (bb S.locks)),.sl 7 0 S.classes.length,.dat (.sl (some 7) (us.map usD))],.box [.dat (.int .i64 at0)],.dead,.dead,.tab 4 (bL (e7 8 p.2.1 p.2.2) 0 p.2.1.classes),.row (some 4) ((stp p.2.1 p.2.2).map ar)],0,[]⟩)
    (fun p=>P2J S us R2 p.1 p.2.1 p.2.2) (fun p=>us.length - p.1) (0,S,S.classes.length) ?_ ?_ ?_
   ·exact⟨hR2,Nat.zero_le _,rfl,rfl,rfl,fun u hu=>⟨(hrd u hu).1,(hrd u hu).2.1,(hrd u hu).2.2.1,.inr (Vh _),.inl rfl⟩,j4.srt,fun h=>absurd h (Nat.lt_irrefl _),by rw[Vh];exact Nat.le_refl _⟩
   ·rw[Vh]
    exact a7 (by simp only[go_sem,Int.natCast_zero])
   rintro ⟨k,s2,cur⟩ hJ
   simp only at hJ
   have hcs:=hJ.hc
   refine al [27,34] (Γ:=tbl fz) bc _ _ _ ?_
   have hbig2:s2.big:=⟨by rw[hJ.hp];omega,by rw[hJ.hl];omega,by omega⟩
   rw[← hJ.hp,← hJ.hl,← hJ.hc]
   cases hd:us.drop k with
   | nil =>
    have hke:=aj hd hJ.num
    have hk2:¬(k:Int)<(us.length:Int):=by omega
    have bQ:=hJ.run
    rw[hd]at bQ
    simp only[rr]at bQ
    subst bQ
    simp only[zq]
    simp only[go_sem,hk2,decide_false]
    have tkC:((s2.classes.map bf).take s2.classes.length)=s2.classes.map bf:=List.take_of_length_le (by simp)
    refine av (aq 8 (ag:=some 4) (xs:=(stp s2 cur).map ar) rfl (Nat.zero_le _)) ?_
    simp only[go_sem,m7 8 s2 cur (fun h=>hJ.ne (by omega))]
    refine av (Fj 7 (k:=4) rfl (zG s2)) ?_
    simp only[go_sem]
    refine av (lK 7 (k:=4) (s2.classes.map HE) (by decide) (fun r hr=>by
     obtain⟨c,_,rfl⟩:=List.mem_map.1 hr;rfl) rfl rfl (Nat.zero_le _)) ?_
    simp only[go_sem,HI,tkC,List.length_map]
    refine a6 (Γ:=tbl fz) bc _ _ _ ?_
    simp only[go_sem]
    refine ah Ca (aI 6 rfl) [aY s2] _ rfl ⟨s2,rfl,rfl⟩ (.inl rfl) ?_
    by_cases h0:aT s2=0
    ·simp only[go_sem,h0,eq_self,decide_true,Bool.not_true]
     refine aH (mv':=[]) (.inl rfl) [.cell 2 26,.cell 3 3,.cell 4 3] rfl (fun _ h=>h) ?_
     simp only[go_sem]
     exact bp (by rfl) (by simp only[AV.under,AV.unders,and_self])
    ·simp only[go_sem,h0,decide_false,Bool.not_false]
     refine aH (mv':=[]) (.inl rfl) [.cell 2 26,.cell 3 3,.cell 4 3] rfl (fun _ h=>h) ?_
     simp only[go_sem]
     exact Le.trans (kG (some 3) none (some 4)) (bp (by rfl) (by simp only[AV.under,AV.unders,and_self]))
   | cons u q =>
    have hlt:=ao hd
    have hk2:(k:Int)<(us.length:Int):=by omega
    have hk0:(0:Int)<=(k:Int):=by omega
    have hn:=ak (f:=usD) hd
    have hu1:=hJ.cls u (by rw[hd];simp)
    have huc:u.cls<s2.classes.length:=by rw[hJ.hc];exact hu1.2.2.1
    simp only[go_sem,hk2,hk0,hn,decide_true]
    refine av (σ':=⟨an 104 [(2,.ptr 0 0 0),(3,.ptr 1 0 0),(4,.ptr 2 0 0),(5,.ptr 3 0 0),(60,.dat (.sl (some 7) (us.map usD))),(61,.dat (.int .i64 us.length)),(62,.dat (.int .i64 k))],
     [.box [.nils,.nils,.nils],.box [.dat (.int .i64 0)],.box [.dat (.int .i64 0)],.box [.dat (.sl (some 3) (s2.pools.map aK)),.dat (.sl none (bb s2.locks)),.sl 7 0 s2.classes.length,.dat (.sl (some 7) (us.map usD))],.box [.dat (.int .i64 at0)],.dead,.dead,.tab 4 (bL (e7 8 s2 u.cls) 0 s2.classes),.row (some 4) ((stp s2 u.cls).map ar)],0,[]⟩) ?_ ?_
    ·by_cases hcu:u.cls=cur
     ·subst hcu
      exact a7 (by simp only[go_sem])
     ·have RQ:stp s2 u.cls=[]:=hu1.2.2.2.1.resolve_left hcu
      refine Le.trans (a7 (s':=an 104 [(2,.ptr 0 0 0),(3,.ptr 1 0 0),(4,.ptr 2 0 0),(5,.ptr 3 0 0),(60,.dat (.sl (some 7) (us.map usD))),(61,.dat (.int .i64 us.length)),(62,.dat (.int .i64 k))]) (by simp only[go_sem])) ?_
      refine Le.trans (aq 8 (ag:=some 4) (xs:=(stp s2 cur).map ar) rfl (Nat.zero_le _)) ?_
      simp only[go_sem,m7 8 s2 cur (fun h=>hJ.ne (by omega))]
      refine Le.trans (zr 7 (u.cls*4+3) (some 4) (k:=4) rfl (by rw[uD _ _ _ huc];unfold uP;rw[if_pos RQ]) (Nat.zero_le _)) ?_
      simp only[go_sem,List.length_cons,List.length_nil,List.cons_append,List.nil_append]
      rw[DQ 9 s2 u.cls huc RQ,RQ]
      have e:AV.rens (swp 8 9) (bL (e7 9 s2 u.cls) 0 s2.classes)=bL (e7 8 s2 u.cls) 0 s2.classes:=by
       rw[jf]
       exact d8 _ _ fun j _=>ku _ _ _ _ _
      refine Le.trans (ol (s':=an 104 [(2,.ptr 0 0 0),(3,.ptr 1 0 0),(4,.ptr 2 0 0),(5,.ptr 3 0 0),(60,.dat (.sl (some 7) (us.map usD))),(61,.dat (.int .i64 us.length)),(62,.dat (.int .i64 k))]) (own':=[.box [.nils,.nils,.nils],.box [.dat (.int .i64 0)],.box [.dat (.int .i64 0)],.box [.dat (.sl (some 3) (s2.pools.map aK)),.dat (.sl none (bb s2.locks)),.sl 7 0 s2.classes.length,.dat (.sl (some 7) (us.map usD))],.box [.dat (.int .i64 at0)],.dead,.dead,.tab 4 (AV.rens (swp 8 9) (bL (e7 9 s2 u.cls) 0 s2.classes)),.row (some 4) [],.dead]) 8 9 (by simp) (by simp) rfl rfl) ?_
      rw[e]
      refine aP (own:=[_,_,_,_,_,_,_,_,_]) (ex:=[_]) (Nat.zero_le _) ?_ ?_ ?_
      ·simp only[go_sem]
      ·simp only[go_sem,AV.unders,AV.under,List.length_cons,List.length_nil]
      ·simp only[go_sem,AV.unders,AV.under,List.length_cons,List.length_nil,Obj.allUnder,Obj.under,true_and]
       exact gR (fun i=>jz (by decide) _ _ _) _ _
    refine al [29] (Γ:=tbl fz) bc _ _ _ ?_
    simp only[go_sem,hk2,hk0,hn,decide_true,usD]
    have eK:emb [3,7,8] 10 (emb [1,2,3] 4 1)=8:=rfl
    refine l4 WW (aI 5 rfl) [3,7,8] ⟨s2,us,e7 1 s2 u.cls,(stp s2 u.cls).map ar,u,Fq s2 u.cls,hbig2,hu1.1,hu1.2.1,rfl,rfl,rfl,rfl,rfl,rfl⟩ (by decide) (by simp) rfl rfl rfl ?_ ?_ ?_ ?_
    ·simp[AV.unders,AV.under]
    ·intro x hx
     simp only[lS,List.mem_cons,List.not_mem_nil,or_false]at hx
     rcases hx with rfl|rfl|rfl
     ·simp[Obj.under,AV.unders,AV.under]
     ·exact gR (fun i=>by rw[ku];exact jz (by decide) _ _ _) _ _
     ·trivial
    ·intro j hj
     match j,hj with
     | 0,_=>rfl
     | 1,_=>exact congrArg some (by simp only[lS,List.getD_cons_succ,List.getD_cons_zero,Obj.ren,jf,ku,List.length_cons,List.length_nil];rfl)
     | 2,_=>rfl
    have hF:eM s2 u.kind u.name<0∨¬eM s2 u.kind u.name<0:=Classical.em _
    have acA:inR .i64 (eM s2 u.kind u.name):=by
     refine ac.2 ?_
     have key:∀(x:Str) (l:List Str),l.length<=100000->-9223372036854775808<=dF x 0 l/\dF x 0 l<=9223372036854775807:=fun x l hl=>by
      rcases qW (x:=x) l 0 0 with h|⟨i,h1,h2,_⟩ <;> omega
     unfold eM
     split
     ·exact key _ _ (by rw[List.length_map];exact hbig2.np)
     split
     ·exact key _ _ (by rw[List.length_map];exact hbig2.nc)
     ·exact key _ _ hbig2.nl
    generalize hFF:eM s2 u.kind u.name=F at *
    have eO:AV.rens (emb [3,7,8] 10) (bL (fun i=>AV.ren (emb [1,2,3] 4) (e7 1 s2 u.cls i)) 0 s2.classes)=bL (e7 8 s2 u.cls) 0 s2.classes:=by
     rw[jf]
     exact d8 _ _ fun j _=>by simp only[ku];rfl
    have e1:emb [3,7,8] 10 1=7:=rfl
    simp only[go_sem,lS,List.length_cons,List.length_nil,eO,e1]
    rcases hF with hF|hF
    ·simp only[go_sem,hF,decide_true]
     refine aX [] [] (pf:=[]) (mf:=[]) mixed bc b0 ew fQ (.one 0 (.one 1 (.alt 2 (.one 3 (.one 4 (.one 5 .fin))) (.alt 3 (.one 2 (.one 4 (.one 5 .fin))) .stop)))) (by kernel_rfl) ?_
     simp only[go_sem,and_true,and_self]
     have bQ:=hJ.run
     rw[hd,rr,hFF,if_pos hF]at bQ
     subst bQ
     simp only[zq]
     refine aH (mv':=[]) (.inl rfl) [.cell 2 26,.cell 3 3,.cell 4 3] rfl (fun _ h=>h) ?_
     simp only[go_sem]
     exact Le.trans (kG (some 3) none (some 4)) (bp (by rfl) (by simp only[AV.under,AV.unders,and_self]))
    ·simp only[go_sem,hF,decide_false]
     refine⟨by omega,?_⟩
     have cN:=uD (e7 8 s2 u.cls) u.cls s2.classes huc
     have hcv:e7 8 s2 u.cls u.cls=.sl 8 0 (stp s2 u.cls).length:=by unfold e7;rw[if_pos rfl]
     rw[hcv]at cN
     have mH:(stp s2 u.cls).length<=k:=by
      rcases hu1.2.2.2.1 with e|e
      ·rw[e];exact hJ.len
      ·rw[e];exact Nat.zero_le _
     have tkT:((stp s2 u.cls).map ar).take (stp s2 u.cls).length=(stp s2 u.cls).map ar:=List.take_of_length_le (by simp)
     refine aX [] [(8,[8]),(0,[8])] (pf:=[]) (mf:=[]) mixed bc b0 ew fQ (il [0,1,2,3,4,5,6,7,8,9,10,11]) (by kernel_rfl) ?_
     simp only[go_sem,cN,tkT,List.length_map]
     have hnx:=hJ.next hd (by rw[hFF];exact hF) mH
     rw[hFF]at hnx
     have acB:=hJ.num
     have MD:stp (vh s2 u.cls (u.step F)) u.cls=stp s2 u.cls++[u.step F]:=by rw[fj _ _ _ huc,if_pos rfl]
     have hsd:D.agg [D.int IntKind.i64 ↑u.kind,D.int IntKind.i64 F,D.int IntKind.i64 u.cnt,D.bool u.deep]=ar (u.step F):=rfl
     refine⟨by rw[j8];omega,by omega,by omega,by rw[AV.kills_length,j8];omega,ac.2 (by omega),(k+1,vh s2 u.cls (u.step F),u.cls),hnx,by show us.length - (k+1)<us.length - k;omega,?_⟩
     rw[CI 8 s2 u.cls (u.step F) huc,hsd]
     simp only[MD,List.map_append,List.map_cons,List.map_nil]
     refine aP (own:=[_,_,_,_,_,_,_,_,_]) (ex:=[_,_]) (Nat.zero_le _) ?_ ?_ ?_
     ·simp only[go_sem,Int.natCast_add,Int.cast_ofNat_Int]
     ·simp only[go_sem,AV.unders,AV.under,List.length_cons,List.length_nil]
     ·simp only[go_sem,AV.unders,AV.under,List.length_cons,List.length_nil,Obj.allUnder,Obj.under,true_and]
      exact gR (fun i=>jz (by decide) _ _ _) _ _
  | inr a =>
   obtain⟨E',x,ps,⟨j1,j2,j3,j4⟩,hf⟩:=lH xY (PJ41 R) PJ41.next _ _ _ hJ0 hq
   obtain⟨i,E⟩:=E'
   simp only at j1 j2 j3 j4
   have Vg:=@tN x (i,E)
   have Oe:=@Ar x (i,E)
   have HR:=@xN x (i,E)
   cases hsk:d6 (aU x) with
   | true=>rw[Vg hsk]at hf;cases hf
   | false =>
    by_cases h0:(jP (aU x) i E).1=0
    ·rw[Oe hsk h0]at hf;cases hf
    ·rw[HR hsk h0]at hf
     cases hf
     rw[List.map_cons]at j1
     unfold NU at j1
     rw[te hsk,if_neg h0]at j1
     subst j1
     simp only[LW,EV,zq,ml]
     simp only[go_sem,List.cons_append,List.nil_append]
     refine aH (mv':=[]) (.inl rfl) [.cell 2 26,.cell 3 3,.cell 4 3] rfl (fun _ h=>h) ?_
     simp only[go_sem]
     exact Le.trans (kG (some 3) none (some 4)) (Le.trans OA (bp (by rfl) (by simp only[AV.under,AV.unders,and_self])))
theorem tX:∀{l:List Int},(∀a∈l,0<=a)->∃L:List Nat,aA l=aF L/\L.length=l.length
 | [],_=>⟨[],rfl,rfl⟩
 | a :: l,h=>by
  obtain⟨L,h1,h2⟩:=tX (l:=l) fun b hb=>h b (List.mem_cons_of_mem _ hb)
  have ha:=h a (List.mem_cons_self ..)
  refine⟨a.toNat :: L,?_,by simp[h2]⟩
  show D.int .i64 a :: aA l=D.int .i64 (a.toNat:Int) :: aF L
  rw[h1,Int.toNat_of_nonneg ha]
theorem xx{s:PSys}{x:PSt}{g:Gr}(h:GInv s x g):∀f i,∀a∈dx g f i,0<=a
 | 0,_,a,ha=>by simp[dx]at ha
 | f+1,i,a,ha=>by
  unfold dx at ha
  split at ha
  ·cases ha
  ·rename_i hi
   rcases List.mem_cons.1 ha with rfl|ha
   ·rcases Nat.lt_or_ge i g.st.length with h1|h1
    ·obtain⟨_,w,_,hw,_⟩:=h.prov i (by omega) h1
     rw[hw];exact Int.natCast_nonneg w
    ·rw[lA (by rw[h.ok.l2];exact h1)];exact Int.le_refl _
   ·exact xx h f _ a ha
theorem Mk(s:PSys)(x:PSt):∃B:Nat->Nat->Bool,QB s x B:=by
 refine⟨fun w i=>@decide (∀g ab nx,ib s x=some (g,ab,nx)->Fre ab nx w i) (Classical.propDecidable _),fun g ab nx hr w i _=>?_⟩
 refine Iff.trans (@decide_eq_true_iff _ (Classical.propDecidable _)) ?_
 exact⟨fun h=>h g ab nx hr,fun h g' ab' nx' hr'=>by rw[hr]at hr';cases hr';exact h⟩
theorem CG(s:PSys)(B:Nat->Nat->Bool):∃L:List Nat,aA (lq s B).1=aF L/\L.length<=10000:=by
 unfold lq
 split
 ·exact⟨[],rfl,by decide⟩
 ·rename_i hc
  cases hr:ib s (mF s) with
  | none=>exact⟨[],rfl,by decide⟩
  | some r =>
   obtain⟨g,ab,nx⟩:=r
   simp only
   split
   ·exact⟨[],rfl,by decide⟩
   ·have hI:=(nA (lN (by omega)) hr).1
    obtain⟨L,h1,h2⟩:=tX (l:=(dx g 5000 (dN g.st.length B (mF s).length).1.toNat).reverse) fun a ha=>xx hI _ _ a (List.mem_reverse.1 ha)
    refine⟨L,h1,?_⟩
    rw[h2,List.length_reverse]
    have:=lC g 5000 (dN g.st.length B (mF s).length).1.toNat
    omega
end Go.AM

