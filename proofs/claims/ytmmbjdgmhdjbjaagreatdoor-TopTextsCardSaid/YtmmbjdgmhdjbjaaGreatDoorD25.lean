/- Own work over the model of the kit. -/
import Derived.Test.YtmmbjdgmhdjbjaaGreatDoorD24
import Derived.Test.YtmmbjdgmhdjbjaaGreatDoorD23
import Derived.Test.YtmmbjdgmhdjbjaaGreatDoorD13
import Derived.Test.YtmmbjdgmhdjbjaaGreatDoorD15
import Derived.Test.YtmmbjdgmhdjbjaaGreatDoorD16
set_option linter.unnecessarySimpa false
set_option linter.unusedSimpArgs false
set_option linter.unusedVariables false
set_option maxHeartbeats 8000000
set_option maxRecDepth 8000
namespace Go.AM
open Go Go.Proofs
def usD(u:US):D:=.agg [.int .i64 u.cls,.int .i64 u.line,.str u.name,.int .i64 u.kind,.int .i64 0,.int .i64 u.cnt,.bool u.deep]
def bL(f:Nat->AV):Nat->List PCls->List AV
 | _,[]=>[]
 | i,c :: r=>.dat (.str c.name) :: .dat (.int .i64 c.workers) :: .dat (.bool c.server) :: f i :: bL f (i+1) r
def f9(s:PSys)(us:List US):List Obj:=[.box [.sl 1 0 s.pools.length,.sl 2 0 s.locks.length,.sl 3 0 s.classes.length,.sl 4 0 us.length],.row (some 3) (s.pools.map aK),.row none (bb s.locks),.tab 4 (bL (fun _=>.nils) 0 s.classes),.row (some 7) (us.map usD)]
theorem e8:∀(l:List PCls) (i n:Nat),AV.unders n (bL (fun _=>.nils) i l)
 | [],_,_=>by simp only[bL,AV.unders]
 | c :: r,i,n=>by simp only[bL,AV.unders,AV.under,true_and];exact e8 r (i+1) n
theorem bH(s:PSys)(us:List US):∀x∈f9 s us,x.under 5:=by
 intro x hx
 simp only[f9,List.mem_cons,List.not_mem_nil,or_false]at hx
 rcases hx with rfl|rfl|rfl|rfl|rfl
 ·simp[Obj.under,AV.unders,AV.under]
 ·trivial
 ·trivial
 ·exact e8 _ _ _
 ·trivial
theorem K7{w:Str}(h:11<=bm w):vN w=bm w - 10/\1<=vN w/\vN w<=5:=by
 unfold bm at h
 split at h
 ·omega
 split at h
 ·omega
 split at h
 ·omega
 split at h
 ·omega
 rename_i h1 h2 h3 h4
 unfold vN bm
 rw[if_neg h1,if_neg h2,if_neg h3,if_neg h4]
 (repeat' split) <;> first|omega|(rename_i h5 h6 h7 h8 h9;simp only[h5,h6,h7,h8,h9,if_false]at h;omega)
def mE(w:List Str)(line:Nat)(s:PSys)(us:List US):Int×List US :=
 if b7 w (bm (w.getD 0 []))=false∨s.classes.length=0 then (4,us) else
 (0,us++[⟨s.classes.length - 1,line,w.getD 1 [],bm (w.getD 0 []) - 10,if bm (w.getD 0 [])=11∨bm (w.getD 0 [])=12 then ct (w.getD 2 []) else 0,decide (3<w.length)⟩])
def wE(xs:List AV)(obs:List Obj)(v0:AV)(obs' ex:List Obj)(mv0:List Nat):Prop:=∃(s:PSys) (us:List US) (w:List Str) (line:Nat),
 xs=[.ptr 0 0 0,.dat (.sl none (bb w)),.dat (.int .i64 line)]/\obs=f9 s us/\w≠[]/\w.length<=1000000/\(∀x∈w,x.length<=1000000)/\us.length<=100000/\s.classes.length<=100000/\11<=bm (w.getD 0 [])/\line<=1000000 /\
 v0=.dat (.int .i64 (mE w line s us).1)/\obs'=f9 s (mE w line s us).2/\ex=[]/\mv0=[4]
abbrev Q9:List (Nat×a8):=[(41,au E7),(31,au jx),(40,au Eo)]
theorem gX:OkG Tryz.prog (tbl Q9):=ai F4 (ai p8 (ai qz ae))
theorem cH(o:Nat):∀(l:List PCls) (i:Nat),AV.kills o (bL (fun _=>.nils) i l)=bL (fun _=>.nils) i l
 | [],_=>rfl
 | c :: r,i=>by simp only[bL,AV.kills,AV.kill];rw[cH o r (i+1)]
theorem gA{s:PSys}{us:List US}{U:Int×List US}{sl:List AV}{ex:List Obj}{d:D}(u:US)(h6:sl.getD 6 .top=.dat (.int .i64 0))(hU:U=(0,us++[u]))(hd:d=usD u) :
  post Tryz.prog Tryz.f19 (.dat (.int .i64 U.1)) (f9 s U.2++[]) [4] .ret ⟨sl,[.box [.sl 1 0 s.pools.length,.sl 2 0 s.locks.length,.sl 3 0 s.classes.length,.sl 4 0 (us.length+1)],.row (some 3) (s.pools.map aK),.row none (s.locks.map D.str),.tab 4 (AV.kills 4 (bL (fun _=>.nils) 0 s.classes)),
   .row (some 7) (List.take us.length (us.map usD)++[d])]++ex,5,bW 5 [] [4]⟩:=by
 subst hU;subst hd
 refine aH (mv':=[4]) (.inl rfl) [.tmp 6] rfl (fun _ h=>h) ?_
 simp only[go_sem,h6,List.append_nil]
 have e1:List.take us.length (us.map usD)++[usD u]=(us++[u]).map usD:=by rw[List.take_of_length_le (by simp)];simp
 have e2:us.length+1=(us++[u]).length:=by simp
 rw[cH,e1,e2]
 exact gf (own:=f9 s (us++[u])) (Nat.le_refl 5) (by simp only[AV.unders,AV.under];exact⟨trivial,trivial⟩) (bH s (us++[u]))
theorem zW:OkF Tryz.prog 19 (cr wE):=by
 refine c9 Tryz.func19 rfl (by decide) ?_
 rintro xs obs v0 obs' ex mv0 ⟨s,us,w,line,rfl,rfl,hw0,hwl,hwx,hul,hcl,hk,hln,rfl,rfl,rfl,rfl⟩
 obtain⟨hkp,hk1,hk5⟩:=K7 hk
 generalize hu:mE w line s us=U
 have hl0:0<w.length:=by cases w with|nil=>exact absurd rfl hw0|cons a r=>simp
 have fin:∀sl own (e:Int),sl.getD 6 .top=.dat (.int .i64 e)->U=(e,us)->post Tryz.prog Tryz.f19 (.dat (.int .i64 U.1)) (f9 s U.2++[]) [4] .ret ⟨sl,f9 s us++own,5,[]⟩:=fun sl own e h hU=>by
  subst hU
  refine aH (mv':=[]) (.inl rfl) [.tmp 6] rfl (by simp) ?_
  simp only[go_sem,h,List.append_nil]
  exact gf (own:=f9 s us) (Nat.le_refl 5) (by simp only[AV.unders,AV.under];exact⟨trivial,trivial⟩) (bH s us)
 have bad:b7 w (bm (w.getD 0 []))=false->U=(4,us):=fun h=>by rw[← hu];unfold mE;rw[if_pos (.inl h)]
 have bt1:(false == true)=false:=rfl
 have bt2:(false == false)=true:=rfl
 have bt3:(true == true)=true:=rfl
 have bt4:(true == false)=false:=rfl
 refine a6 (Γ:=tbl Q9) gX _ _ _ ?_
 have n0:D.nth (bb w) 0=.str (w.getD 0 []):=D.nth_map hl0
 have z0:(0:Int)<w.length:=by omega
 simp only[go_sem,Tryz.ntmps19,f9,n0,z0]
 refine ah E7 (aI 0 rfl) _ _ rfl ⟨w.getD 0 [],rfl,rfl⟩ (.inl rfl) ?_
 rw[hkp]
 have hK:bm (w.getD 0 [])=11∨bm (w.getD 0 [])=12∨bm (w.getD 0 [])=13∨bm (w.getD 0 [])=14∨bm (w.getD 0 [])=15:=by omega
 rcases hK with hK|hK|hK|hK|hK
 ·rw[hK]
  simp only[go_sem]
  by_cases n4:w.length=4
  ·obtain⟨a,b,c,d,rfl⟩:∃a b c d,w=[a,b,c,d]:=by
    match w,n4 with
    | [a,b,c,d],_=>exact⟨a,b,c,d,rfl⟩
   by_cases hd:d=[100,101,101,112]
   ·have hd':=eq_true hd
    have n3d:D.nth [D.str a,D.str b,D.str c,D.str d] 3=.str d:=rfl
    simp only[go_sem,n3d,hd',List.map_cons,List.map_nil,List.length_cons,List.length_nil,decide_true,decide_false,bt1,bt2,bt3,bt4,Bool.not_true,Bool.not_false,bb]
    refine ah jx (aI 1 rfl) [.str b] _ rfl ⟨b,rfl,rfl⟩ (.inl rfl) ?_
    by_cases hnm:gg b=true
    ·simp only[go_sem,hnm,Bool.not_true]
     refine ah Eo (aI 2 rfl) [.str c] _ rfl ⟨c,rfl,hwx c (by simp),rfl⟩ (.inl rfl) ?_
     by_cases hc:ct c<0
     ·simp only[go_sem,hc,decide_true]
      exact fin _ _ _ rfl (bad (by rw[hK];simp[b7,cw,ij,hd,show ¬0<=ct c by omega]))
     ·have hc':=eq_false hc
      simp only[go_sem,hc',decide_false]
      have hf:b7 [a,b,c,d] 11=true:=by simp[b7,cw,ij,hnm,hd,show 0<=ct c by omega]
      by_cases hc0:s.classes.length=0
      ·have pu:((s.classes.length:Nat):Int)=0:=by omega
       simp only[go_sem,pu,decide_true]
       exact fin _ _ _ rfl (by rw[← hu];unfold mE;rw[if_pos (.inr hc0)])
      ·have pu:=eq_false (show ¬((s.classes.length:Nat):Int)=0 by omega)
       simp only[go_sem,pu,decide_false]
       refine aX [(22,[0])] [(19,[4]),(0,[4]),(5,[4]),(6,[4]),(7,[4]),(8,[4])] (pf:=[]) (mf:=[]) mixed gX b0 ew fQ (il [0,1,2,3,4,5,6,7,8,9,10,11,12,13,14,15,16,17,18,19,20,21,22]) (by kernel_rfl) ?_
       have nb:D.nth [D.str a,D.str b,D.str c] 1=.str b:=rfl
       simp only[go_sem,nb]
       refine⟨ac.2 (by omega),by omega,by omega,?_⟩
       refine gA ⟨s.classes.length - 1,line,b,1,ct c,true⟩ rfl ?_ ?_
       ·rw[← hu];unfold mE;rw[if_neg (by rw[hK,hf];simp[hc0]),hK];simp
       ·have:((s.classes.length - 1:Nat):Int)=(s.classes.length:Int) - 1:=by omega
        simp only[usD,this];rfl
    ·have kS:gg b=false:=by simpa using hnm
     simp only[go_sem,kS,Bool.not_false]
     exact fin _ _ _ rfl (bad (by rw[hK];simp[b7,kS]))
   ·have hd':=eq_false hd
    have n3d:D.nth [D.str a,D.str b,D.str c,D.str d] 3=.str d:=rfl
    simp only[go_sem,n3d,hd',List.map_cons,List.map_nil,List.length_cons,List.length_nil,decide_true,decide_false,bt1,bt2,bt3,bt4,Bool.not_true,Bool.not_false,bb]
    exact fin _ _ _ rfl (bad (by rw[hK];simp[b7,cw,ij,hd]))
  have n4':=eq_false (show ¬(w.length:Int)=4 by omega)
  by_cases n3:w.length=3
  ·obtain⟨a,b,c,rfl⟩:∃a b c,w=[a,b,c]:=by
    match w,n3 with
    | [a,b,c],_=>exact⟨a,b,c,rfl⟩
   simp only[go_sem,List.map_cons,List.map_nil,List.length_cons,List.length_nil,decide_true,decide_false,bt1,bt2,bt3,bt4,Bool.not_true,Bool.not_false,bb]
   refine ah jx (aI 1 rfl) [.str b] _ rfl ⟨b,rfl,rfl⟩ (.inl rfl) ?_
   by_cases hnm:gg b=true
   ·simp only[go_sem,hnm,Bool.not_true]
    refine ah Eo (aI 2 rfl) [.str c] _ rfl ⟨c,rfl,hwx c (by simp),rfl⟩ (.inl rfl) ?_
    by_cases hc:ct c<0
    ·simp only[go_sem,hc,decide_true]
     exact fin _ _ _ rfl (bad (by rw[hK];simp[b7,cw,ij,show ¬0<=ct c by omega]))
    ·have hc':=eq_false hc
     simp only[go_sem,hc',decide_false]
     have hf:b7 [a,b,c] 11=true:=by simp[b7,cw,ij,hnm,show 0<=ct c by omega]
     by_cases hc0:s.classes.length=0
     ·have pu:((s.classes.length:Nat):Int)=0:=by omega
      simp only[go_sem,pu,decide_true]
      exact fin _ _ _ rfl (by rw[← hu];unfold mE;rw[if_pos (.inr hc0)])
     ·have pu:=eq_false (show ¬((s.classes.length:Nat):Int)=0 by omega)
      simp only[go_sem,pu,decide_false]
      refine aX [(22,[0])] [(19,[4]),(0,[4]),(5,[4]),(6,[4]),(7,[4]),(8,[4])] (pf:=[]) (mf:=[]) mixed gX b0 ew fQ (il [0,1,2,3,4,5,6,7,8,9,10,11,12,13,14,15,16,17,18,19,20,21,22]) (by kernel_rfl) ?_
      have nb:D.nth [D.str a,D.str b,D.str c] 1=.str b:=rfl
      simp only[go_sem,nb]
      refine⟨ac.2 (by omega),by omega,by omega,?_⟩
      refine gA ⟨s.classes.length - 1,line,b,1,ct c,false⟩ rfl ?_ ?_
      ·rw[← hu];unfold mE;rw[if_neg (by rw[hK,hf];simp[hc0]),hK];simp
      ·have:((s.classes.length - 1:Nat):Int)=(s.classes.length:Int) - 1:=by omega
       simp only[usD,this];rfl
   ·have kS:gg b=false:=by simpa using hnm
    simp only[go_sem,kS,Bool.not_false]
    exact fin _ _ _ rfl (bad (by rw[hK];simp[b7,kS]))
  ·have n3':=eq_false (show ¬(w.length:Int)=3 by omega)
   simp only[go_sem,n4',n3',bt4,decide_true,decide_false,Bool.not_false,Bool.not_true]
   exact fin _ _ _ rfl (bad (by rw[hK];simp[b7,cw,ij,n3,n4]))
 ·rw[hK]
  simp only[go_sem]
  by_cases n3:w.length=3
  ·obtain⟨a,b,c,rfl⟩:∃a b c,w=[a,b,c]:=by
    match w,n3 with
    | [a,b,c],_=>exact⟨a,b,c,rfl⟩
   simp only[go_sem,List.map_cons,List.map_nil,List.length_cons,List.length_nil,decide_true,decide_false,bt1,bt2,bt3,bt4,Bool.not_true,Bool.not_false,bb]
   refine ah jx (aI 1 rfl) [.str b] _ rfl ⟨b,rfl,rfl⟩ (.inl rfl) ?_
   by_cases hnm:gg b=true
   ·simp only[go_sem,hnm,Bool.not_true]
    refine ah Eo (aI 2 rfl) [.str c] _ rfl ⟨c,rfl,hwx c (by simp),rfl⟩ (.inl rfl) ?_
    by_cases hc:ct c<0
    ·simp only[go_sem,hc,decide_true]
     exact fin _ _ _ rfl (bad (by rw[hK];simp[b7,cw,ij,show ¬0<=ct c by omega]))
    ·have hc':=eq_false hc
     simp only[go_sem,hc',decide_false]
     have hf:b7 [a,b,c] 12=true:=by simp[b7,cw,ij,hnm,show 0<=ct c by omega]
     by_cases hc0:s.classes.length=0
     ·have pu:((s.classes.length:Nat):Int)=0:=by omega
      simp only[go_sem,pu,decide_true]
      exact fin _ _ _ rfl (by rw[← hu];unfold mE;rw[if_pos (.inr hc0)])
     ·have pu:=eq_false (show ¬((s.classes.length:Nat):Int)=0 by omega)
      simp only[go_sem,pu,decide_false]
      refine aX [(22,[0])] [(19,[4]),(0,[4]),(5,[4]),(6,[4]),(7,[4]),(8,[4])] (pf:=[]) (mf:=[]) mixed gX b0 ew fQ (il [0,1,2,3,4,5,6,7,8,9,10,11,12,13,14,15,16,17,18,19,20,21,22]) (by kernel_rfl) ?_
      have nb:D.nth [D.str a,D.str b,D.str c] 1=.str b:=rfl
      simp only[go_sem,nb]
      refine⟨ac.2 (by omega),by omega,by omega,?_⟩
      refine gA ⟨s.classes.length - 1,line,b,2,ct c,false⟩ rfl ?_ ?_
      ·rw[← hu];unfold mE;rw[if_neg (by rw[hK,hf];simp[hc0]),hK];simp
      ·have:((s.classes.length - 1:Nat):Int)=(s.classes.length:Int) - 1:=by omega
       simp only[usD,this];rfl
   ·have kS:gg b=false:=by simpa using hnm
    simp only[go_sem,kS,Bool.not_false]
    exact fin _ _ _ rfl (bad (by rw[hK];simp[b7,kS]))
  ·have n3':=eq_false (show ¬(w.length:Int)=3 by omega)
   simp only[go_sem,n3',bt4,decide_true,decide_false,Bool.not_false,Bool.not_true]
   exact fin _ _ _ rfl (bad (by rw[hK];simp[b7,cw,n3]))
 ·rw[hK]
  simp only[go_sem]
  by_cases n2:w.length=2
  ·obtain⟨a,b,rfl⟩:∃a b,w=[a,b]:=by
    match w,n2 with
    | [a,b],_=>exact⟨a,b,rfl⟩
   simp only[go_sem,List.map_cons,List.map_nil,List.length_cons,List.length_nil,decide_true,decide_false,bt1,bt2,bt3,bt4,Bool.not_true,Bool.not_false,bb]
   refine ah jx (aI 1 rfl) [.str b] _ rfl ⟨b,rfl,rfl⟩ (.inl rfl) ?_
   by_cases hnm:gg b=true
   ·simp only[go_sem,hnm,Bool.not_true]
    have hf:b7 [a,b] 13=true:=by simp[b7,cw,ij,hnm]
    by_cases hc0:s.classes.length=0
    ·have pu:((s.classes.length:Nat):Int)=0:=by omega
     simp only[go_sem,pu,decide_true]
     exact fin _ _ _ rfl (by rw[← hu];unfold mE;rw[if_pos (.inr hc0)])
    ·have pu:=eq_false (show ¬((s.classes.length:Nat):Int)=0 by omega)
     simp only[go_sem,pu,decide_false]
     refine aX [(22,[0])] [(19,[4]),(0,[4]),(5,[4]),(6,[4]),(7,[4]),(8,[4])] (pf:=[]) (mf:=[]) mixed gX b0 ew fQ (il [0,1,2,3,4,5,6,7,8,9,10,11,12,13,14,15,16,17,18,19,20,21,22]) (by kernel_rfl) ?_
     have nb:D.nth [D.str a,D.str b] 1=.str b:=rfl
     simp only[go_sem,nb]
     refine⟨ac.2 (by omega),by omega,by omega,?_⟩
     refine gA ⟨s.classes.length - 1,line,b,3,0,false⟩ rfl ?_ ?_
     ·rw[← hu];unfold mE;rw[if_neg (by rw[hK,hf];simp[hc0]),hK];simp
     ·have:((s.classes.length - 1:Nat):Int)=(s.classes.length:Int) - 1:=by omega
      simp only[usD,this];rfl
   ·have kS:gg b=false:=by simpa using hnm
    simp only[go_sem,kS,Bool.not_false]
    exact fin _ _ _ rfl (bad (by rw[hK];simp[b7,kS]))
  ·have n2':=eq_false (show ¬(w.length:Int)=2 by omega)
   have hb:=bad (by rw[hK];simp[b7,cw,n2])
   by_cases n3:w.length=3
   ·have n3':=eq_true (show (w.length:Int)=3 by omega)
    simp only[go_sem,n2',n3',bt1,decide_true,decide_false,Bool.not_false,Bool.not_true]
    exact fin _ _ _ rfl hb
   have n3':=eq_false (show ¬(w.length:Int)=3 by omega)
   simp only[go_sem,n2',n3',bt2,decide_true,decide_false,Bool.not_false,Bool.not_true]
   exact fin _ _ _ rfl hb
 ·rw[hK]
  simp only[go_sem]
  by_cases n2:w.length=2
  ·obtain⟨a,b,rfl⟩:∃a b,w=[a,b]:=by
    match w,n2 with
    | [a,b],_=>exact⟨a,b,rfl⟩
   simp only[go_sem,List.map_cons,List.map_nil,List.length_cons,List.length_nil,decide_true,decide_false,bt1,bt2,bt3,bt4,Bool.not_true,Bool.not_false,bb]
   refine ah jx (aI 1 rfl) [.str b] _ rfl ⟨b,rfl,rfl⟩ (.inl rfl) ?_
   by_cases hnm:gg b=true
   ·simp only[go_sem,hnm,Bool.not_true]
    have hf:b7 [a,b] 14=true:=by simp[b7,cw,ij,hnm]
    by_cases hc0:s.classes.length=0
    ·have pu:((s.classes.length:Nat):Int)=0:=by omega
     simp only[go_sem,pu,decide_true]
     exact fin _ _ _ rfl (by rw[← hu];unfold mE;rw[if_pos (.inr hc0)])
    ·have pu:=eq_false (show ¬((s.classes.length:Nat):Int)=0 by omega)
     simp only[go_sem,pu,decide_false]
     refine aX [(22,[0])] [(19,[4]),(0,[4]),(5,[4]),(6,[4]),(7,[4]),(8,[4])] (pf:=[]) (mf:=[]) mixed gX b0 ew fQ (il [0,1,2,3,4,5,6,7,8,9,10,11,12,13,14,15,16,17,18,19,20,21,22]) (by kernel_rfl) ?_
     have nb:D.nth [D.str a,D.str b] 1=.str b:=rfl
     simp only[go_sem,nb]
     refine⟨ac.2 (by omega),by omega,by omega,?_⟩
     refine gA ⟨s.classes.length - 1,line,b,4,0,false⟩ rfl ?_ ?_
     ·rw[← hu];unfold mE;rw[if_neg (by rw[hK,hf];simp[hc0]),hK];simp
     ·have:((s.classes.length - 1:Nat):Int)=(s.classes.length:Int) - 1:=by omega
      simp only[usD,this];rfl
   ·have kS:gg b=false:=by simpa using hnm
    simp only[go_sem,kS,Bool.not_false]
    exact fin _ _ _ rfl (bad (by rw[hK];simp[b7,kS]))
  ·have n2':=eq_false (show ¬(w.length:Int)=2 by omega)
   have hb:=bad (by rw[hK];simp[b7,cw,n2])
   by_cases n3:w.length=3
   ·have n3':=eq_true (show (w.length:Int)=3 by omega)
    simp only[go_sem,n2',n3',bt1,decide_true,decide_false,Bool.not_false,Bool.not_true]
    exact fin _ _ _ rfl hb
   have n3':=eq_false (show ¬(w.length:Int)=3 by omega)
   simp only[go_sem,n2',n3',bt2,decide_true,decide_false,Bool.not_false,Bool.not_true]
   exact fin _ _ _ rfl hb
 ·rw[hK]
  simp only[go_sem]
  by_cases n2:w.length=2
  ·obtain⟨a,b,rfl⟩:∃a b,w=[a,b]:=by
    match w,n2 with
    | [a,b],_=>exact⟨a,b,rfl⟩
   simp only[go_sem,List.map_cons,List.map_nil,List.length_cons,List.length_nil,decide_true,decide_false,bt1,bt2,bt3,bt4,Bool.not_true,Bool.not_false,bb]
   refine ah jx (aI 1 rfl) [.str b] _ rfl ⟨b,rfl,rfl⟩ (.inl rfl) ?_
   by_cases hnm:gg b=true
   ·simp only[go_sem,hnm,Bool.not_true]
    have hf:b7 [a,b] 15=true:=by simp[b7,cw,ij,hnm]
    by_cases hc0:s.classes.length=0
    ·have pu:((s.classes.length:Nat):Int)=0:=by omega
     simp only[go_sem,pu,decide_true]
     exact fin _ _ _ rfl (by rw[← hu];unfold mE;rw[if_pos (.inr hc0)])
    ·have pu:=eq_false (show ¬((s.classes.length:Nat):Int)=0 by omega)
     simp only[go_sem,pu,decide_false]
     refine aX [(22,[0])] [(19,[4]),(0,[4]),(5,[4]),(6,[4]),(7,[4]),(8,[4])] (pf:=[]) (mf:=[]) mixed gX b0 ew fQ (il [0,1,2,3,4,5,6,7,8,9,10,11,12,13,14,15,16,17,18,19,20,21,22]) (by kernel_rfl) ?_
     have nb:D.nth [D.str a,D.str b] 1=.str b:=rfl
     simp only[go_sem,nb]
     refine⟨ac.2 (by omega),by omega,by omega,?_⟩
     refine gA ⟨s.classes.length - 1,line,b,5,0,false⟩ rfl ?_ ?_
     ·rw[← hu];unfold mE;rw[if_neg (by rw[hK,hf];simp[hc0]),hK];simp
     ·have:((s.classes.length - 1:Nat):Int)=(s.classes.length:Int) - 1:=by omega
      simp only[usD,this];rfl
   ·have kS:gg b=false:=by simpa using hnm
    simp only[go_sem,kS,Bool.not_false]
    exact fin _ _ _ rfl (bad (by rw[hK];simp[b7,kS]))
  ·have n2':=eq_false (show ¬(w.length:Int)=2 by omega)
   have hb:=bad (by rw[hK];simp[b7,cw,n2])
   by_cases n3:w.length=3
   ·have n3':=eq_true (show (w.length:Int)=3 by omega)
    simp only[go_sem,n2',n3',bt1,decide_true,decide_false,Bool.not_false,Bool.not_true]
    exact fin _ _ _ rfl hb
   have n3':=eq_false (show ¬(w.length:Int)=3 by omega)
   simp only[go_sem,n2',n3',bt2,decide_true,decide_false,Bool.not_false,Bool.not_true]
   exact fin _ _ _ rfl hb
structure PSys.big (s:PSys):Prop where
 np:s.pools.length<=100000
 nl:s.locks.length<=100000
 nc:s.classes.length<=100000
def zF(ds:List D)(xs:List D):Prop:=∃s:PSys,ds=[aY s]/\s.big/\xs=(aB s).map .str
theorem Bm:OkF Tryz.prog 30 (fk (pb none zF)):=by
 refine ec Tryz.func30 rfl (by decide) ?_
 rintro ds v ob ⟨xs,⟨s,rfl,⟨hp,hl,hc⟩,rfl⟩,rfl,rfl⟩
 obtain⟨pools,locks,classes⟩:=s
 simp only at hp hl hc ⊢
 generalize hv:aB ⟨pools,locks,classes⟩=V
 rw[List.length_map]
 refine a6 (Γ:=tbl []) ae _ _ _ ?_
 simp only[go_sem,Tryz.ntmps30,aY]
 refine av (cQ 3 none rfl (Nat.zero_le _)) ?_
 simp only[go_sem]
 refine ap (fun k:Nat=>⟨an 39 [(1,.ptr 0 0 0),(2,.nils),(3,.sl 1 0 k),(9,.dat (.sl (some 3) (pools.map aK))),(10,.dat (.int .i64 pools.length)),(11,.dat (.int .i64 k))],
   [.box [.dat (.sl (some 3) (pools.map aK)),.dat (.sl none (locks.map .str)),.dat (.sl (some 4) (classes.map bf))],.row none ((pools.take k).map fun p:PPool=>D.str p.name)],0,[]⟩)
  (fun k=>k<=pools.length) (fun k=>pools.length - k) 0 (Nat.zero_le _) ?_ ?_
 ·exact a7 (by simp only[go_sem,Int.natCast_zero])
 ·rintro k hk
  refine a6 (Γ:=tbl []) ae _ _ _ ?_
  cases hd:pools.drop k with
  | nil =>
   have he:=aj hd hk
   have hk2:¬(k:Int)<pools.length:=by omega
   subst he
   have hlen:(pools.map fun p:PPool=>D.str p.name).take pools.length=pools.map fun p:PPool=>D.str p.name:=List.take_of_length_le (by simp)
   simp only[go_sem,hk2,List.take_length,hlen]
   refine⟨by omega,by omega,?_⟩
   refine ap (fun k:Nat=>⟨an 39 [(1,.ptr 0 0 0),(2,.nils),(3,.sl 1 0 (pools.length+locks.length+k)),(26,.dat (.sl (some 4) (classes.map bf))),(27,.dat (.int .i64 classes.length)),(28,.dat (.int .i64 k))],
     [.box [.dat (.sl (some 3) (pools.map aK)),.dat (.sl none (locks.map .str)),.dat (.sl (some 4) (classes.map bf))],.row none ((pools.map fun p:PPool=>D.str p.name)++locks.map D.str++(classes.take k).map fun p:PCls=>D.str p.name)],0,[]⟩)
    (fun k=>k<=classes.length) (fun k=>classes.length - k) 0 (Nat.zero_le _) ?_ ?_
   ·simp only[List.take_zero,List.map_nil,List.append_nil]
    exact a7 (by simp only[go_sem,Int.natCast_zero])
   ·rintro k hk
    refine a6 (Γ:=tbl []) ae _ _ _ ?_
    cases hd:classes.drop k with
    | nil =>
     have he:=aj hd hk
     have hk2:¬(k:Int)<classes.length:=by omega
     subst he
     simp only[go_sem,hk2,List.take_length]
     refine aH (mv':=[]) (.inl rfl) [.tmp 2] rfl (fun _ h=>h) ?_
     simp only[go_sem]
     have e:((pools.map fun p:PPool=>D.str p.name)++locks.map D.str++classes.map fun p:PCls=>D.str p.name)=V.map .str:=by
      rw[← hv];simp[aB,List.map_map,Function.comp_def]
     have e2:pools.length+locks.length+classes.length=V.length:=by rw[← hv];simp[aB];omega
     rw[e,e2]
     refine Le.trans (ol (s':=[.sl 0 0 V.length]) (own':=[.row none (V.map .str),.box [.dat (.sl (some 3) (pools.map aK)),.dat (.sl none (locks.map .str)),.dat (.sl (some 4) (classes.map bf))]]) 0 1 (by decide:(0:Nat)<2) (by decide:(1:Nat)<2) (by rfl) (by rfl)) ?_
     refine aP (own:=[_]) (ex:=[_]) (Nat.zero_le _) ?_ ?_ ?_
     ·simp only[go_sem]
     ·simp only[go_sem]
     ·simp only[go_sem,Obj.under,AV.unders,AV.under]
    | cons c q =>
     have hlt:=ao hd
     have hk2:(k:Int)<classes.length:=by omega
     have hk0:(0:Int)<=k:=Int.natCast_nonneg k
     have hn:=ak (f:=bf) hd
     have hml:((classes.take k).map fun p:PCls=>D.str p.name).length=k:=by simp;omega
     have dj:((pools.map fun p:PPool=>D.str p.name)++locks.map D.str++(classes.take k).map fun p:PCls=>D.str p.name).length=pools.length+locks.length+k:=by simp;omega
     have htk:((pools.map fun p:PPool=>D.str p.name)++locks.map D.str++(classes.take k).map fun p:PCls=>D.str p.name).take (pools.length+locks.length+k)=(pools.map fun p:PPool=>D.str p.name)++locks.map D.str++(classes.take k).map fun p:PCls=>D.str p.name :=
      List.take_of_length_le (by omega)
     have hsn:(pools.map fun p:PPool=>D.str p.name)++locks.map D.str++((classes.take (k+1)).map fun p:PCls=>D.str p.name)=((pools.map fun p:PPool=>D.str p.name)++locks.map D.str++(classes.take k).map fun p:PCls=>D.str p.name)++[.str c.name]:=by
      rw[mZ (f:=PCls.name) hd,List.append_assoc,List.append_assoc];simp
     generalize ((pools.map fun p:PPool=>D.str p.name)++locks.map D.str++(classes.take k).map fun p:PCls=>D.str p.name)=row at *
     simp only[go_sem,hk2,hk0,hn,bf,dj,htk]
     refine⟨by omega,by omega,ac.2 (by omega),k+1,by omega,by omega,?_⟩
     rw[hsn]
     refine aP (own:=[_,_]) (ex:=[_,_]) (Nat.zero_le _) ?_ ?_ ?_
     ·simp only[go_sem,Int.natCast_add,Int.cast_ofNat_Int,Nat.add_assoc]
     ·simp only[go_sem]
     ·simp only[go_sem,Obj.under,AV.unders,AV.under]
  | cons c q =>
   have hlt:=ao hd
   have hk2:(k:Int)<pools.length:=by omega
   have hk0:(0:Int)<=k:=Int.natCast_nonneg k
   have hn:=ak (f:=aK) hd
   have dj:((pools.take k).map fun p:PPool=>D.str p.name).length=k:=by simp;omega
   have htk:((pools.take k).map fun p:PPool=>D.str p.name).take k=(pools.take k).map fun p:PPool=>D.str p.name:=List.take_of_length_le (by omega)
   have hsn:=mZ (f:=PPool.name) hd
   generalize ((pools.take k).map fun p:PPool=>D.str p.name)=row at *
   simp only[go_sem,hk2,hk0,hn,aK,dj,htk]
   refine⟨by omega,by omega,ac.2 (by omega),k+1,by omega,by omega,?_⟩
   rw[hsn]
   refine aP (own:=[_,_]) (ex:=[_,_]) (Nat.zero_le _) ?_ ?_ ?_
   ·simp only[go_sem,Int.natCast_add,Int.cast_ofNat_Int,Nat.add_assoc]
   ·simp only[go_sem]
   ·simp only[go_sem,Obj.under,AV.unders,AV.under]
def gu(w:List Str)(s:PSys):Int×PSys :=
 if b7 w (bm (w.getD 0 []))=false then (4,s) else if w.getD 1 []∈aB s then (5,s) else
 (0,ru s (bm (w.getD 0 [])) (w.getD 1 []) (if bm (w.getD 0 [])=2 then 0 else ct (w.getD 2 [])) (if bm (w.getD 0 [])=1 then ct (w.getD 3 []) else 0))
def zn(xs:List AV)(obs:List Obj)(v0:AV)(obs' ex:List Obj)(mv0:List Nat):Prop:=∃(s:PSys) (us:List US) (w:List Str),
 xs=[.ptr 0 0 0,.dat (.sl none (bb w))]/\obs=f9 s us/\w≠[]/\w.length<=1000000/\(∀x∈w,x.length<=1000000)/\s.big/\s.pools.length<100000/\s.locks.length<100000/\s.classes.length<100000/\(∀c∈s.classes,c.steps=[])/\1<=bm (w.getD 0 [])/\bm (w.getD 0 [])<=4 /\
 v0=.dat (.int .i64 (gu w s).1)/\obs'=f9 (gu w s).2 us/\ex=[]/\mv0=[1,2,3]
def HE(c:PCls):List D:=[.str c.name,.int .i64 c.workers,.bool c.server,bD c.steps]
theorem tI{own:List Obj}:∀(l:List PCls) (i:Nat),(∀c∈l,c.steps=[])->nB own (bL (fun _=>.nils) i l) (l.map HE).flatten
 | [],_,_=>trivial
 | c :: r,i,h=>by
  have hc:=h c (by simp)
  rw[List.map_cons,List.flatten_cons]
  simp only[HE,bL,hc,bD,List.map_nil]
  exact⟨gS,gS,gS,B4,tI r (i+1) fun y hy=>h y (by simp[hy])⟩
theorem mK{s:PSys}{us:List US}{ex:List Obj}(h:∀c∈s.classes,c.steps=[]):Hl (f9 s us++ex) (.agg [.sl 1 0 s.pools.length,.sl 2 0 s.locks.length,.sl 3 0 s.classes.length]) (aY s):=by
 refine Hy ⟨?_,?_,?_,trivial⟩
 ·have:=gF (own:=f9 s us++ex) (o:=1) (ag:=some 3) (xs:=s.pools.map aK) rfl
  rwa [List.length_map]at this
 ·have:=gF (own:=f9 s us++ex) (o:=2) (ag:=none) (xs:=s.locks.map .str) rfl
  rwa [List.length_map]at this
 ·have:=G0 (own:=f9 s us++ex) (o:=3) (len:=s.classes.length) (k:=4) (cs:=bL (fun _=>.nils) 0 s.classes) (M:=s.classes.map HE) rfl (by decide) (fun r hr=>by
   obtain⟨c,_,rfl⟩:=List.mem_map.1 hr;rfl) (by simp) (tI _ _ h)
  have e:(s.classes.map HE).map D.agg=s.classes.map bf:=by rw[List.map_map];rfl
  rwa [e]at this
abbrev mA:List (Nat×a8):=[(31,au jx),(40,au Eo),(30,Fa none zF),(32,Gg uU)]
theorem bS:OkG Tryz.prog (tbl mA):=ai p8 (ai qz (ai (Bx Bm) (ai (Fe D8) ae)))
theorem Up:bF (tbl mA) [30]:=by
 rintro g args own v own' mv hg ⟨C,hm,hC⟩
 have hg':g=30:=by
  rcases hg with h|h
  ·simpa using h
  ·simp[WJ]at h
 subst hg'
 simp only[mA,List.mem_cons,Prod.mk.injEq,List.not_mem_nil,or_false]at hm
 rcases hm with⟨h,_⟩|⟨h,_⟩|⟨_,rfl⟩|⟨h,_⟩
 ·simp at h
 ·simp at h
 ·obtain⟨ds,xs,_,_,_,_,rfl,rfl⟩:=hC
  exact⟨⟨_,rfl⟩,rfl⟩
 ·simp at h
theorem j8(f:Nat->AV):∀(l:List PCls) (i:Nat),(bL f i l).length=l.length*4
 | [],_=>rfl
 | c :: r,i=>by simp only[bL,List.length_cons,j8 f r];omega
theorem nD(f:Nat->AV)(c:PCls):∀(l:List PCls) (i:Nat),bL f i (l++[c])=bL f i l++[.dat (.str c.name),.dat (.int .i64 c.workers),.dat (.bool c.server),f (i+l.length)]
 | [],i=>rfl
 | x :: r,i=>by
  simp only[List.cons_append,bL,nD f c r,List.length_cons]
  rw[show i+1+r.length=i+(r.length+1) by omega]
theorem mJ{s':PSys}{us:List US}{U:Int×PSys}{sl:List AV}{own ex:List Obj}{mvs:List Nat}(h4:sl.getD 4 .top=.dat (.int .i64 0))(hU:U=(0,s'))(ho:own=f9 s' us++ex)(hm:∀o,o∈mvs->o∈[1,2,3]) :
  post Tryz.prog Tryz.f18 (.dat (.int .i64 U.1)) (f9 U.2 us++[]) [1,2,3] .ret ⟨sl,own,5,mvs⟩:=by
 subst hU;subst ho
 refine aH (mv':=mvs) (.inl rfl) [.tmp 4] rfl hm ?_
 simp only[go_sem,h4,List.append_nil]
 exact gf (own:=f9 s' us) (Nat.le_refl 5) (by simp only[AV.unders,AV.under];exact⟨trivial,trivial⟩) (bH s' us)
theorem wv:OkF Tryz.prog 18 (cr zn):=by
 refine c9 Tryz.func18 rfl (by decide) ?_
 rintro xs obs v0 obs' ex mv0 ⟨s,us,w,rfl,rfl,hw0,hwl,hwx,hbig,hp,hl,hc,hst,hk1,hk4,rfl,rfl,rfl,rfl⟩
 generalize hu:gu w s=U
 have hl0:0<w.length:=by cases w with|nil=>exact absurd rfl hw0|cons a r=>simp
 have fin:∀sl own (e:Int),sl.getD 4 .top=.dat (.int .i64 e)->U=(e,s)->post Tryz.prog Tryz.f18 (.dat (.int .i64 U.1)) (f9 U.2 us++[]) [1,2,3] .ret ⟨sl,f9 s us++own,5,[]⟩:=fun sl own e h hU=>by
  subst hU
  refine aH (mv':=[]) (.inl rfl) [.tmp 4] rfl (by simp) ?_
  simp only[go_sem,h,List.append_nil]
  exact gf (own:=f9 s us) (Nat.le_refl 5) (by simp only[AV.unders,AV.under];exact⟨trivial,trivial⟩) (bH s us)
 have bad:b7 w (bm (w.getD 0 []))=false->U=(4,s):=fun h=>by rw[← hu];unfold gu;rw[if_pos h]
 refine a6 (Γ:=tbl mA) bS _ _ _ ?_
 have n0:D.nth (bb w) 0=.str (w.getD 0 []):=D.nth_map hl0
 have z0:(0:Int)<w.length:=by omega
 have hK:w.getD 0 []=[112,111,111,108]∨w.getD 0 []=[109,117,116,101,120]∨w.getD 0 []=[99,108,97,115,115]∨w.getD 0 []=[115,101,114,118,101,114]:=by
  unfold bm at hk1 hk4
  split at hk1
  ·exact .inl ‹_›
  split at hk1
  ·exact .inr (.inl ‹_›)
  split at hk1
  ·exact .inr (.inr (.inl ‹_›))
  split at hk1
  ·exact .inr (.inr (.inr ‹_›))
  rename_i h1 h2 h3 h4
  rw[if_neg h1,if_neg h2,if_neg h3,if_neg h4]at hk4
  exfalso
  revert hk1 hk4
  (repeat' split) <;> omega
 have hnl:(aB s).length<4611686018427387904:=by
  have:=hbig.np;have:=hbig.nl;have:=hbig.nc
  simp only[aB,List.length_append,List.length_map];omega
 have numN_rng:∀x:Str,-1<=ct x/\ct x<=999:=fun x=>by
  unfold ct
  split
  ·omega
  ·split
   ·rename_i h1 h2
    have:=r5 x (by omega) h2
    omega
   ·omega
 rcases hK with hK|hK|hK|hK
 ·have hk:bm (w.getD 0 [])=1:=by rw[hK];rfl
  have q2:=eq_false (by decide:¬([112,111,111,108]:Str)=[109,117,116,101,120])
  have q4:=eq_false (by decide:¬([112,111,111,108]:Str)=[115,101,114,118,101,114])
  by_cases nn:w.length=4
  ·have nn':=eq_true (show (w.length:Int)=4 by omega)
   have n1:D.nth (bb w) 1=.str (w.getD 1 []):=D.nth_map (by omega)
   have z1:(1:Int)<w.length:=by omega
   have z2:(2:Int)<=w.length:=by omega
   simp only[go_sem,Tryz.ntmps18,f9,n0,n1,z0,z1,nn',hK,q2,q4,eq_self,decide_true,decide_false,Bool.not_true]
   refine ah jx (aI 0 rfl) [.str (w.getD 1 [])] _ rfl ⟨_,rfl,rfl⟩ (.inl rfl) ?_
   obtain⟨a,b,c,d,rfl⟩:∃a b c d,w=[a,b,c,d]:=by
    match w,nn with
    | [a,b,c,d],_=>exact⟨a,b,c,d,rfl⟩
   have eb:[a,b,c,d].getD 1 []=b:=rfl
   rw[eb]
   have ha:a=[112,111,111,108]:=hK
   subst ha
   have nb:D.nth [D.str [112,111,111,108],D.str b,D.str c,D.str d] 1=.str b:=rfl
   have na:D.nth [D.str [112,111,111,108],D.str b,D.str c,D.str d] 0=.str [112,111,111,108]:=rfl
   have m0a:D.nth [D.int .i64 (ct c),D.int .i64 0] 0=.int .i64 (ct c):=rfl
   have m0b:D.nth [D.int .i64 (ct c),D.int .i64 (ct d)] 0=.int .i64 (ct c):=rfl
   have m1b:D.nth [D.int .i64 (ct c),D.int .i64 (ct d)] 1=.int .i64 (ct d):=rfl
   by_cases hnm:gg b=true
   ·simp only[go_sem,hnm,Bool.not_true,List.map_cons,List.map_nil,List.length_cons,List.length_nil]
    refine iW 3 (er ?_)
    refine a6 (Γ:=tbl mA) bS _ _ _ ?_
    simp only[go_sem]
    refine ah Eo (aI 1 rfl) [.str c] _ rfl ⟨c,rfl,hwx c (by simp),rfl⟩ (.inl rfl) ?_
    by_cases hc:ct c<0
    ·simp only[go_sem,m0a,m0b,m1b,hc,decide_true]
     exact fin _ [_] _ rfl (bad (by rw[hk];simp[b7,cw,show ¬0<=ct c by omega]))
    have hc':=eq_false hc
    simp only[go_sem,m0a,m0b,m1b,hc',decide_false]
    have ic:=numN_rng c
    refine⟨ac.2 (by omega),?_⟩
    refine er ?_
    refine a6 (Γ:=tbl mA) bS _ _ _ ?_
    simp only[go_sem]
    refine ah Eo (aI 1 rfl) [.str d] _ rfl ⟨d,rfl,hwx d (by simp),rfl⟩ (.inl rfl) ?_
    by_cases hd:ct d<0
    ·simp only[go_sem,m0a,m0b,m1b,hd,decide_true]
     exact fin _ [_] _ rfl (bad (by rw[hk];simp[b7,cw,show ¬0<=ct d by omega]))
    have hd':=eq_false hd
    simp only[go_sem,m0a,m0b,m1b,hd',decide_false]
    have id:=numN_rng d
    refine⟨ac.2 (by omega),?_⟩
    refine er ?_
    refine a6 (Γ:=tbl mA) bS _ _ _ ?_
    simp only[go_sem]
    refine aX [] [] (pf:=[]) (mf:=[30]) mixed bS b0 ew Up (il [0,1,2,3,5,6,7,4,8]) (by kernel_rfl) ?_
    simp only[go_sem,nb]
    refine je none zF (aI 2 rfl) [aY s] ((aB s).map .str) ⟨mK (us:=us) (ex:=[_]) hst,trivial⟩ ⟨s,rfl,hbig,rfl⟩ (fun x hx=>by obtain⟨y,_,rfl⟩:=List.mem_map.1 hx;rfl) ?_
    simp only[go_sem,List.length_map]
    refine jZ uU (aI 3 rfl) [.sl none ((aB s).map .str),.str b] (.dat (.bool (decide (b∈aB s)))) ⟨?_,gS,trivial⟩ ⟨aB s,b,rfl,hnl,rfl⟩ rfl ?_
    ·have:=gF (own:=f9 s us++[.row none [.int .i64 (ct c),.int .i64 (ct d)],.row none ((aB s).map .str)]) (o:=6) (ag:=none) (xs:=(aB s).map .str) rfl
     rwa [List.length_map]at this
    have hf:b7 [[112,111,111,108],b,c,d] 1=true:=by simp[b7,cw,hnm,show 0<=ct c by omega,show 0<=ct d by omega]
    by_cases hin:b∈aB s
    ·simp only[go_sem,eq_true hin,decide_true]
     refine fin _ [_,_] _ rfl ?_
     rw[← hu];unfold gu
     rw[hk,hf,if_neg (by simp)]
     exact if_pos hin
    ·simp only[go_sem,eq_false hin,na,q2,q4,eq_self,decide_true,decide_false]
     refine aX [(21,[0])] [(17,[1]),(0,[1])] (pf:=[]) (mf:=[]) mixed bS b0 ew fQ (il [0,1,2,3,4,5,6,7,8,9,10,11,12,13,14,15,16,17,18,19,20,21]) (by kernel_rfl) ?_
     simp only[go_sem,nb,na,m0a,m0b,m1b,q2,q4,eq_self,decide_true,decide_false]
     refine⟨by omega,by omega,?_⟩
     refine mJ (s':=⟨s.pools++[⟨b,ct c,ct d⟩],s.locks,s.classes⟩) (ex:=[.row none [.int .i64 (ct c),.int .i64 (ct d)],.row none ((aB s).map D.str),.row (some 3) [.agg [.str b,.int .i64 (ct c),.int .i64 (ct d)]]]) rfl ?_ ?_ (by simp[bW])
     ·rw[← hu];unfold gu
      rw[hk,hf,if_neg (by simp)]
      exact if_neg hin
     ·have e1:List.take s.pools.length (s.pools.map aK)++[D.agg [.str b,.int .i64 (ct c),.int .i64 (ct d)]]=(s.pools++[(⟨b,ct c,ct d⟩:PPool)]).map aK:=by rw[List.take_of_length_le (by simp)];simp[aK]
      simp only[f9,cH,e1,List.length_append,List.length_cons,List.length_nil]
      rfl
   ·have kS:gg b=false:=by simpa using hnm
    simp only[go_sem,kS,Bool.not_false]
    exact fin _ [] _ rfl (bad (by rw[hk];simp[b7,kS]))
  ·have nn':=eq_false (show ¬(w.length:Int)=4 by omega)
   simp only[go_sem,Tryz.ntmps18,f9,n0,z0,nn',hK,q2,q4,eq_self,decide_true,decide_false,Bool.not_false]
   exact fin _ [] _ rfl (bad (by rw[hk];simp[b7,cw,nn]))
 ·have hk:bm (w.getD 0 [])=2:=by rw[hK];rfl
  have q1:=eq_false (by decide:¬([109,117,116,101,120]:Str)=[112,111,111,108])
  have q4:=eq_false (by decide:¬([109,117,116,101,120]:Str)=[115,101,114,118,101,114])
  by_cases nn:w.length=2
  ·have nn':=eq_true (show (w.length:Int)=2 by omega)
   have n1:D.nth (bb w) 1=.str (w.getD 1 []):=D.nth_map (by omega)
   have z1:(1:Int)<w.length:=by omega
   have z2:(2:Int)<=w.length:=by omega
   simp only[go_sem,Tryz.ntmps18,f9,n0,n1,z0,z1,nn',hK,q1,q4,eq_self,decide_true,decide_false,Bool.not_true]
   refine ah jx (aI 0 rfl) [.str (w.getD 1 [])] _ rfl ⟨_,rfl,rfl⟩ (.inl rfl) ?_
   obtain⟨a,b,rfl⟩:∃a b,w=[a,b]:=by
    match w,nn with
    | [a,b],_=>exact⟨a,b,rfl⟩
   have eb:[a,b].getD 1 []=b:=rfl
   rw[eb]
   have ha:a=[109,117,116,101,120]:=hK
   subst ha
   have nb:D.nth [D.str [109,117,116,101,120],D.str b] 1=.str b:=rfl
   have na:D.nth [D.str [109,117,116,101,120],D.str b] 0=.str [109,117,116,101,120]:=rfl
   by_cases hnm:gg b=true
   ·simp only[go_sem,hnm,Bool.not_true,List.map_cons,List.map_nil,List.length_cons,List.length_nil]
    refine iW 1 (er ?_)
    refine a6 (Γ:=tbl mA) bS _ _ _ ?_
    simp only[go_sem]
    refine aX [] [] (pf:=[]) (mf:=[30]) mixed bS b0 ew Up (il [0,1,2,3,5,6,7,4,8]) (by kernel_rfl) ?_
    simp only[go_sem,nb]
    refine je none zF (aI 2 rfl) [aY s] ((aB s).map .str) ⟨mK (us:=us) (ex:=[_]) hst,trivial⟩ ⟨s,rfl,hbig,rfl⟩ (fun x hx=>by obtain⟨y,_,rfl⟩:=List.mem_map.1 hx;rfl) ?_
    simp only[go_sem,List.length_map]
    refine jZ uU (aI 3 rfl) [.sl none ((aB s).map .str),.str b] (.dat (.bool (decide (b∈aB s)))) ⟨?_,gS,trivial⟩ ⟨aB s,b,rfl,hnl,rfl⟩ rfl ?_
    ·have:=gF (own:=f9 s us++[.row none [.int .i64 0,.int .i64 0],.row none ((aB s).map .str)]) (o:=6) (ag:=none) (xs:=(aB s).map .str) rfl
     rwa [List.length_map]at this
    have hf:b7 [[109,117,116,101,120],b] 2=true:=by simp[b7,cw,hnm]
    by_cases hin:b∈aB s
    ·simp only[go_sem,eq_true hin,decide_true]
     refine fin _ [_,_] _ rfl ?_
     rw[← hu];unfold gu
     rw[hk,hf,if_neg (by simp)]
     exact if_pos hin
    ·simp only[go_sem,eq_false hin,na,q1,q4,eq_self,decide_true,decide_false]
     refine aX [(14,[0])] [(10,[2]),(0,[2])] (pf:=[]) (mf:=[]) mixed bS b0 ew fQ (il [0,1,2,3,4,5,6,7,8,9,10,11,12,13,14]) (by kernel_rfl) ?_
     simp only[go_sem,nb,na,q1,q4,eq_self,decide_true,decide_false]
     refine⟨by omega,by omega,?_⟩
     refine mJ (s':=⟨s.pools,s.locks++[b],s.classes⟩) (ex:=[.row none [.int .i64 0,.int .i64 0],.row none ((aB s).map D.str),.row none [.str b]]) rfl ?_ ?_ (by simp[bW])
     ·rw[← hu];unfold gu
      rw[hk,hf,if_neg (by simp)]
      exact if_neg hin
     ·have e1:List.take s.locks.length (bb s.locks)++[D.str b]=bb (s.locks++[b]):=by rw[List.take_of_length_le (by simp)];simp
      simp only[f9,cH,e1,List.length_append,List.length_cons,List.length_nil]
      rfl
   ·have kS:gg b=false:=by simpa using hnm
    simp only[go_sem,kS,Bool.not_false]
    exact fin _ [] _ rfl (bad (by rw[hk];simp[b7,kS]))
  ·have nn':=eq_false (show ¬(w.length:Int)=2 by omega)
   simp only[go_sem,Tryz.ntmps18,f9,n0,z0,nn',hK,q1,q4,eq_self,decide_true,decide_false,Bool.not_false]
   exact fin _ [] _ rfl (bad (by rw[hk];simp[b7,cw,nn]))
 ·have hk:bm (w.getD 0 [])=3:=by rw[hK];rfl
  have q1:=eq_false (by decide:¬([99,108,97,115,115]:Str)=[112,111,111,108])
  have q2:=eq_false (by decide:¬([99,108,97,115,115]:Str)=[109,117,116,101,120])
  have q4:=eq_false (by decide:¬([99,108,97,115,115]:Str)=[115,101,114,118,101,114])
  by_cases nn:w.length=3
  ·have nn':=eq_true (show (w.length:Int)=3 by omega)
   have n1:D.nth (bb w) 1=.str (w.getD 1 []):=D.nth_map (by omega)
   have z1:(1:Int)<w.length:=by omega
   have z2:(2:Int)<=w.length:=by omega
   simp only[go_sem,Tryz.ntmps18,f9,n0,n1,z0,z1,nn',hK,q1,q2,q4,eq_self,decide_true,decide_false,Bool.not_true]
   refine ah jx (aI 0 rfl) [.str (w.getD 1 [])] _ rfl ⟨_,rfl,rfl⟩ (.inl rfl) ?_
   obtain⟨a,b,c,rfl⟩:∃a b c,w=[a,b,c]:=by
    match w,nn with
    | [a,b,c],_=>exact⟨a,b,c,rfl⟩
   have eb:[a,b,c].getD 1 []=b:=rfl
   rw[eb]
   have ha:a=[99,108,97,115,115]:=hK
   subst ha
   have nb:D.nth [D.str [99,108,97,115,115],D.str b,D.str c] 1=.str b:=rfl
   have na:D.nth [D.str [99,108,97,115,115],D.str b,D.str c] 0=.str [99,108,97,115,115]:=rfl
   have m0a:D.nth [D.int .i64 (ct c),D.int .i64 0] 0=.int .i64 (ct c):=rfl
   by_cases hnm:gg b=true
   ·simp only[go_sem,hnm,Bool.not_true,List.map_cons,List.map_nil,List.length_cons,List.length_nil]
    refine iW 2 (er ?_)
    refine a6 (Γ:=tbl mA) bS _ _ _ ?_
    simp only[go_sem]
    refine ah Eo (aI 1 rfl) [.str c] _ rfl ⟨c,rfl,hwx c (by simp),rfl⟩ (.inl rfl) ?_
    by_cases hc:ct c<0
    ·simp only[go_sem,m0a,hc,decide_true]
     exact fin _ [_] _ rfl (bad (by rw[hk];simp[b7,cw,show ¬0<=ct c by omega]))
    have hc':=eq_false hc
    simp only[go_sem,m0a,hc',decide_false]
    have ic:=numN_rng c
    refine⟨ac.2 (by omega),?_⟩
    refine er ?_
    refine a6 (Γ:=tbl mA) bS _ _ _ ?_
    simp only[go_sem]
    refine aX [] [] (pf:=[]) (mf:=[30]) mixed bS b0 ew Up (il [0,1,2,3,5,6,7,4,8]) (by kernel_rfl) ?_
    simp only[go_sem,nb]
    refine je none zF (aI 2 rfl) [aY s] ((aB s).map .str) ⟨mK (us:=us) (ex:=[_]) hst,trivial⟩ ⟨s,rfl,hbig,rfl⟩ (fun x hx=>by obtain⟨y,_,rfl⟩:=List.mem_map.1 hx;rfl) ?_
    simp only[go_sem,List.length_map]
    refine jZ uU (aI 3 rfl) [.sl none ((aB s).map .str),.str b] (.dat (.bool (decide (b∈aB s)))) ⟨?_,gS,trivial⟩ ⟨aB s,b,rfl,hnl,rfl⟩ rfl ?_
    ·have:=gF (own:=f9 s us++[.row none [.int .i64 (ct c),.int .i64 0],.row none ((aB s).map .str)]) (o:=6) (ag:=none) (xs:=(aB s).map .str) rfl
     rwa [List.length_map]at this
    have hf:b7 [[99,108,97,115,115],b,c] 3=true:=by simp[b7,cw,hnm,show 0<=ct c by omega]
    by_cases hin:b∈aB s
    ·simp only[go_sem,eq_true hin,decide_true]
     refine fin _ [_,_] _ rfl ?_
     rw[← hu];unfold gu
     rw[hk,hf,if_neg (by simp)]
     exact if_pos hin
    ·simp only[go_sem,eq_false hin,na,q1,q2,q4,eq_self,decide_true,decide_false]
     refine aX [(22,[0])] [(18,[3]),(0,[3]),(12,[3])] (pf:=[]) (mf:=[]) mixed bS b0 ew fQ (il [0,1,2,3,4,5,6,7,8,9,10,11,12,13,14,15,16,17,18,19,20,21,22]) (by kernel_rfl) ?_
     simp only[go_sem,nb,na,m0a,q1,q2,q4,eq_self,decide_true,decide_false]
     have htl:=j8 (fun _=>.nils) s.classes 0
     refine⟨by omega,by omega,by omega,?_⟩
     refine mJ (s':=⟨s.pools,s.locks,s.classes++[⟨b,ct c,false,[]⟩]⟩) (ex:=[.row none [.int .i64 (ct c),.int .i64 0],.row none ((aB s).map D.str),.tab 4 [.dat (.str b),.dat (.int .i64 (ct c)),.dat (.bool false),.nils]]) rfl ?_ ?_ (by simp[bW])
     ·rw[← hu];unfold gu
      rw[hk,hf,if_neg (by simp)]
      exact if_neg hin
     ·have e1:AV.kills 3 (List.take (s.classes.length*4) (bL (fun _=>.nils) 0 s.classes)++[.dat (.str b),.dat (.int .i64 (ct c)),.dat (.bool false),.nils])=bL (fun _=>.nils) 0 (s.classes++[⟨b,ct c,false,[]⟩]):=by
       rw[List.take_of_length_le (by omega),← cH 3 (s.classes++_) 0,nD]
      simp only[f9,e1,List.length_append,List.length_cons,List.length_nil]
      rfl
   ·have kS:gg b=false:=by simpa using hnm
    simp only[go_sem,kS,Bool.not_false]
    exact fin _ [] _ rfl (bad (by rw[hk];simp[b7,kS]))
  ·have nn':=eq_false (show ¬(w.length:Int)=3 by omega)
   simp only[go_sem,Tryz.ntmps18,f9,n0,z0,nn',hK,q1,q2,q4,eq_self,decide_true,decide_false,Bool.not_false]
   exact fin _ [] _ rfl (bad (by rw[hk];simp[b7,cw,nn]))
 ·have hk:bm (w.getD 0 [])=4:=by rw[hK];rfl
  have q1:=eq_false (by decide:¬([115,101,114,118,101,114]:Str)=[112,111,111,108])
  have q2:=eq_false (by decide:¬([115,101,114,118,101,114]:Str)=[109,117,116,101,120])
  by_cases nn:w.length=3
  ·have nn':=eq_true (show (w.length:Int)=3 by omega)
   have n1:D.nth (bb w) 1=.str (w.getD 1 []):=D.nth_map (by omega)
   have z1:(1:Int)<w.length:=by omega
   have z2:(2:Int)<=w.length:=by omega
   simp only[go_sem,Tryz.ntmps18,f9,n0,n1,z0,z1,nn',hK,q1,q2,eq_self,decide_true,decide_false,Bool.not_true]
   refine ah jx (aI 0 rfl) [.str (w.getD 1 [])] _ rfl ⟨_,rfl,rfl⟩ (.inl rfl) ?_
   obtain⟨a,b,c,rfl⟩:∃a b c,w=[a,b,c]:=by
    match w,nn with
    | [a,b,c],_=>exact⟨a,b,c,rfl⟩
   have eb:[a,b,c].getD 1 []=b:=rfl
   rw[eb]
   have ha:a=[115,101,114,118,101,114]:=hK
   subst ha
   have nb:D.nth [D.str [115,101,114,118,101,114],D.str b,D.str c] 1=.str b:=rfl
   have na:D.nth [D.str [115,101,114,118,101,114],D.str b,D.str c] 0=.str [115,101,114,118,101,114]:=rfl
   have m0a:D.nth [D.int .i64 (ct c),D.int .i64 0] 0=.int .i64 (ct c):=rfl
   by_cases hnm:gg b=true
   ·simp only[go_sem,hnm,Bool.not_true,List.map_cons,List.map_nil,List.length_cons,List.length_nil]
    refine iW 2 (er ?_)
    refine a6 (Γ:=tbl mA) bS _ _ _ ?_
    simp only[go_sem]
    refine ah Eo (aI 1 rfl) [.str c] _ rfl ⟨c,rfl,hwx c (by simp),rfl⟩ (.inl rfl) ?_
    by_cases hc:ct c<0
    ·simp only[go_sem,m0a,hc,decide_true]
     exact fin _ [_] _ rfl (bad (by rw[hk];simp[b7,cw,show ¬0<=ct c by omega]))
    have hc':=eq_false hc
    simp only[go_sem,m0a,hc',decide_false]
    have ic:=numN_rng c
    refine⟨ac.2 (by omega),?_⟩
    refine er ?_
    refine a6 (Γ:=tbl mA) bS _ _ _ ?_
    simp only[go_sem]
    refine aX [] [] (pf:=[]) (mf:=[30]) mixed bS b0 ew Up (il [0,1,2,3,5,6,7,4,8]) (by kernel_rfl) ?_
    simp only[go_sem,nb]
    refine je none zF (aI 2 rfl) [aY s] ((aB s).map .str) ⟨mK (us:=us) (ex:=[_]) hst,trivial⟩ ⟨s,rfl,hbig,rfl⟩ (fun x hx=>by obtain⟨y,_,rfl⟩:=List.mem_map.1 hx;rfl) ?_
    simp only[go_sem,List.length_map]
    refine jZ uU (aI 3 rfl) [.sl none ((aB s).map .str),.str b] (.dat (.bool (decide (b∈aB s)))) ⟨?_,gS,trivial⟩ ⟨aB s,b,rfl,hnl,rfl⟩ rfl ?_
    ·have:=gF (own:=f9 s us++[.row none [.int .i64 (ct c),.int .i64 0],.row none ((aB s).map .str)]) (o:=6) (ag:=none) (xs:=(aB s).map .str) rfl
     rwa [List.length_map]at this
    have hf:b7 [[115,101,114,118,101,114],b,c] 4=true:=by simp[b7,cw,hnm,show 0<=ct c by omega]
    by_cases hin:b∈aB s
    ·simp only[go_sem,eq_true hin,decide_true]
     refine fin _ [_,_] _ rfl ?_
     rw[← hu];unfold gu
     rw[hk,hf,if_neg (by simp)]
     exact if_pos hin
    ·simp only[go_sem,eq_false hin,na,q1,q2,eq_self,decide_true,decide_false]
     refine aX [(22,[0])] [(18,[3]),(0,[3]),(12,[3])] (pf:=[]) (mf:=[]) mixed bS b0 ew fQ (il [0,1,2,3,4,5,6,7,8,9,10,11,12,13,14,15,16,17,18,19,20,21,22]) (by kernel_rfl) ?_
     simp only[go_sem,nb,na,m0a,q1,q2,eq_self,decide_true,decide_false]
     have htl:=j8 (fun _=>.nils) s.classes 0
     refine⟨by omega,by omega,by omega,?_⟩
     refine mJ (s':=⟨s.pools,s.locks,s.classes++[⟨b,ct c,true,[]⟩]⟩) (ex:=[.row none [.int .i64 (ct c),.int .i64 0],.row none ((aB s).map D.str),.tab 4 [.dat (.str b),.dat (.int .i64 (ct c)),.dat (.bool true),.nils]]) rfl ?_ ?_ (by simp[bW])
     ·rw[← hu];unfold gu
      rw[hk,hf,if_neg (by simp)]
      exact if_neg hin
     ·have e1:AV.kills 3 (List.take (s.classes.length*4) (bL (fun _=>.nils) 0 s.classes)++[.dat (.str b),.dat (.int .i64 (ct c)),.dat (.bool true),.nils])=bL (fun _=>.nils) 0 (s.classes++[⟨b,ct c,true,[]⟩]):=by
       rw[List.take_of_length_le (by omega),← cH 3 (s.classes++_) 0,nD]
      simp only[f9,e1,List.length_append,List.length_cons,List.length_nil]
      rfl
   ·have kS:gg b=false:=by simpa using hnm
    simp only[go_sem,kS,Bool.not_false]
    exact fin _ [] _ rfl (bad (by rw[hk];simp[b7,kS]))
  ·have nn':=eq_false (show ¬(w.length:Int)=3 by omega)
   simp only[go_sem,Tryz.ntmps18,f9,n0,z0,nn',hK,q1,q2,eq_self,decide_true,decide_false,Bool.not_false]
   exact fin _ [] _ rfl (bad (by rw[hk];simp[b7,cw,nn]))
def usB(u:US)(n:Int):Obj:=.box [.dat (.int .i64 u.cls),.dat (.int .i64 u.line),.dat (.str u.name),.dat (.int .i64 u.kind),.dat (.int .i64 n),.dat (.int .i64 u.cnt),.dat (.bool u.deep)]
theorem p9(u:US)(n:Int):(usB u n).under 1:=by simp[usB,Obj.under,AV.unders,AV.under]
def JL(xs:List AV)(obs:List Obj)(v0:AV)(obs' ex:List Obj)(mv0:List Nat):Prop:=∃(p:PPool) (u:US) (n:Int),xs=[.dat (aK p),.ptr 0 0 0]/\obs=[usB u n]/\v0=.dat (.bool (decide (p.name=u.name)))/\obs'=[usB u n]/\ex=[]/\mv0=[]
theorem Hz:OkF Tryz.prog 43 (cr JL):=by
 refine c9 Tryz.func43 rfl (by decide) ?_
 rintro xs obs v0 obs' ex mv0 ⟨p,u,n,rfl,rfl,rfl,rfl,rfl,rfl⟩
 refine a6 (Γ:=tbl []) ae _ _ _ ?_
 simp only[go_sem,Tryz.ntmps43,aK,usB]
 refine aH (mv':=[]) (.inl rfl) [.tmp 3] rfl (fun _ h=>h) ?_
 simp only[go_sem,List.append_nil]
 exact gf (own:=[usB u n]) (Nat.le_refl 1) (by simp only[AV.unders,AV.under];exact⟨trivial,trivial⟩) (by simp only[List.mem_singleton,forall_eq];exact p9 u n)
def P2(xs:List AV)(obs:List Obj)(v0:AV)(obs' ex:List Obj)(mv0:List Nat):Prop:=∃(l:List PPool) (u:US) (n:Int),l.length<=1000000/\xs=[.dat (.sl (some 3) (l.map aK)),.fn 43 [.ptr 0 0 0]]/\obs=[usB u n]/\v0=.dat (.int .i64 (dF u.name 0 (l.map (·.name))))/\obs'=[usB u n]/\ex=[]/\mv0=[]
abbrev KQ:List (Nat×a8):=[(43,cr JL)]
theorem yy:OkG Tryz.prog (tbl KQ):=ai Hz ae
theorem yT:OkF Tryz.prog 42 (cr P2):=by
 refine c9 Tryz.func42 rfl (by decide) ?_
 rintro xs obs v0 obs' ex mv0 ⟨l,u,n,hl,rfl,rfl,rfl,rfl,rfl,rfl⟩
 generalize hv:dF u.name 0 (l.map (·.name))=V
 refine a6 (Γ:=tbl KQ) yy _ _ _ ?_
 have fin:∀s (b c:Int),b=c->s.getD 4 .top=.dat (.int .i64 b)->post Tryz.prog Tryz.f42 (.dat (.int .i64 c)) ([usB u n]++[]) [] .ret ⟨s,[usB u n],1,[]⟩:=fun s b c e h=>by
  subst e
  refine aH (.inl rfl) [.tmp 4] rfl (fun _ h=>h) ?_
  simp only[go_sem,h]
  exact Le.refl _
 simp only[go_sem,Tryz.ntmps42]
 refine ap (fun k:Nat=>⟨an 19 [(0,.dat (.sl (some 3) (l.map aK))),(1,.fn 43 [.ptr 0 0 0]),(4,.dat (.int .i64 0)),(7,.dat (.int .i64 l.length)),(8,.dat (.int .i64 k))],[usB u n],1,[]⟩)
  (fun k=>k<=l.length/\dF u.name k ((l.drop k).map (·.name))=V) (fun k=>l.length - k) 0 ⟨Nat.zero_le _,hv⟩ ?_ ?_
 ·exact a7 (by simp only[go_sem,Int.natCast_zero])
 ·rintro k ⟨hk,hI⟩
  refine a6 (Γ:=tbl KQ) yy _ _ _ ?_
  cases hd:l.drop k with
  | nil =>
   have:=aj hd hk
   have hk2:¬(k:Int)<l.length:=by omega
   simp only[go_sem,hk2,decide_false]
   refine fin _ _ _ ?_ (by rfl)
   rw[← hI,hd];rfl
  | cons c q =>
   have hlt:=ao hd
   have hk2:(k:Int)<l.length:=by omega
   have hk0:(0:Int)<=k:=Int.natCast_nonneg k
   have hn:=ak (f:=aK) hd
   rw[hd,List.map_cons,dF]at hI
   simp only[go_sem,hk2,hk0,hn,hlt,decide_true]
   refine bC JL (aI 0 rfl) [0] ⟨c,u,n,rfl,rfl,rfl,rfl,rfl,rfl⟩ (by decide) (by simp) rfl rfl rfl (by simp only[go_sem,AV.unders,AV.under]) (by simp only[List.mem_singleton,forall_eq];exact p9 u n) (fun j hj=>by
    obtain rfl:j=0:=by simp at hj;exact hj
    rfl) ?_
   by_cases he:c.name=u.name
   ·simp only[go_sem,eq_true he,decide_true]
    rw[if_pos he.symm]at hI
    exact fin _ _ _ hI (by rfl)
   ·simp only[go_sem,eq_false he,decide_false]
    rw[if_neg (fun h=>he h.symm)]at hI
    refine⟨ac.2 (by omega),k+1,⟨by omega,by rw[aE hd];exact hI⟩,by omega,?_⟩
    exact a7 (by simp only[go_sem,Int.natCast_add,Int.cast_ofNat_Int])
def CellOk(x:AV):Prop:=x=.nils∨(∃d,x=.dat d)∨∃m,x=.sl 1 0 m
theorem CellOk.under{x:AV}(h:CellOk x):x.under 2:=by
 rcases h with rfl|⟨d,rfl⟩|⟨m,rfl⟩
 ·trivial
 ·trivial
 ·show 1<2;decide
def Rl(xs:List AV)(obs:List Obj)(v0:AV)(obs' ex:List Obj)(mv0:List Nat):Prop:=∃(c:PCls) (x:AV) (u:US) (n:Int) (cur:List D),CellOk x/\xs=[.agg [.dat (.str c.name),.dat (.int .i64 c.workers),.dat (.bool c.server),x],.ptr 0 0 0]/\obs=[usB u n,.row (some 4) cur] /\
 v0=.dat (.bool (decide (c.name=u.name)))/\obs'=[usB u n,.row (some 4) cur]/\ex=[]/\mv0=[]
theorem tB(u:US)(n:Int)(cur:List D):∀x∈[usB u n,Obj.row (some 4) cur],x.under 2:=by
 intro x hx
 simp only[List.mem_cons,List.not_mem_nil,or_false]at hx
 rcases hx with rfl|rfl
 ·simp[usB,Obj.under,AV.unders,AV.under]
 ·trivial
theorem FY:OkF Tryz.prog 45 (cr Rl):=by
 refine c9 Tryz.func45 rfl (by decide) ?_
 rintro xs obs v0 obs' ex mv0 ⟨c,x,u,n,cur,hx,rfl,rfl,rfl,rfl,rfl,rfl⟩
 have fin:∀sl ex,sl.getD 3 .top=.dat (.bool (decide (c.name=u.name)))->post Tryz.prog Tryz.f45 (.dat (.bool (decide (c.name=u.name)))) ([usB u n,.row (some 4) cur]++[]) [] .ret ⟨sl,[usB u n,.row (some 4) cur]++ex,2,[]⟩:=fun sl ex h=>by
  refine aH (mv':=[]) (.inl rfl) [.tmp 3] rfl (fun _ h=>h) ?_
  simp only[go_sem,h,List.append_nil]
  exact gf (own:=[usB u n,.row (some 4) cur]) (Nat.le_refl 2) (by simp only[AV.unders,AV.under];exact⟨trivial,trivial⟩) (tB u n cur)
 refine a6 (Γ:=tbl []) ae _ _ _ ?_
 rcases hx with rfl|⟨d,rfl⟩|⟨m,rfl⟩
 ·simp only[go_sem,Tryz.ntmps45,usB]
  exact fin _ [_] rfl
 ·simp only[go_sem,Tryz.ntmps45,usB]
  exact fin _ [_] rfl
 ·simp only[go_sem,Tryz.ntmps45,usB]
  exact fin _ [_] rfl
theorem vX(f:Nat->AV):∀(l:List PCls) (i k:Nat) (c:PCls) (q:List PCls),l.drop k=c :: q->((bL f i l).drop (k*4)).take 4=[.dat (.str c.name),.dat (.int .i64 c.workers),.dat (.bool c.server),f (i+k)]
 | [],_,k,c,q,h=>by simp at h
 | x :: r,i,0,c,q,h=>by
  simp only[List.drop_zero,List.cons.injEq]at h
  obtain⟨rfl,rfl⟩:=h
  simp[bL]
 | x :: r,i,k+1,c,q,h=>by
  have:=vX f r (i+1) k c q (by simpa using h)
  rw[show (k+1)*4=k*4+4 by omega,show i+(k+1)=i+1+k by omega]
  simp only[bL,List.drop_succ_cons]
  exact this
def PT(xs:List AV)(obs:List Obj)(v0:AV)(obs' ex:List Obj)(mv0:List Nat):Prop:=∃(l:List PCls) (f:Nat->AV) (u:US) (n:Int) (cur:List D),(∀i,CellOk (f i))/\l.length<=1000000/\xs=[.sl 0 0 l.length,.fn 45 [.ptr 2 0 0]] /\
 obs=[.tab 4 (bL f 0 l),.row (some 4) cur,usB u n]/\v0=.dat (.int .i64 (dF u.name 0 (l.map (·.name))))/\obs'=[.tab 4 (bL f 0 l),.row (some 4) cur,usB u n]/\ex=[]/\mv0=[]
abbrev GG:List (Nat×a8):=[(45,cr Rl)]
theorem yJ:OkG Tryz.prog (tbl GG):=ai FY ae
theorem zU:OkF Tryz.prog 44 (cr PT):=by
 refine c9 Tryz.func44 rfl (by decide) ?_
 rintro xs obs v0 obs' ex mv0 ⟨l,f,u,n,cur,hf,hl,rfl,rfl,rfl,rfl,rfl,rfl⟩
 generalize hv:dF u.name 0 (l.map (·.name))=V
 have htl:=j8 f l 0
 generalize hT:bL f 0 l=T at *
 refine a6 (Γ:=tbl GG) yJ _ _ _ ?_
 have fin:∀s (b c:Int),b=c->s.getD 4 .top=.dat (.int .i64 b)->post Tryz.prog Tryz.f44 (.dat (.int .i64 c)) ([.tab 4 T,.row (some 4) cur,usB u n]++[]) [] .ret ⟨s,[.tab 4 T,.row (some 4) cur,usB u n],3,[]⟩:=fun s b c e h=>by
  subst e
  refine aH (.inl rfl) [.tmp 4] rfl (fun _ h=>h) ?_
  simp only[go_sem,h]
  exact Le.refl _
 simp only[go_sem,Tryz.ntmps44]
 refine ap (fun k:Nat=>⟨an 19 [(0,.sl 0 0 l.length),(1,.fn 45 [.ptr 2 0 0]),(4,.dat (.int .i64 0)),(7,.dat (.int .i64 l.length)),(8,.dat (.int .i64 k))],[.tab 4 T,.row (some 4) cur,usB u n],3,[]⟩)
  (fun k=>k<=l.length/\dF u.name k ((l.drop k).map (·.name))=V) (fun k=>l.length - k) 0 ⟨Nat.zero_le _,hv⟩ ?_ ?_
 ·exact a7 (by simp only[go_sem,Int.natCast_zero])
 ·rintro k ⟨hk,hI⟩
  refine a6 (Γ:=tbl GG) yJ _ _ _ ?_
  cases hd:l.drop k with
  | nil =>
   have:=aj hd hk
   have hk2:¬(k:Int)<l.length:=by omega
   simp only[go_sem,hk2,decide_false]
   refine fin _ _ _ ?_ (by rfl)
   rw[← hI,hd];rfl
  | cons c q =>
   have hlt:=ao hd
   have hk2:(k:Int)<l.length:=by omega
   have hk0:(0:Int)<=k:=Int.natCast_nonneg k
   have hat:=vX f l 0 k c q hd
   rw[hT]at hat
   rw[hd,List.map_cons,dF]at hI
   simp only[go_sem,hk2,hk0,hlt,hat,decide_true,Nat.add_zero,Nat.zero_add]
   refine⟨by omega,?_⟩
   have call:∀(x:AV) (K:AV->List Obj->List Nat->Prop),CellOk x->AV.ren (emb [2,1] 3) x=x->K (.dat (.bool (decide (c.name=u.name)))) [.tab 4 T,.row (some 4) cur,usB u n] [] ->
     eB (tbl GG) (.fn 45 [.ptr 2 0 0]) [.agg [.dat (.str c.name),.dat (.int .i64 c.workers),.dat (.bool c.server),x]] [.tab 4 T,.row (some 4) cur,usB u n] K:=fun x K hx hxr hK=>by
    refine⟨_,[.tab 4 T,.row (some 4) cur,usB u n],[],⟨_,aI 0 rfl,[2,1],[.agg [.dat (.str c.name),.dat (.int .i64 c.workers),.dat (.bool c.server),x],.ptr 0 0 0],[usB u n,.row (some 4) cur],.dat (.bool (decide (c.name=u.name))),[usB u n,.row (some 4) cur],[],[],by decide,by simp,rfl,rfl,?_,?_,tB u n cur,?_,⟨c,x,u,n,cur,hx,rfl,rfl,rfl,rfl,rfl,rfl⟩,rfl,?_,rfl⟩,hK⟩
    ·have abQ:AV.ren (emb [2,1] [Obj.tab 4 T,Obj.row (some 4) cur,usB u n].length) x=x:=hxr
     simp only[List.cons_append,List.nil_append,AV.rens,AV.ren,abQ];rfl
    ·simp only[AV.unders,AV.under,true_and,and_true]
     exact⟨hx.under,by decide⟩
    ·intro j hj
     have:j=0∨j=1:=by simp at hj;omega
     rcases this with rfl|rfl <;> rfl
    ·simp only[List.map_nil,oH];rfl
   have hfk:AV.ren (emb [2,1] 3) (f k)=f k:=by
    rcases hf k with h|⟨d,h⟩|⟨m,h⟩ <;> rw[h] <;> rfl
   refine call (f k) _ (hf k) hfk ?_
   by_cases he:c.name=u.name
   ·simp only[go_sem,eq_true he,decide_true]
    rw[if_pos he.symm]at hI
    exact fin _ _ _ hI (by rfl)
   ·simp only[go_sem,eq_false he,decide_false]
    rw[if_neg (fun h=>he h.symm)]at hI
    refine⟨ac.2 (by omega),k+1,⟨by omega,by rw[aE hd];exact hI⟩,by omega,?_⟩
    exact a7 (by simp only[go_sem,Int.natCast_add,Int.cast_ofNat_Int])
end Go.AM

