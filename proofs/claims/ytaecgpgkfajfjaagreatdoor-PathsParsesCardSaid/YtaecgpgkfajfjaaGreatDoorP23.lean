/- Own work over the model of the kit. -/
import Derived.Test.YtaecgpgkfajfjaaGreatDoorP22
import Derived.Test.YtaecgpgkfajfjaaGreatDoorP19
import Derived.Test.YtaecgpgkfajfjaaGreatDoorP15
import Derived.Test.YtaecgpgkfajfjaaGreatDoorP18
import Derived.Test.YtaecgpgkfajfjaaGreatDoorP9
import Derived.Test.YtaecgpgkfajfjaaGreatDoorP6
import Derived.KernelRfl
set_option linter.unnecessarySimpa false
set_option linter.unusedSimpArgs false
set_option linter.unusedVariables false
set_option maxHeartbeats 8000000
set_option maxRecDepth 8000
namespace Go.AM
private theorem eqk {α:Sort _} {a b:α} (h:a=b):a=b:=Eq.trans h (Eq.refl _)
open Go Go.Proofs
theorem rcheckB_ok:OkF Tryz.prog 16 (dataC chkBR):=by
 refine okF_data Tryz.func16 rfl (by decide) ?_
 rintro ds v ⟨s,rfl,hf,rfl⟩
 generalize hv:checkE s=V
 refine sem_of_awp (Γ:=tbl []) okG_nil _ _ _ ?_
 have fin:∀s own (b c:Int),b=c->s.getD 2 .top=.dat (.int .i64 b)->post Tryz.prog Tryz.f16 (.dat (.int .i64 c)) [] [] .ret ⟨s,own,0,[]⟩:=fun s own b c e h=>by
  subst e
  exact post_data (.inl rfl) [2] rfl trivial (by simp only[tmpsOf,h];rfl)
 unfold checkE at hv
 simp only[go_sem,Tryz.ntmps16,sysD]
 by_cases h1:6<(s.pools.length:Int)
 ·simp only[go_sem,h1]
  rw[if_pos (.inl h1)]at hv
  exact fin _ _ _ _ hv (by rfl)
 by_cases h2:4<(s.locks.length:Int)
 ·simp only[go_sem,h1,h2]
  rw[if_pos (.inr (.inl h2))]at hv
  exact fin _ _ _ _ hv (by rfl)
 by_cases h3:6<(s.classes.length:Int)
 ·simp only[go_sem,h1,h2,h3]
  rw[if_pos (.inr (.inr h3))]at hv
  exact fin _ _ _ _ hv (by rfl)
 exact absurd ⟨by omega,by omega,by omega⟩ hf
theorem rcheckA_ok:OkF Tryz.prog 16 (dataC chkAR):=by
 rintro args own v own' mv ⟨ds,h1,⟨s,rfl,rfl⟩,h2⟩
 by_cases hs:s.small
 ·exact rcheck_ok args own _ own' mv ⟨_,h1,⟨s,rfl,⟨hs⟩,rfl⟩,h2⟩
 ·exact rcheckB_ok args own _ own' mv ⟨_,h1,⟨s,rfl,hs,rfl⟩,h2⟩
abbrev tabRP:List (Nat×Contract):=[(43,dataC (strsR linesW)),(44,dataC scanR41),(45,madeC rdecR),(46,dataC (strsR wordsW)),(47,dataC rignR),(48,dataC rkindR),(49,peekC rfndR),(50,dataC numR),(16,dataC chkAR)]
theorem tabRP_ok:OkG Tryz.prog (tbl tabRP):=okG_cons lines41_ok (okG_cons scan41_ok (okG_cons rdecl_ok (okG_cons words41_ok (okG_cons rignored_ok (okG_cons rkind_ok (okG_cons (okF_peek rfind_ok) (okG_cons number_ok (okG_cons rcheckA_ok okG_nil))))))))
theorem mkRP:MakeFns (tbl tabRP) [49]:=by
 rintro g args own v own' mv hg ⟨C,hm,hC⟩
 have hg':g=49:=by
  rcases hg with h|h
  ·simpa using h
  ·simp[dynF]at h
 subst hg'
 simp only[tabRP,List.mem_cons,Prod.mk.injEq,List.not_mem_nil,or_false]at hm
 rcases hm with⟨h,_⟩|⟨h,_⟩|⟨h,_⟩|⟨h,_⟩|⟨h,_⟩|⟨h,_⟩|⟨_,rfl⟩|⟨h,_⟩|⟨h,_⟩
 case inr.inr.inr.inr.inr.inr.inl =>
  obtain⟨ds,_,_,rfl,rfl,_⟩:=hC
  exact⟨⟨[],by simp⟩,rfl⟩
 all_goals simp at h
theorem rparse41_ok:OkF Tryz.prog 18 (dataC (parR41 linesW)):=by
 refine okF_data Tryz.func18 rfl (by decide) ?_
 rintro ds v ⟨s,rfl,hs,rfl⟩
 rw[parse41_eq]
 refine sem_of_awpK [9,25] (Γ:=tbl tabRP) tabRP_ok _ _ _ ?_
 by_cases hl:4000<s.length
 ·have hl':(4000:Int)<(s.length:Int):=by omega
  rw[if_pos hl]
  simp only[go_sem,Tryz.ntmps18,hl',decide_true]
  refine post_resO (mv':=[]) (.inl rfl) [.cell 2 26,.tmp 3,.tmp 4] rfl (fun _ h=>h) ?_
  simp only[go_sem]
  exact Le.trans (le_tupagg (some 3) none (some 4)) (le_fin (by rfl) (by simp only[AV.under,AV.unders,and_self]))
 have hl':¬(4000:Int)<(s.length:Int):=by omega
 rw[if_neg hl]
 simp only[go_sem,Tryz.ntmps18,hl',decide_false]
 refine call_data (strsR linesW) (mem_ix 0 rfl) [.str s] _ rfl ⟨s,rfl,hs,rfl⟩ (.inl rfl) ?_
 have hLb:=lRun_len s []
 have hL:linesW s=lRun [] s:=rfl
 rw[← hL]at hLb
 unfold lines41
 rw[show (fun l=>lineW (wordsW l))=pl41 from rfl]
 generalize linesW s=L at *
 obtain⟨hL1,hL2⟩:=hLb
 have hL2':∀x∈L,x.length<=100000:=fun x hx=>by have:=hL2 x hx;simp only[List.length_nil]at this;omega
 simp only[go_sem]
 refine call_data scanR41 (mem_ix 1 rfl) [.sl none (strsD L)] _ rfl ⟨L,rfl,by omega,hL2',rfl⟩ (.inl rfl) ?_
 unfold parseMR
 by_cases h0:(scanL (L.map pl41) 0 [] 0).2=0
 ·simp only[go_sem,h0,eq_self,decide_true,Bool.not_true]
  have hnb:∀l∈L,pl41 l≠.bad:=fun l hl=>scan_nobad _ _ _ _ h0 _ (List.mem_map_of_mem hl)
  refine call_made rdecR (mem_ix 2 rfl) [.sl none (strsD L)] _ _ rfl rfl ⟨L,rfl,by omega,hL2',hnb,rfl,rfl⟩ ?_
  have hkO:∀l∈L.map pl41,kindOk l:=fun l hl=>by
   obtain⟨x,_,rfl⟩:=List.mem_map.1 hl
   exact lineW_ok _
  have hcn:=declL_clsN (L.map pl41) sys0 hkO
  have hst0:=declL_st (L.map pl41) sys0 (fun c hc=>by cases hc)
  have hln:=declL_len (L.map pl41) sys0 0 ⟨Nat.le_refl _,Nat.le_refl _,Nat.le_refl _⟩
  rw[List.length_map]at hln
  generalize hS:declL (L.map pl41) sys0=S at *
  simp only[go_sem,AV.shift,AV.shifts,Obj.shift,List.map_cons,List.map_nil,List.length_cons,List.length_nil]
  have tkP:(S.pools.map poolD).take S.pools.length=S.pools.map poolD:=List.take_of_length_le (by simp)
  have tkL:(strsD S.locks).take S.locks.length=strsD S.locks:=List.take_of_length_le (by simp)
  refine sem_le (le_freeze 1 (ag:=some 3) (xs:=S.pools.map poolD) rfl (Nat.zero_le _)) ?_
  simp only[go_sem,tkP]
  refine sem_le (le_freeze 2 (ag:=none) (xs:=strsD S.locks) rfl (Nat.zero_le _)) ?_
  simp only[go_sem,tkL]
  refine sem_le (le_addrow (some 4) (Nat.zero_le _)) ?_
  have hstp:∀i,stp S i=[]:=fun i=>by
   unfold stp
   rw[List.getD_eq_getElem?_getD]
   cases hg:S.classes[i]? with
   | none=>rfl
   | some c=>exact hst0 c (List.mem_of_getElem? hg)
  have e0:tabC (fun _=>.nils) 0 S.classes=tabC (cellK 5 S S.classes.length) 0 S.classes:=tabC_congr _ _ fun j hj=>by
   unfold cellK
   rw[if_neg (by omega),if_pos (hstp _)]
  have e00:∀x,AV.shifts 1 (tabC (fun _=>.nils) 0 x)=tabC (fun _=>.nils) 0 x:=fun x=>tabC_shifts 1 x 0
  simp only[go_sem,e00,tabC_frzs]
  rw[e0]
  generalize hR2:stepsL (L.map pl41) 0 0 S=R2
  refine sem_of_awp (Γ:=tbl tabRP) tabRP_ok _ _ _ ?_
  simp only[go_sem,List.cons_append,List.nil_append]
  refine sem_loop (fun p:Nat×Nat×PSys×Nat=>⟨slotsOf 109 [(2,.ptr 0 0 0),(3,.dat (.int .i64 0)),(4,.dat (.int .i64 0)),(5,.dat (.sl none (strsD L))),(8,.ptr 4 0 0),(9,.dat (.int .i64 ((p.2.1:Int) - 1))),(10,.dat (.int .i64 p.1))],[.box [.nils,.nils,.nils],.dead,.dead,.tab 4 (tabC (cellK 5 p.2.2.1 p.2.2.2) 0 p.2.2.1.classes),.box [.dat (.sl (some 3) (S.pools.map poolD)),.dat (.sl none (strsD S.locks)),.sl 3 0 S.classes.length],.row (some 4) ((stp p.2.2.1 p.2.2.2).map stepD)],0,[]⟩)
   (fun p=>P3J S (L.map pl41) R2 p.1 p.2.1 p.2.2.1 p.2.2.2/\p.1<=L.length) (fun p=>L.length - p.1) (0,0,S,S.classes.length) ?_ ?_ ?_
  ·refine⟨⟨hR2,⟨[],h0⟩,?_,rfl,rfl,rfl,fun j _ _=>hstp j,fun h=>absurd h (Nat.lt_irrefl _),.inl rfl,by rw[hstp];exact Nat.le_refl _⟩,Nat.zero_le _⟩
   rw[List.drop_zero,Nat.zero_add]
   have:sys0.classes.length=0:=rfl
   omega
  ·rw[hstp]
   exact le_slots' (by simp only[go_sem,Int.natCast_zero])
  rintro ⟨i,c,s2,cur⟩ ⟨hJ,hi⟩
  simp only at hJ hi ⊢
  have hcs:=hJ.hc
  have hbig2:s2.big:=⟨by rw[hJ.hp];omega,by rw[hJ.hl];omega,by omega⟩
  have hcle:c<=S.classes.length:=by have:=hJ.num;omega
  rw[← hJ.hp,← hJ.hl,← hJ.hc]
  cases hd:L.drop i with
  | nil =>
   have hie:=end_of_drop hd hi
   have k1:¬(i:Int)<(L.length:Int):=by omega
   have hrun:=hJ.run
   rw[← List.map_drop,hd]at hrun
   simp only[List.map_nil,stepsL]at hrun
   subst hrun
   simp only[end41]
   refine sem_of_awp (Γ:=tbl tabRP) tabRP_ok _ _ _ ?_
   simp only[go_sem,k1,decide_false,List.length_map]
   have tkC:((s2.classes.map clsD).take s2.classes.length)=s2.classes.map clsD:=List.take_of_length_le (by simp)
   refine sem_le (le_freeze 5 (ag:=some 4) (xs:=(stp s2 cur).map stepD) rfl (Nat.zero_le _)) ?_
   simp only[go_sem,cells_freeze 5 s2 cur (fun h=>hJ.ne (by omega))]
   refine sem_le (le_nilsT 3 (k:=4) rfl (cells_end0 s2)) ?_
   simp only[go_sem]
   refine sem_le (le_freezeT 3 (k:=4) (s2.classes.map clsF) (by decide) (fun r hr=>by
    obtain⟨c,_,rfl⟩:=List.mem_map.1 hr;rfl) rfl rfl (Nat.zero_le _)) ?_
   simp only[go_sem,clsF_agg,tkC,List.length_map]
   refine sem_of_awp (Γ:=tbl tabRP) tabRP_ok _ _ _ ?_
   simp only[go_sem]
   refine call_data chkAR (mem_ix 8 rfl) [sysD s2] _ rfl ⟨s2,rfl,rfl⟩ (.inl rfl) ?_
   by_cases h0:checkE s2=0
   ·simp only[go_sem,h0,eq_self,decide_true,Bool.not_true]
    refine post_resO (mv':=[]) (.inl rfl) [.cell 2 26,.tmp 3,.tmp 4] rfl (fun _ h=>h) ?_
    simp only[go_sem]
    exact le_fin (by rfl) (by simp only[AV.under,AV.unders,and_self])
   ·simp only[go_sem,h0,decide_false,Bool.not_false]
    refine post_resO (mv':=[]) (.inl rfl) [.cell 2 26,.tmp 3,.tmp 4] rfl (fun _ h=>h) ?_
    simp only[go_sem]
    exact Le.trans (le_tupagg (some 3) none (some 4)) (le_fin (by rfl) (by simp only[AV.under,AV.unders,and_self]))
  | cons l t =>
   have hlt:=lt_of_drop hd
   have k1:(i:Int)<(L.length:Int):=by omega
   have hk0:(0:Int)<=(i:Int):=by omega
   have hn:D.nth (L.map D.str) i=.str l:=nth_of_drop hd
   have hll:l.length<=100000:=hL2' l (mem_of_drop hd)
   have hnb1:=hnb l (mem_of_drop hd)
   have hdP:(L.map pl41).drop i=lineW (wordsW l) :: ((L.drop (i+1)).map pl41):=by rw[← List.map_drop,hd,drop_cons hd];rfl
   unfold pl41 at hnb1
   refine sem_of_awpK [19] (Γ:=tbl tabRP) tabRP_ok _ _ _ ?_
   simp only[go_sem,k1,hk0,hn,decide_true,List.length_map,Int.toNat_natCast]
   refine call_data (strsR wordsW) (mem_ix 3 rfl) [.str l] _ rfl ⟨l,rfl,by omega,rfl⟩ (.inl rfl) ?_
   obtain⟨w1,w2⟩:=wordsW_len l
   generalize wordsW l=w at *
   simp only[go_sem]
   refine call_data rignR (mem_ix 4 rfl) [.sl none (strsD w)] _ rfl ⟨w,rfl,fun x hx=>(w2 x hx).2,rfl⟩ (.inl rfl) ?_
   cases hsk:skip41 w with
   | true =>
    have hsk2:lineW w=.skip:=by unfold lineW;rw[hsk];rfl
    rw[hsk2]at hdP
    simp only[go_sem]
    refine⟨inR_i64.2 (by omega),(i+1,c,s2,cur),⟨hJ.skip hdP,by show i+1<=_;omega⟩,by show L.length - (i+1)<_;omega,le_slots' (by simp only[go_sem,Int.natCast_add,Int.cast_ofNat_Int])⟩
   | false =>
    have hf:=form_good hsk hnb1
    have hl2:=form_len hf
    have hw0:w≠[]:=by rintro rfl;simp[skip41]at hsk
    have hl0:0<w.length:=List.length_pos_iff.2 hw0
    have n0:D.nth (strsD w) 0=.str (w.getD 0 []):=D.nth_map hl0
    have z0:(0:Int)<w.length:=by omega
    have hwx:∀x∈w,x.length<=1000000:=fun x hx=>by have:=(w2 x hx).1;omega
    have n1:D.nth (strsD w) 1=.str (w.getD 1 []):=D.nth_map (by omega)
    have z1:(1:Int)<w.length:=by omega
    simp only[go_sem,n0,z0,decide_true,List.length_map]
    refine call_data rkindR (mem_ix 5 rfl) [.str (w.getD 0 [])] _ rfl ⟨_,rfl,rfl⟩ (.inl rfl) ?_
    simp only[go_sem]
    have hkle:=kindS_le (w.getD 0 [])
    have hlk:lineW w=lineK w (kindS (w.getD 0 [])):=by unfold lineW;rw[hsk];rfl
    rw[hlk]at hdP
    generalize kindS (w.getD 0 [])=kk at *
    by_cases hk:kk<10
    ·have hde:lineK w kk=.decl kk (w.getD 1 []) (if kk=2 then 0 else numN (w.getD 2 [])) (if kk=1 then numN (w.getD 3 []) else 0):=by unfold lineK;rw[hf,if_pos rfl,if_pos hk]
     rw[hde]at hdP
     have hJ2:=hJ.decl hdP
     have q2:(kk:Int)<10:=by omega
     have hkk:kk=3∨kk=4∨(kk≠3/\kk≠4/\kk<3):=by omega
     rcases hkk with rfl|rfl|⟨h3,h4,h5⟩
     ·rw[if_pos (by decide)]at hJ2
      simp only[go_sem,Int.cast_ofNat_Int,eq_self,decide_true]
      refine⟨inR_i64.2 (by omega),inR_i64.2 (by omega),(i+1,c+1,s2,cur),⟨hJ2,by show i+1<=_;omega⟩,by show L.length - (i+1)<_;omega,?_⟩
      have ec:((c+1:Nat):Int) - 1=(c:Int) - 1+1:=by omega
      simp only[ec]
      exact le_slots' (by simp only[go_sem,Int.natCast_add,Int.cast_ofNat_Int])
     ·rw[if_pos (by decide)]at hJ2
      simp only[go_sem,Int.cast_ofNat_Int,eq_self,decide_true]
      refine⟨inR_i64.2 (by omega),inR_i64.2 (by omega),(i+1,c+1,s2,cur),⟨hJ2,by show i+1<=_;omega⟩,by show L.length - (i+1)<_;omega,?_⟩
      have ec:((c+1:Nat):Int) - 1=(c:Int) - 1+1:=by omega
      simp only[ec]
      exact le_slots' (by simp only[go_sem,Int.natCast_add,Int.cast_ofNat_Int])
     ·rw[if_neg (by omega)]at hJ2
      have e3:¬(kk:Int)=3:=by omega
      have e4:¬(kk:Int)=4:=by omega
      simp only[go_sem,e3,e4,q2,decide_true,decide_false]
      refine⟨inR_i64.2 (by omega),(i+1,c,s2,cur),⟨hJ2,by show i+1<=_;omega⟩,by show L.length - (i+1)<_;omega,le_slots' (by simp only[go_sem,Int.natCast_add,Int.cast_ofNat_Int])⟩
    ·have hde:lineK w kk=.use (kk - 10) (if kk=11∨kk=12 then numN (w.getD 2 []) else 0) (decide (3<w.length)) (w.getD 1 []):=by unfold lineK;rw[hf,if_pos rfl,if_neg hk]
     rw[hde]at hdP
     obtain⟨hc1,hclt,hkey,hlen2⟩:=hJ.use0 hdP
     have q2:¬(kk:Int)<10:=by omega
     have e3:¬(kk:Int)=3:=by omega
     have e4:¬(kk:Int)=4:=by omega
     simp only[go_sem,e3,e4,q2,decide_false]
     generalize hcc:c - 1=cc at *
     have hci:(c:Int) - 1=(cc:Int):=by omega
     rw[hci]
     refine sem_le (σ':=⟨slotsOf 109 [(2,.ptr 0 0 0),(3,.dat (.int .i64 0)),(4,.dat (.int .i64 0)),(5,.dat (.sl none (strsD L))),(8,.ptr 4 0 0),(9,.dat (.int .i64 (cc:Int))),(10,.dat (.int .i64 i)),(11,.dat (.sl none (strsD w))),(12,.dat (.int .i64 kk))],[.box [.nils,.nils,.nils],.dead,.dead,.tab 4 (tabC (cellK 5 s2 cc) 0 s2.classes),.box [.dat (.sl (some 3) (s2.pools.map poolD)),.dat (.sl none (strsD s2.locks)),.sl 3 0 s2.classes.length],.row (some 4) ((stp s2 cc).map stepD)],0,[]⟩) ?_ ?_
     ·by_cases hcu:cc=cur
      ·rw[← hcu]
       exact le_slots' (by simp only[go_sem])
      ·have hst1:stp s2 cc=[]:=hkey.resolve_left hcu
       refine Le.trans (le_slots' (s':=slotsOf 109 [(2,.ptr 0 0 0),(3,.dat (.int .i64 0)),(4,.dat (.int .i64 0)),(5,.dat (.sl none (strsD L))),(8,.ptr 4 0 0),(9,.dat (.int .i64 (cc:Int))),(10,.dat (.int .i64 i)),(11,.dat (.sl none (strsD w))),(12,.dat (.int .i64 kk))]) (by simp only[go_sem])) ?_
       refine Le.trans (le_freeze 5 (ag:=some 4) (xs:=(stp s2 cur).map stepD) rfl (Nat.zero_le _)) ?_
       simp only[go_sem,cells_freeze 5 s2 cur (fun h=>hJ.ne (by omega))]
       refine Le.trans (le_addnilT 3 (cc*4+3) (some 4) (k:=4) rfl (by rw[tabC_cell _ _ _ hclt];unfold cellF;rw[if_pos hst1]) (Nat.zero_le _)) ?_
       simp only[go_sem,List.length_cons,List.length_nil,List.cons_append,List.nil_append]
       rw[cells_new 6 s2 cc hclt hst1,hst1]
       have e:AV.rens (swp 5 6) (tabC (cellK 6 s2 cc) 0 s2.classes)=tabC (cellK 5 s2 cc) 0 s2.classes:=by
        rw[tabC_ren]
        exact tabC_congr _ _ fun j _=>cellK_ren _ _ _ _ _
       refine Le.trans (le_swp (s':=slotsOf 109 [(2,.ptr 0 0 0),(3,.dat (.int .i64 0)),(4,.dat (.int .i64 0)),(5,.dat (.sl none (strsD L))),(8,.ptr 4 0 0),(9,.dat (.int .i64 (cc:Int))),(10,.dat (.int .i64 i)),(11,.dat (.sl none (strsD w))),(12,.dat (.int .i64 kk))]) (own':=[.box [.nils,.nils,.nils],.dead,.dead,.tab 4 (AV.rens (swp 5 6) (tabC (cellK 6 s2 cc) 0 s2.classes)),.box [.dat (.sl (some 3) (s2.pools.map poolD)),.dat (.sl none (strsD s2.locks)),.sl 3 0 s2.classes.length],.row (some 4) [],.dead]) 5 6 (by simp) (by simp) rfl rfl) ?_
       rw[e]
       refine le_end (own:=[_,_,_,_,_,_]) (ex:=[_]) (Nat.zero_le _) ?_ ?_ ?_
       ·simp only[go_sem]
       ·simp only[go_sem,AV.unders,AV.under,List.length_cons,List.length_nil]
       ·simp only[go_sem,AV.unders,AV.under,List.length_cons,List.length_nil,Obj.allUnder,Obj.under,true_and]
        exact tabC_underF (fun i=>cellK_under (by decide) _ _ _) _ _
     generalize hK:andThenK [19] Tryz.prog (tbl tabRP) _ _=Q2
     have hcl:∀σ σ',Le σ σ'->Q2 .normal σ'->Q2 .normal σ:=by
      subst hK
      intro σ σ' h1 h2
      exact sem_le h1 h2
     generalize hF:findE s2 (kk - 10) (w.getD 1 [])=F at *
     have hkI:(kk:Int) - 10=((kk - 10:Nat):Int):=by omega
     suffices hQ2:Q2 .normal ⟨slotsOf 109 [(2,.ptr 0 0 0),(3,.dat (.int .i64 0)),(4,.dat (.int .i64 0)),(5,.dat (.sl none (strsD L))),(8,.ptr 4 0 0),(9,.dat (.int .i64 (cc:Int))),(10,.dat (.int .i64 i)),(11,.dat (.sl none (strsD w))),(12,.dat (.int .i64 kk)),(13,.ptr 6 0 0)],[.box [.nils,.nils,.nils],.dead,.dead,.tab 4 (tabC (cellK 5 s2 cc) 0 s2.classes),.box [.dat (.sl (some 3) (s2.pools.map poolD)),.dat (.sl none (strsD s2.locks)),.sl 3 0 s2.classes.length],.row (some 4) ((stp s2 cc).map stepD),.box [.dat (.int .i64 ((kk - 10:Nat):Int)),.dat (.int .i64 F),.dat (.int .i64 0),.dat (.bool false)]],0,[]⟩ by
      refine sem_drawU [] [] (pf:=[]) (mf:=[49]) mixed tabRP_ok pureNo growNo mkRP (.one 0 (.one 1 (.one 2 (.one 3 (.one 4 (.one 5 (.one 6 (.one 7 (.alt 8 (.one 9 (.one 10 (.one 11 .fin))) (.alt 10 (.one 8 (.one 9 (.one 11 .fin))) .stop)))))))))) (by kernel_rfl) ?_
      simp only[go_sem,n1,z1,hkI,List.length_map]
      have hpk:∀ex:List Obj,Peek ([.box [.nils,.nils,.nils],.dead,.dead,.tab 4 (tabC (cellK 5 s2 cc) 0 s2.classes),.box [.dat (.sl (some 3) (s2.pools.map poolD)),.dat (.sl none (strsD s2.locks)),.sl 3 0 s2.classes.length],.row (some 4) ((stp s2 cc).map stepD)]++ex) (.agg [.dat (.sl (some 3) (s2.pools.map poolD)),.dat (.sl none (strsD s2.locks)),.sl 3 0 s2.classes.length]) (sysD s2):=fun ex=>by
       refine peek_agg ⟨peek_dat,peek_dat,?_,trivial⟩
       have:=peek_tab (own:=[.box [.nils,.nils,.nils],.dead,.dead,.tab 4 (tabC (cellK 5 s2 cc) 0 s2.classes),.box [.dat (.sl (some 3) (s2.pools.map poolD)),.dat (.sl none (strsD s2.locks)),.sl 3 0 s2.classes.length],.row (some 4) ((stp s2 cc).map stepD)]++ex) (o:=3) (len:=s2.classes.length) (k:=4) (cs:=tabC (cellK 5 s2 cc) 0 s2.classes) (M:=s2.classes.map clsF) rfl (by decide) (fun r hr=>by
        obtain⟨c,_,rfl⟩:=List.mem_map.1 hr;rfl) (by simp) (peek_cells (o:=5) rfl s2.classes 0 fun j hj=>by rw[Nat.zero_add];rfl)
       rwa [clsF_agg]at this
      have hRf:rfndR [sysD s2,.int .i64 ((kk - 10:Nat):Int),.str (w.getD 1 [])] (.dat (.int .i64 F)):=⟨s2,kk - 10,w.getD 1 [],rfl,hbig2,by omega,by omega,by rw[hF]⟩
      refine⟨inR_i64.2 (by omega),inR_i64.2 (by omega),?_⟩
      refine⟨?_,?_⟩
      ·refine call_peek rfndR (mem_ix 6 rfl) [sysD s2,.int .i64 ((kk - 10:Nat):Int),.str (w.getD 1 [])] (.dat (.int .i64 F)) ⟨hpk [],peek_dat,peek_dat,trivial⟩ hRf rfl ?_
       simp only[go_sem]
       refine hcl _ _ ?_ hQ2
       exact le_slots' (by simp only[go_sem])
      ·refine call_peek rfndR (mem_ix 6 rfl) [sysD s2,.int .i64 ((kk - 10:Nat):Int),.str (w.getD 1 [])] (.dat (.int .i64 F)) ⟨hpk [_],peek_dat,peek_dat,trivial⟩ hRf rfl ?_
       simp only[go_sem]
       refine hcl _ _ ?_ hQ2
       exact le_slots' (by simp only[go_sem])
     subst hK
     clear hcl
     simp only[andThenK_normal]
     refine sem_of_awp (Γ:=tbl tabRP) tabRP_ok _ _ _ ?_
     by_cases hF0:F<0
     ·have hR:=hJ.bad hdP (by rw[hF];exact hF0)
      subst hR
      simp only[go_sem,hF0,decide_true]
      refine⟨inR_i64.2 (by omega),?_⟩
      simp only[end41]
      refine post_resO (mv':=[]) (.inl rfl) [.cell 2 26,.tmp 3,.tmp 4] rfl (fun _ h=>h) ?_
      simp only[go_sem]
      exact Le.trans (le_tupagg (some 3) none (some 4)) (le_fin (by rfl) (by simp only[AV.under,AV.unders,and_self]))
     ·have hJ2:=hJ.use hdP (by rw[hF];exact hF0)
      rw[hF,hcc]at hJ2
      simp only[go_sem,hF0,decide_false]
      have hcell:=tabC_cell (cellK 5 s2 cc) cc s2.classes hclt
      have hcv:cellK 5 s2 cc cc=.sl 5 0 (stp s2 cc).length:=by unfold cellK;rw[if_pos rfl]
      rw[hcv]at hcell
      have hclI:(cc:Int)<(s2.classes.length:Int):=by omega
      have tkT:((stp s2 cc).map stepD).take (stp s2 cc).length=(stp s2 cc).map stepD:=List.take_of_length_le (by simp)
      have hwl:w.length=wantK kk w:=by
       unfold formW at hf
       simp only[Bool.and_eq_true,decide_eq_true_eq]at hf
       exact hf.1.1.1.2
      have hadd:∀x:PStep,stp (addS s2 cc x) cc=stp s2 cc++[x]:=fun x=>by rw[addS_stp _ _ _ hclt,if_pos rfl]
      have hkk:(kk=11/\w.length=4)∨((kk=11∨kk=12)/\w.length=3)∨(kk≠11/\kk≠12/\w.length=2):=by
       unfold wantK at hwl
       split at hwl
       ·omega
       split at hwl
       ·rename_i h;rcases h with h|h|h
        ·omega
        ·omega
        ·exact .inr (.inl ⟨.inr h,hwl⟩)
       split at hwl
       ·rename_i h;split at hwl
        ·exact .inl ⟨h,hwl⟩
        ·exact .inr (.inl ⟨.inl h,hwl⟩)
       ·exact .inr (.inr ⟨by omega,by omega,hwl⟩)
      rcases hkk with⟨hkA,hlen⟩|⟨hkA,hlen⟩|⟨hkA,hkB,hlen⟩
      ·have hu:(⟨((kk - 10:Nat):Int),F,if kk=11∨kk=12 then numN (w.getD 2 []) else 0,decide (3<w.length)⟩:PStep)=⟨((kk - 10:Nat):Int),F,numN (w.getD 2 []),true⟩:=by rw[if_pos (by omega),decide_eq_true (by omega)]
       rw[hu]at hJ2
       have q3:(3:Int)<(w.length:Int):=by omega
       have q4:(2:Int)<(w.length:Int):=by omega
       have n2:D.nth (strsD w) 2=.str (w.getD 2 []):=D.nth_map (by omega)
       have hx2:(w.getD 2 []).length<=1000000:=by
        rw[List.getD_eq_getElem?_getD]
        cases hg:w[2]? with
        | none=>simp
        | some y=>exact hwx y (List.mem_of_getElem? hg)
       simp only[go_sem,q4,n2,decide_true,List.length_map]
       refine call_data numR (mem_ix 7 rfl) [.str (w.getD 2 [])] _ rfl ⟨_,rfl,hx2,rfl⟩ (.inl rfl) ?_
       simp only[go_sem,q3,decide_true,decide_false,List.length_map]
       refine sem_drawU [] [(11,[5]),(0,[5]),(1,[5]),(2,[5])] (pf:=[]) (mf:=[]) mixed tabRP_ok pureNo growNo noMk (ones [0,1,2,3,4,5,6,7,8,9,10,11,12,13,14]) (by kernel_rfl) ?_
       simp only[go_sem,hcell,tkT,hclI,List.length_map]
       refine⟨by rw[tabC_len];omega,by omega,by omega,by rw[AV.kills_length,tabC_len];omega,inR_i64.2 (by omega),(i+1,c,addS s2 cc ⟨((kk - 10:Nat):Int),F,numN (w.getD 2 []),true⟩,cc),⟨hJ2,by show i+1<=_;omega⟩,by show L.length - (i+1)<_;omega,?_⟩
       rw[cells_app 5 s2 cc ⟨((kk - 10:Nat):Int),F,numN (w.getD 2 []),true⟩ hclt]
       simp only[hadd,List.map_append,List.map_cons,List.map_nil,hci]
       refine le_end (own:=[_,_,_,_,_,_]) (ex:=[_,_]) (Nat.zero_le _) ?_ ?_ ?_
       ·simp only[go_sem,Int.natCast_add,Int.cast_ofNat_Int]
       ·simp only[go_sem,AV.unders,AV.under,List.length_cons,List.length_nil]
       ·simp only[go_sem,AV.unders,AV.under,List.length_cons,List.length_nil,Obj.allUnder,Obj.under,true_and]
        exact tabC_underF (fun i=>cellK_under (by decide) _ _ _) _ _
      ·have hu:(⟨((kk - 10:Nat):Int),F,if kk=11∨kk=12 then numN (w.getD 2 []) else 0,decide (3<w.length)⟩:PStep)=⟨((kk - 10:Nat):Int),F,numN (w.getD 2 []),false⟩:=by rw[if_pos (by omega),decide_eq_false (by omega)]
       rw[hu]at hJ2
       have q3:¬(3:Int)<(w.length:Int):=by omega
       have q4:(2:Int)<(w.length:Int):=by omega
       have n2:D.nth (strsD w) 2=.str (w.getD 2 []):=D.nth_map (by omega)
       have hx2:(w.getD 2 []).length<=1000000:=by
        rw[List.getD_eq_getElem?_getD]
        cases hg:w[2]? with
        | none=>simp
        | some y=>exact hwx y (List.mem_of_getElem? hg)
       simp only[go_sem,q4,n2,decide_true,List.length_map]
       refine call_data numR (mem_ix 7 rfl) [.str (w.getD 2 [])] _ rfl ⟨_,rfl,hx2,rfl⟩ (.inl rfl) ?_
       simp only[go_sem,q3,decide_true,decide_false,List.length_map]
       refine sem_drawU [] [(11,[5]),(0,[5]),(1,[5]),(2,[5])] (pf:=[]) (mf:=[]) mixed tabRP_ok pureNo growNo noMk (ones [0,1,2,3,4,5,6,7,8,9,10,11,12,13,14]) (by kernel_rfl) ?_
       simp only[go_sem,hcell,tkT,hclI,List.length_map]
       refine⟨by rw[tabC_len];omega,by omega,by omega,by rw[AV.kills_length,tabC_len];omega,inR_i64.2 (by omega),(i+1,c,addS s2 cc ⟨((kk - 10:Nat):Int),F,numN (w.getD 2 []),false⟩,cc),⟨hJ2,by show i+1<=_;omega⟩,by show L.length - (i+1)<_;omega,?_⟩
       rw[cells_app 5 s2 cc ⟨((kk - 10:Nat):Int),F,numN (w.getD 2 []),false⟩ hclt]
       simp only[hadd,List.map_append,List.map_cons,List.map_nil,hci]
       refine le_end (own:=[_,_,_,_,_,_]) (ex:=[_,_]) (Nat.zero_le _) ?_ ?_ ?_
       ·simp only[go_sem,Int.natCast_add,Int.cast_ofNat_Int]
       ·simp only[go_sem,AV.unders,AV.under,List.length_cons,List.length_nil]
       ·simp only[go_sem,AV.unders,AV.under,List.length_cons,List.length_nil,Obj.allUnder,Obj.under,true_and]
        exact tabC_underF (fun i=>cellK_under (by decide) _ _ _) _ _
      ·have hu:(⟨((kk - 10:Nat):Int),F,if kk=11∨kk=12 then numN (w.getD 2 []) else 0,decide (3<w.length)⟩:PStep)=⟨((kk - 10:Nat):Int),F,0,false⟩:=by rw[if_neg (by omega),decide_eq_false (by omega)]
       rw[hu]at hJ2
       have q3:¬(3:Int)<(w.length:Int):=by omega
       have q4:¬(2:Int)<(w.length:Int):=by omega
       simp only[go_sem,q4,q3,decide_false,List.length_map]
       refine sem_drawU [] [(11,[5]),(0,[5]),(1,[5]),(2,[5])] (pf:=[]) (mf:=[]) mixed tabRP_ok pureNo growNo noMk (ones [0,1,2,3,4,5,6,7,8,9,10,11,12,13,14]) (by kernel_rfl) ?_
       simp only[go_sem,hcell,tkT,hclI,List.length_map]
       refine⟨by rw[tabC_len];omega,by omega,by omega,by rw[AV.kills_length,tabC_len];omega,inR_i64.2 (by omega),(i+1,c,addS s2 cc ⟨((kk - 10:Nat):Int),F,0,false⟩,cc),⟨hJ2,by show i+1<=_;omega⟩,by show L.length - (i+1)<_;omega,?_⟩
       rw[cells_app 5 s2 cc ⟨((kk - 10:Nat):Int),F,0,false⟩ hclt]
       simp only[hadd,List.map_append,List.map_cons,List.map_nil,hci]
       refine le_end (own:=[_,_,_,_,_,_]) (ex:=[_,_]) (Nat.zero_le _) ?_ ?_ ?_
       ·simp only[go_sem,Int.natCast_add,Int.cast_ofNat_Int]
       ·simp only[go_sem,AV.unders,AV.under,List.length_cons,List.length_nil]
       ·simp only[go_sem,AV.unders,AV.under,List.length_cons,List.length_nil,Obj.allUnder,Obj.under,true_and]
        exact tabC_underF (fun i=>cellK_under (by decide) _ _ _) _ _
 ·simp only[go_sem,h0,decide_false,Bool.not_false]
  refine post_resO (mv':=[]) (.inl rfl) [.cell 2 26,.tmp 3,.tmp 4] rfl (fun _ h=>h) ?_
  simp only[go_sem]
  exact Le.trans (le_tupagg (some 3) none (some 4)) (le_fin (by rfl) (by simp only[AV.under,AV.unders,and_self]))
end Go.AM
namespace Go.AM
open Go Go.Proofs
def stpTR(f:Str->Str)(ds:List D)(v:AV):Prop:=∃(s:PSys) (x:PStep),ds=[sysD s,stepD x]/\checkE s=0/\preE s x=0/\v=.dat (.str (f (stepT s x)))
abbrev lnT(t:Str):Str:=32 :: 32 :: t++[10]
abbrev tabFs:List (Nat×Contract):=[(53,dataC itoaR)]
theorem tabFs_ok:OkG Tryz.prog (tbl tabFs):=okG_cons itoa_ok okG_nil
theorem tabFs_dat(g:Nat)(C:Contract)(h:(g,C)∈tabFs):∃R,C=dataC R:=by
 simp only[tabFs,List.mem_singleton,Prod.mk.injEq]at h
 exact⟨_,h.2⟩
theorem pfFs:PureFns (tbl tabFs) [53]:=pure_of fun g C h _=>tabFs_dat g C h
theorem gfFs:GrowFns (tbl tabFs) [53]:=grow_of fun g C h _=>tabFs_dat g C h
theorem fstep_ok:OkF Tryz.prog 54 (dataC (stpTR (fun t=>t))):=by
 refine okF_data Tryz.func54 rfl (by decide) ?_
 rintro ds v ⟨s,x,rfl,hc,hp,rfl⟩
 have g:=goodS_of hc
 have fit:=st_fit g hp
 obtain⟨⟨k1,k5⟩,⟨on0,on1⟩,hcn,hc0⟩:=preE_0 hp
 have hnm:=(isNm_len fit.nm).2
 have hdp:=fit.dp
 have fc0:=fit.c0
 have fc1:=fit.c1
 have hit:=(numOk fc0 fc1).l3
 obtain⟨kind,on,cnt,deep⟩:=x
 simp only at k1 k5 on0 on1 hcn hc0 hdp fc0 fc1 hit
 obtain⟨n,rfl⟩:∃n:Nat,on=n:=⟨on.toNat,by omega⟩
 refine sem_of_awp (Γ:=tbl tabFs) tabFs_ok _ _ _ ?_
 have fin:∀sl own (t t':Str),t=t'->sl.getD 4 .top=.dat (.str t)->post Tryz.prog Tryz.f54 (.dat (.str t')) [] [] .ret ⟨sl,own,0,[]⟩:=fun sl own t t' e h=>by
  subst e
  refine post_resO (mv':=[]) (.inl rfl) [.tmp 4] rfl (fun _ h=>h) ?_
  simp only[go_sem,h]
  exact le_fin (by rfl) (by simp only[AV.under])
 have hk:kind=1∨kind=2∨kind=3∨kind=4∨kind=5:=by omega
 rcases hk with rfl|rfl|rfl|rfl|rfl
 ·have hlt:n<s.pools.length:=by simp[mostE]at on1;omega
  have hnth:D.nth (s.pools.map poolD) n=poolD (s.pools.getD n default):=D.nth_map hlt
  have hpl:(n:Int)<(s.pools.length:Int):=by omega
  have hnd:(s.pools.getD n default).name.length<=8:=hnm
  generalize hP:s.pools.getD n default=P at *
  cases deep with
  | true =>
   simp only[go_sem,Tryz.ntmps54,sysD,stepD,eq_self,decide_true,decide_false,hnth,hpl,poolD,clsD,List.length_append,List.length_cons,List.length_nil,Int.toNat_natCast]
   refine sem_drawU [] [] (pf:=[53]) (mf:=[]) mixed tabFs_ok pfFs gfFs noMk (ones [0,1,2,3,4,5,6,7,8,9,10,11,12,13]) (by kernel_rfl) ?_
   simp only[go_sem,Tryz.ntmps54,sysD,stepD,eq_self,decide_true,decide_false,hnth,hpl,poolD,clsD,List.length_append,List.length_cons,List.length_nil,Int.toNat_natCast]
   refine⟨by simp only[maxLen];omega,by simp only[maxLen];omega,?_⟩
   refine call_data itoaR (mem_ix 0 rfl) [.int .i64 cnt] _ rfl ⟨cnt,rfl,by omega,by omega,rfl⟩ (.inl rfl) ?_
   simp only[go_sem,Tryz.ntmps54,sysD,stepD,eq_self,decide_true,decide_false,hnth,hpl,poolD,clsD,List.length_append,List.length_cons,List.length_nil,Int.toNat_natCast]
   refine⟨by simp only[maxLen];omega,?_⟩
   refine⟨by simp only[maxLen];omega,?_⟩
   refine fin _ _ _ _ ?_ rfl
   simp[stepT,onName,← hP]
  | false =>
   simp only[go_sem,Tryz.ntmps54,sysD,stepD,eq_self,decide_true,decide_false,hnth,hpl,poolD,clsD,List.length_append,List.length_cons,List.length_nil,Int.toNat_natCast]
   refine sem_drawU [] [] (pf:=[53]) (mf:=[]) mixed tabFs_ok pfFs gfFs noMk (ones [0,1,2,3,4,5,6,7,8,9,10,11,12,13]) (by kernel_rfl) ?_
   simp only[go_sem,Tryz.ntmps54,sysD,stepD,eq_self,decide_true,decide_false,hnth,hpl,poolD,clsD,List.length_append,List.length_cons,List.length_nil,Int.toNat_natCast]
   refine⟨by simp only[maxLen];omega,by simp only[maxLen];omega,?_⟩
   refine call_data itoaR (mem_ix 0 rfl) [.int .i64 cnt] _ rfl ⟨cnt,rfl,by omega,by omega,rfl⟩ (.inl rfl) ?_
   simp only[go_sem,Tryz.ntmps54,sysD,stepD,eq_self,decide_true,decide_false,hnth,hpl,poolD,clsD,List.length_append,List.length_cons,List.length_nil,Int.toNat_natCast]
   refine⟨by simp only[maxLen];omega,?_⟩
   refine fin _ _ _ _ ?_ rfl
   simp[stepT,onName,← hP]
 ·have hlt:n<s.pools.length:=by simp[mostE]at on1;omega
  have hnth:D.nth (s.pools.map poolD) n=poolD (s.pools.getD n default):=D.nth_map hlt
  have hpl:(n:Int)<(s.pools.length:Int):=by omega
  have hnd:(s.pools.getD n default).name.length<=8:=hnm
  generalize hP:s.pools.getD n default=P at *
  simp only[go_sem,Tryz.ntmps54,sysD,stepD,eq_self,decide_true,decide_false,hnth,hpl,poolD,clsD,List.length_append,List.length_cons,List.length_nil,Int.toNat_natCast]
  refine sem_drawU [] [] (pf:=[53]) (mf:=[]) mixed tabFs_ok pfFs gfFs noMk (ones [0,1,2,3,4,5,6,7,8,9,10,11,12,13]) (by kernel_rfl) ?_
  simp only[go_sem,Tryz.ntmps54,sysD,stepD,eq_self,decide_true,decide_false,hnth,hpl,poolD,clsD,List.length_append,List.length_cons,List.length_nil,Int.toNat_natCast]
  refine⟨by simp only[maxLen];omega,by simp only[maxLen];omega,?_⟩
  refine call_data itoaR (mem_ix 0 rfl) [.int .i64 cnt] _ rfl ⟨cnt,rfl,by omega,by omega,rfl⟩ (.inl rfl) ?_
  simp only[go_sem,Tryz.ntmps54,sysD,stepD,eq_self,decide_true,decide_false,hnth,hpl,poolD,clsD,List.length_append,List.length_cons,List.length_nil,Int.toNat_natCast]
  refine⟨by simp only[maxLen];omega,?_⟩
  refine fin _ _ _ _ ?_ rfl
  simp[stepT,onName,← hP]
 ·have hlt:n<s.locks.length:=by simp[mostE]at on1;omega
  have hnth:D.nth (s.locks.map D.str) n=.str (s.locks.getD n []):=D.nth_map hlt
  have hpl:(n:Int)<(s.locks.length:Int):=by omega
  have hnd:(s.locks.getD n []).length<=8:=hnm
  generalize hP:s.locks.getD n []=P at *
  simp only[go_sem,Tryz.ntmps54,sysD,stepD,eq_self,decide_true,decide_false,hnth,hpl,poolD,clsD,List.length_append,List.length_cons,List.length_nil,Int.toNat_natCast]
  refine⟨by simp only[maxLen];omega,?_⟩
  refine fin _ _ _ _ ?_ rfl
  simp[stepT,onName,← hP]
 ·have hlt:n<s.locks.length:=by simp[mostE]at on1;omega
  have hnth:D.nth (s.locks.map D.str) n=.str (s.locks.getD n []):=D.nth_map hlt
  have hpl:(n:Int)<(s.locks.length:Int):=by omega
  have hnd:(s.locks.getD n []).length<=8:=hnm
  generalize hP:s.locks.getD n []=P at *
  simp only[go_sem,Tryz.ntmps54,sysD,stepD,eq_self,decide_true,decide_false,hnth,hpl,poolD,clsD,List.length_append,List.length_cons,List.length_nil,Int.toNat_natCast]
  refine⟨by simp only[maxLen];omega,?_⟩
  refine fin _ _ _ _ ?_ rfl
  simp[stepT,onName,← hP]
 ·have hlt:n<s.classes.length:=by simp[mostE]at on1;omega
  have hnth:D.nth (s.classes.map clsD) n=clsD (s.classes.getD n default):=D.nth_map hlt
  have hpl:(n:Int)<(s.classes.length:Int):=by omega
  have hnd:(s.classes.getD n default).name.length<=8:=hnm
  generalize hP:s.classes.getD n default=P at *
  simp only[go_sem,Tryz.ntmps54,sysD,stepD,eq_self,decide_true,decide_false,hnth,hpl,poolD,clsD,List.length_append,List.length_cons,List.length_nil,Int.toNat_natCast]
  refine⟨by simp only[maxLen];omega,?_⟩
  refine fin _ _ _ _ ?_ rfl
  simp[stepT,onName,← hP]
end Go.AM
namespace Go.AM
open Go Go.Proofs
def idxIR(ds:List D)(v:AV):Prop:=∃(l:List Int) (x:Int),ds=[.sl none (l.map (.int .i64)),.int .i64 x]/\l.length<4611686018427387904/\v=.dat (.int .i64 (idxG x 0 l))
theorem idxI_ok:OkF Tryz.prog 85 (dataC idxIR):=by
 refine okF_data Tryz.func85 rfl (by decide) ?_
 rintro ds v ⟨l,x,rfl,hl,rfl⟩
 generalize hv:idxG x 0 l=V
 refine sem_of_awp (Γ:=tbl []) okG_nil _ _ _ ?_
 have fin:∀s own (b c:Int),b=c->s.getD 4 .top=.dat (.int .i64 b)->post Tryz.prog Tryz.f85 (.dat (.int .i64 c)) [] [] .ret ⟨s,own,0,[]⟩:=fun s own b c e h=>by
  subst e
  exact post_data (.inl rfl) [4] rfl trivial (by simp only[tmpsOf,h];rfl)
 simp only[go_sem,Tryz.ntmps85]
 refine sem_loop (fun k:Nat=>⟨slotsOf 19 [(0,.dat (.sl none (l.map (.int .i64)))),(1,.dat (.int .i64 x)),(4,.dat (.int .i64 0)),(7,.dat (.int .i64 l.length)),(8,.dat (.int .i64 k))],[],0,[]⟩)
  (fun k=>k<=l.length/\idxG x k (l.drop k)=V) (fun k=>l.length - k) 0 ⟨Nat.zero_le _,hv⟩ ?_ ?_
 ·exact le_slots' (by simp only[go_sem,Int.natCast_zero])
 ·rintro k ⟨hk,hI⟩
  refine sem_of_awp (Γ:=tbl []) okG_nil _ _ _ ?_
  cases hd:l.drop k with
  | nil =>
   have:=end_of_drop hd hk
   have hk2:¬(k:Int)<l.length:=by omega
   simp only[go_sem,hk2]
   refine fin _ _ _ _ ?_ rfl
   rw[← hI,hd];rfl
  | cons c q =>
   have hlt:=lt_of_drop hd
   have hk2:(k:Int)<l.length:=by omega
   have hk0:(0:Int)<=k:=Int.natCast_nonneg k
   have hn:=nth_of_drop (f:=.int .i64) hd
   rw[hd,idxG]at hI
   by_cases he:x=c
   ·simp only[go_sem,hk2,hk0,hn,he]
    rw[if_pos he]at hI
    exact fin _ _ _ _ hI rfl
   ·simp only[go_sem,hk2,hk0,hn,he]
    rw[if_neg he]at hI
    refine⟨inR_i64.2 (by omega),k+1,⟨by omega,by rw[drop_cons hd];exact hI⟩,by omega,?_⟩
    exact le_slots' (by simp only[go_sem,Int.natCast_add,Int.cast_ofNat_Int])
end Go.AM
namespace Go.AM
open Go Go.Proofs
def nanR(ds:List D)(v:AV):Prop:=∃a:Int,ds=[.int .i64 a]/\v=.dat (.bool false)
theorem nanI_ok:OkF Tryz.prog 121 (dataC nanR):=by
 refine okF_data Tryz.func121 rfl (by decide) ?_
 rintro ds v ⟨a,rfl,rfl⟩
 refine sem_of_awp (Γ:=tbl []) okG_nil _ _ _ ?_
 simp only[go_sem,Tryz.ntmps121,eq_self,decide_true,Bool.not_true]
 exact post_data (.inl rfl) [2] rfl trivial rfl
def lessIR(ds:List D)(v:AV):Prop:=∃a b:Int,ds=[.int .i64 a,.int .i64 b]/\v=.dat (.bool (decide (a<b)))
abbrev tabLs:List (Nat×Contract):=[(121,dataC nanR)]
theorem tabLs_ok:OkG Tryz.prog (tbl tabLs):=okG_cons nanI_ok okG_nil
theorem lessI_ok:OkF Tryz.prog 103 (dataC lessIR):=by
 refine okF_data Tryz.func103 rfl (by decide) ?_
 rintro ds v ⟨a,b,rfl,rfl⟩
 refine sem_of_awp (Γ:=tbl tabLs) tabLs_ok _ _ _ ?_
 simp only[go_sem,Tryz.ntmps103]
 refine call_data nanR (mem_ix 0 rfl) [.int .i64 a] _ rfl ⟨a,rfl,rfl⟩ (.inl rfl) ?_
 simp only[go_sem]
 exact post_data (.inl rfl) [4] rfl trivial rfl
def sortsTo(u T:List Int):Prop:=∀u':List Int,u'.Perm u->u'.Pairwise (· <= ·)->u'=T
def insR41(aa:List AV)(obs:List Obj)(v0:AV)(obs' ex:List Obj)(mv0:List Nat):Prop:=∃u T:List Int,u.length<=12/\sortsTo u T/\aa=[.sl 0 0 u.length,.dat (.int .i64 0),.dat (.int .i64 u.length)]/\obs=[.row none (intsD u)]/\v0=.tup []/\obs'=[.row none (intsD T)]/\ex=[]/\mv0=[]
abbrev tabIn:List (Nat×Contract):=[(103,dataC lessIR)]
theorem tabIn_ok:OkG Tryz.prog (tbl tabIn):=okG_cons lessI_ok okG_nil
theorem tabIn_dat(g:Nat)(C:Contract)(h:(g,C)∈tabIn):∃R,C=dataC R:=by
 simp only[tabIn,List.mem_singleton,Prod.mk.injEq]at h
 exact⟨_,h.2⟩
theorem nthI{l:List Int}{i:Nat}(h:i<l.length):D.nth (intsD l) i=.int .i64 (l.getD i 0):=D.nth_map h
theorem insSort_ok:OkF Tryz.prog 97 (lentC insR41):=by
 refine okF_lent Tryz.func97 rfl (by decide) ?_
 rintro aa obs v0 obs' ex mv0 ⟨u,T,hu,hT,rfl,rfl,rfl,rfl,rfl,rfl⟩
 refine sem_of_awp (Γ:=tbl tabIn) tabIn_ok _ _ _ ?_
 simp only[go_sem,Tryz.ntmps97]
 refine⟨inR_i64.2 (by omega),?_⟩
 refine sem_loop (fun p:Nat×List Int=>⟨slotsOf 49 [(0,.sl 0 0 u.length),(1,.dat (.int .i64 0)),(2,.dat (.int .i64 u.length)),(6,.dat (.int .i64 p.1))],[.row none (intsD p.2)],1,[]⟩)
  (fun p=>1<=p.1/\(p.1<=u.length∨p.1=1)/\p.2.Perm u/\∀a b:Nat,a<b->b<p.1->p.2.getD a 0<=p.2.getD b 0) (fun p=>u.length - p.1) (1,u) ⟨Nat.le_refl _,.inr rfl,List.Perm.refl _,fun a b h1 h2=>by simp only at h2;omega⟩ ?_ ?_
 ·exact le_slots' (by simp only[go_sem,Int.natCast_one])
 rintro ⟨i,l⟩ ⟨hi1,hi2,hp,hs⟩
 simp only at hi1 hi2 hp hs ⊢
 have hll:l.length=u.length:=hp.length_eq
 refine sem_of_awp (Γ:=tbl tabIn) tabIn_ok _ _ _ ?_
 by_cases hk:i<u.length
 ·have k1:(i:Int)<(u.length:Int):=by omega
  simp only[go_sem,k1,decide_true]
  refine sem_loop (fun p:Nat×List Int=>⟨slotsOf 49 [(0,.sl 0 0 u.length),(1,.dat (.int .i64 0)),(2,.dat (.int .i64 u.length)),(6,.dat (.int .i64 i)),(7,.dat (.int .i64 p.1))],[.row none (intsD p.2)],1,[]⟩)
   (fun p=>p.1<=i/\p.2.Perm u/\srtI i p.1 p.2) (fun p=>p.1) (i,l) ⟨Nat.le_refl _,hp,fun a b h1 h2 h3=>hs a b h1 (by omega)⟩ ?_ ?_
  ·exact le_slots' (by simp only[go_sem])
  rintro ⟨j,m⟩ ⟨hj,hp2,hs2⟩
  simp only at hj hp2 hs2 ⊢
  have hml:m.length=u.length:=hp2.length_eq
  have stop:(j=0∨¬m.getD j 0<m.getD (j - 1) 0)->∀a b:Nat,a<b->b<i+1->m.getD a 0<=m.getD b 0:=fun h a b h1 h2=>srtI_stop hs2 h a b h1 (by omega)
  refine sem_of_awp (Γ:=tbl tabIn) tabIn_ok _ _ _ ?_
  refine sem_drawU [] [] (pf:=[103]) (mf:=[]) mixed tabIn_ok (pure_of fun g C h _=>tabIn_dat g C h) (grow_of fun g C h _=>tabIn_dat g C h) noMk (ones [0,1,2,3,4,5,6,7,8,9,10,11,12,13,14]) (by kernel_rfl) ?_
  by_cases hj0:j=0
  ·subst hj0
   have z:¬(0:Int)<((0:Nat):Int):=by omega
   simp only[go_sem,z,decide_false]
   refine⟨inR_i64.2 (by omega),(i+1,m),⟨by show 1<=i+1;omega,.inl (by show i+1<=_;omega),hp2,stop (.inl rfl)⟩,by show u.length - (i+1)<_;omega,?_⟩
   exact le_slots' (by simp only[go_sem,Int.natCast_add,Int.cast_ofNat_Int])
  ·have z:(0:Int)<(j:Int):=by omega
   simp only[go_sem,z,decide_true]
   have hjn:((j:Int) - 1).toNat=j - 1:=by omega
   have n1:=nthI (l:=m) (i:=j) (by omega)
   have n2:=nthI (l:=m) (i:=j - 1) (by omega)
   refine⟨by omega,by omega,inR_i64.2 (by omega),by omega,by omega,by omega,?_⟩
   rw[hjn,n1,n2]
   refine call_data lessIR (mem_ix 0 rfl) [.int .i64 (m.getD j 0),.int .i64 (m.getD (j - 1) 0)] _ rfl ⟨_,_,rfl,rfl⟩ (.inl rfl) ?_
   by_cases hlt:m.getD j 0<m.getD (j - 1) 0
   ·simp only[go_sem,eq_true hlt,decide_true]
    refine sem_drawU [] [] (pf:=[]) (mf:=[]) mixed tabIn_ok pureNo growNo noMk (ones [0,1,2,3,4,5,6,7,8,9,10,11,12,13,14,15,16,17]) (by kernel_rfl) ?_
    simp only[go_sem,hjn,n1,n2]
    have hsw:(intsD m).set j (.int .i64 (m.getD (j - 1) 0))=intsD (m.set j (m.getD (j - 1) 0)):=by simp[intsD,List.map_set]
    have hsw2:(intsD (m.set j (m.getD (j - 1) 0))).set (j - 1) (.int .i64 (m.getD j 0))=intsD (swapI m j):=by simp[intsD,swapI,List.map_set]
    refine⟨inR_i64.2 (by omega),inR_i64.2 (by omega),by omega,by omega,by omega,by omega,by omega,by omega,by omega,by omega,by omega,by omega,inR_i64.2 (by omega),(j - 1,swapI m j),⟨by show j - 1<=i;omega,(swapI_perm (by omega) (by omega)).trans hp2,srtI_swap hs2 (by omega) (by omega) hj hlt⟩,by show j - 1<j;omega,?_⟩
    rw[hsw,hsw2]
    have e1:((j - 1:Nat):Int)=(j:Int) - 1:=by omega
    exact le_slots' (by simp only[go_sem,e1])
   ·simp only[go_sem,eq_false hlt,decide_false]
    refine⟨inR_i64.2 (by omega),(i+1,m),⟨by show 1<=i+1;omega,.inl (by show i+1<=_;omega),hp2,stop (.inr hlt)⟩,by show u.length - (i+1)<_;omega,?_⟩
    exact le_slots' (by simp only[go_sem,Int.natCast_add,Int.cast_ofNat_Int])
 ·have k1:¬(i:Int)<(u.length:Int):=by omega
  simp only[go_sem,k1,decide_false]
  have hT2:l=T:=hT l hp (srt_pairwise fun a b h1 h2=>hs a b h1 (by rcases hi2 with h|h <;> omega))
  subst hT2
  refine post_resO (mv':=[]) (.inr rfl) [] rfl (fun _ h=>h) ?_
  simp only[go_sem]
  exact Le.refl _
theorem namesP:Names Tryz.prog:=by
 have h : (Tryz.prog.funcs.toList.all fun f => decide (f.name ≠ "runtime.NumGoroutine")) = true := by kernel_rfl
 intro g fn hf
 have:=List.all_eq_true.1 h fn (List.mem_of_getElem? (by simpa using hf))
 simpa using this
abbrev lenK:List (List D×AV):=[([.int .u64 0],.dat (.int .i64 0)),([.int .u64 1],.dat (.int .i64 1)),([.int .u64 2],.dat (.int .i64 2)),([.int .u64 3],.dat (.int .i64 2)),([.int .u64 4],.dat (.int .i64 3)),([.int .u64 5],.dat (.int .i64 3)),([.int .u64 6],.dat (.int .i64 3)),([.int .u64 7],.dat (.int .i64 3)),([.int .u64 8],.dat (.int .i64 4)),([.int .u64 9],.dat (.int .i64 4)),([.int .u64 10],.dat (.int .i64 4)),([.int .u64 11],.dat (.int .i64 4)),([.int .u64 12],.dat (.int .i64 4))]
theorem len_ok:OkF Tryz.prog 87 (dataC fun ds v=>(ds,v)∈lenK):=okF_eval mixed namesP 100 _ (fun x hx=>by
 simp only[lenK,List.mem_cons,List.not_mem_nil,or_false]at hx
 rcases hx with rfl|rfl|rfl|rfl|rfl|rfl|rfl|rfl|rfl|rfl|rfl|rfl|rfl <;> kernel_rfl)
theorem lenK_at{n:Nat}(h:n<=12):∃k:Int,([D.int .u64 (n:Int)],AV.dat (.int .i64 k))∈lenK:=by
 have h:n=0∨n=1∨n=2∨n=3∨n=4∨n=5∨n=6∨n=7∨n=8∨n=9∨n=10∨n=11∨n=12:=by omega
 rcases h with rfl|rfl|rfl|rfl|rfl|rfl|rfl|rfl|rfl|rfl|rfl|rfl|rfl
 ·exact⟨0,by simp[lenK]⟩
 ·exact⟨1,by simp[lenK]⟩
 ·exact⟨2,by simp[lenK]⟩
 ·exact⟨2,by simp[lenK]⟩
 ·exact⟨3,by simp[lenK]⟩
 ·exact⟨3,by simp[lenK]⟩
 ·exact⟨3,by simp[lenK]⟩
 ·exact⟨3,by simp[lenK]⟩
 ·exact⟨4,by simp[lenK]⟩
 ·exact⟨4,by simp[lenK]⟩
 ·exact⟨4,by simp[lenK]⟩
 ·exact⟨4,by simp[lenK]⟩
 ·exact⟨4,by simp[lenK]⟩
def pdqR(aa:List AV)(obs:List Obj)(v0:AV)(obs' ex:List Obj)(mv0:List Nat):Prop:=∃(u T:List Int) (k:Int),u.length<=12/\sortsTo u T/\aa=[.sl 0 0 u.length,.dat (.int .i64 0),.dat (.int .i64 u.length),.dat (.int .i64 k)]/\obs=[.row none (intsD u)]/\v0=.tup []/\obs'=[.row none (intsD T)]/\ex=[]/\mv0=[]
abbrev tabPd:List (Nat×Contract):=[(97,lentC insR41)]
theorem tabPd_ok:OkG Tryz.prog (tbl tabPd):=okG_cons insSort_ok okG_nil
theorem pdq_ok:OkF Tryz.prog 86 (lentC pdqR):=by
 refine okF_lent Tryz.func86 rfl (by decide) ?_
 rintro aa obs v0 obs' ex mv0 ⟨u,T,k,hu,hT,rfl,rfl,rfl,rfl,rfl,rfl⟩
 refine sem_of_awp (Γ:=tbl tabPd) tabPd_ok _ _ _ ?_
 simp only[go_sem,Tryz.ntmps86]
 refine sem_rounds 1 (rounds_go ?_)
 refine sem_of_awp (Γ:=tbl tabPd) tabPd_ok _ _ _ ?_
 have c1:(u.length:Int) - 0<=12:=by omega
 simp only[go_sem,c1,decide_true]
 refine⟨inR_i64.2 (by omega),?_⟩
 refine call_lent insR41 (mem_ix 0 rfl) [0] ⟨u,T,hu,hT,rfl,rfl,rfl,rfl,rfl,rfl⟩ (by decide) (by simp) rfl rfl rfl (by simp[AV.unders,AV.under]) (by simp[Obj.under]) (fun j hj=>by
  obtain rfl:j=0:=by simp at hj;exact hj
  rfl) ?_
 simp only[go_sem]
 refine post_resO (mv':=[]) (.inl rfl) [] rfl (fun _ h=>h) ?_
 simp only[go_sem]
 exact Le.refl _
noncomputable def T117:Ty:=(tyOf Tryz.prog 117).getD ⟨false,0,0,none,.bool⟩
@[go_sem] theorem ty117:tyOf Tryz.prog 117=some T117:=eqk (by kernel_rfl)
@[go_sem] theorem T117_agg:T117.agg=false:=eqk (by kernel_rfl)
@[go_sem] theorem T117_size:T117.size=1:=eqk (by kernel_rfl)
@[go_sem] theorem T117_bytes:T117.bytes=8:=eqk (by kernel_rfl)
@[go_sem] theorem T117_want:T117.want=none:=eqk (by kernel_rfl)
@[go_sem] theorem T117_desc:T117.desc=.int .u64:=eqk (by kernel_rfl)
@[go_sem] theorem T117_arr:T117.arr=none:=eqk (by kernel_rfl)
@[go_sem] theorem T117_zero:T117.zero=some (.int .u64 0):=eqk (by kernel_rfl)
@[go_sem] theorem T117_zeroD:zeroD T117=some (.int .u64 0):=eqk (by kernel_rfl)
@[go_sem] theorem T117_zeroElem:zeroElem T117=some (.int .u64 0):=eqk (by kernel_rfl)
@[go_sem ↓] theorem T117_zs:(∃z,T117.zero=some z/\z.cells.size=T117.size)=True:=by
 refine eq_true ⟨_,T117_zero,?_⟩
 kernel_rfl
def sortR41(aa:List AV)(obs:List Obj)(v0:AV)(obs' ex:List Obj)(mv0:List Nat):Prop:=∃(u T:List Int),u.length<=12/\sortsTo u T/\aa=[.sl 0 0 u.length]/\obs=[.row none (intsD u)]/\v0=.tup []/\obs'=[.row none (intsD T)]/\ex=[]/\mv0=[]
abbrev tabSo:List (Nat×Contract):=[(86,lentC pdqR),(87,dataC fun ds v=>(ds,v)∈lenK)]
theorem tabSo_ok:OkG Tryz.prog (tbl tabSo):=okG_cons pdq_ok (okG_cons len_ok okG_nil)
theorem sortI_ok:OkF Tryz.prog 61 (lentC sortR41):=by
 refine okF_lent Tryz.func61 rfl (by decide) ?_
 rintro aa obs v0 obs' ex mv0 ⟨u,T,hu,hT,rfl,rfl,rfl,rfl,rfl,rfl⟩
 refine sem_of_awp (Γ:=tbl tabSo) tabSo_ok _ _ _ ?_
 simp only[go_sem,Tryz.ntmps61]
 have hwr:IntKind.u64.wrap (u.length:Int)=(u.length:Int):=by
  simp[IntKind.wrap,IntKind.signed,IntKind.bits]
  omega
 rw[hwr]
 obtain⟨k,hk⟩:=lenK_at hu
 refine call_data (fun ds v=>(ds,v)∈lenK) (mem_ix 1 rfl) [.int .u64 (u.length:Int)] _ rfl hk (.inl rfl) ?_
 simp only[go_sem]
 refine call_lent pdqR (mem_ix 0 rfl) [0] ⟨u,T,k,hu,hT,rfl,rfl,rfl,rfl,rfl,rfl⟩ (by decide) (by simp) rfl rfl rfl (by simp[AV.unders,AV.under]) (by simp[Obj.under]) (fun j hj=>by
  obtain rfl:j=0:=by simp at hj;exact hj
  rfl) ?_
 simp only[go_sem]
 refine post_resO (mv':=[]) (.inr rfl) [] rfl (fun _ h=>h) ?_
 simp only[go_sem]
 exact Le.refl _
end Go.AM
namespace Go.AM
open Go Go.Proofs
def contIZ(ds:List D)(v:AV):Prop:=∃(l:List Int) (x:Int),ds=[.sl none (intsD l),.int .i64 x]/\l.length<=10000/\v=.dat (.bool (decide (x∈l)))
abbrev tabCz:List (Nat×Contract):=[(85,dataC idxIR)]
theorem tabCz_ok:OkG Tryz.prog (tbl tabCz):=okG_cons idxI_ok okG_nil
theorem contZ_ok:OkF Tryz.prog 60 (dataC contIZ):=by
 refine okF_data Tryz.func60 rfl (by decide) ?_
 rintro ds v ⟨l,x,rfl,hl,rfl⟩
 refine sem_of_awp (Γ:=tbl tabCz) tabCz_ok _ _ _ ?_
 simp only[go_sem,Tryz.ntmps60]
 refine call_data idxIR (mem_ix 0 rfl) [.sl none (intsD l),.int .i64 x] _ rfl ⟨l,x,rfl,by omega,rfl⟩ (.inl rfl) ?_
 have e:decide (0<=idxG x 0 l)=decide (x∈l):=by simp only[idxG_mem]
 simp only[go_sem,e]
 exact post_data (.inl rfl) [4] rfl trivial rfl
def callsV(s:PSys)(c:Int):List Int×Int:=if checkE s≠0 then ([],checkE s) else if c<0∨(s.classes.length:Int)<=c then ([],2) else (callsL s.classes.length (s.classes.getD c.toNat default).steps,0)
def callsR41(ds:List D)(v:AV):Prop:=∃(s:PSys) (c:Int),ds=[sysD s,.int .i64 c]/\v=.tup [.dat (.sl none (intsD (callsV s c).1)),.dat (.int .i64 (callsV s c).2)]
abbrev tabCl:List (Nat×Contract):=[(15,dataC chkAR),(60,peekC contIZ),(61,lentC sortR41)]
theorem tabCl_ok:OkG Tryz.prog (tbl tabCl):=okG_cons checkA_ok (okG_cons (okF_peek contZ_ok) (okG_cons sortI_ok okG_nil))
theorem callsD_snoc(l:List PStep)(x:PStep):callsD (l++[x])=callsS (callsD l) x:=by unfold callsD;rw[List.foldl_append];rfl
theorem on_ok{s:PSys}{l:List PStep}(h:∀x∈l,preE s x=0):∀x∈l,x.kind=5->0<=x.on/\x.on<s.classes.length:=fun x hx h5=>by
 obtain⟨_,⟨h1,h2⟩,_⟩:=preE_0 (h x hx)
 unfold mostE at h2
 rw[h5]at h2
 simp at h2
 exact⟨h1,h2⟩
theorem callsD_take{n:Nat}{l:List PStep}(hl:∀x∈l,x.kind=5->0<=x.on/\x.on<n)(k:Nat):(callsD (l.take k)).length<=k:=by
 have:=callsD_len (n:=n) (l:=l.take k) fun x hx=>hl x (List.mem_of_mem_take hx)
 have h2:(l.take k).length<=k:=by rw[List.length_take];omega
 omega
theorem calls_len{n:Nat}{l:List PStep}(hl:∀x∈l,x.kind=5->0<=x.on/\x.on<n):(callsL n l).length=(callsD l).length:=by
 have h1:=List.mergeSort_perm (callsD l) (fun a b=>decide (a<=b))
 have h2:=List.pairwise_mergeSort (le:=fun a b:Int=>decide (a<=b)) (fun a b c h1 h2=>by simp at h1 h2 ⊢;omega) (fun a b=>by simp;omega) (callsD l)
 rw[← calls_sorted h1 (h2.imp fun h=>by simpa using h) hl]
 exact h1.length_eq
theorem calls41_ok:OkF Tryz.prog 24 (dataC callsR41):=by
 refine okF_data Tryz.func24 rfl (by decide) ?_
 rintro ds v ⟨s,c,rfl,rfl⟩
 refine sem_of_awpK [7] (Γ:=tbl tabCl) tabCl_ok _ _ _ ?_
 simp only[go_sem,Tryz.ntmps24,sysD]
 refine call_data chkAR (mem_ix 0 rfl) [sysD s] _ rfl ⟨s,rfl,rfl⟩ (.inl rfl) ?_
 unfold callsV
 by_cases hc:checkE s=0
 ·rw[if_neg (fun h=>h hc)]
  have g:=goodS_of hc
  have gnc:=g.nc
  simp only[go_sem,hc,eq_self,decide_true,Bool.not_true]
  by_cases h1:c<0
  ·rw[if_pos (.inl h1)]
   simp only[go_sem,h1,decide_true]
   refine post_resO (mv':=[]) (.inl rfl) [.tmp 4,.tmp 5] rfl (fun _ h=>h) ?_
   simp only[go_sem]
   exact Le.trans (le_tupnil none) (le_fin (by rfl) (by simp only[AV.under,AV.unders,and_self]))
  by_cases h2:(s.classes.length:Int)<=c
  ·rw[if_pos (.inr h2)]
   simp only[go_sem,h1,h2,decide_true,decide_false,List.length_map]
   refine post_resO (mv':=[]) (.inl rfl) [.tmp 4,.tmp 5] rfl (fun _ h=>h) ?_
   simp only[go_sem]
   exact Le.trans (le_tupnil none) (le_fin (by rfl) (by simp only[AV.under,AV.unders,and_self]))
  rw[if_neg (by omega)]
  obtain⟨n,rfl⟩:∃n:Nat,c=n:=⟨c.toNat,by omega⟩
  have hn:n<s.classes.length:=by omega
  have hnI:(n:Int)<(s.classes.length:Int):=by omega
  have hx:D.nth (s.classes.map clsD) n=clsD (s.classes.getD n default):=D.nth_map hn
  have hcm:s.classes.getD n default∈s.classes:=getD_mem hn
  have hst:=g.st _ hcm
  have hns:=g.ns _ hcm
  rw[Int.toNat_natCast]
  generalize s.classes.getD n default=cl at *
  obtain⟨name,workers,server,steps⟩:=cl
  simp only at hst hns ⊢
  have hon:=on_ok hst
  simp only[go_sem,h1,h2,decide_false,List.length_map]
  refine sem_le (le_addnil 7 none rfl (Nat.zero_le _)) ?_
  refine sem_of_awp (Γ:=tbl tabCl) tabCl_ok _ _ _ ?_
  simp only[go_sem,hnI,hx,clsD,stepsD,List.length_map,Int.toNat_natCast,List.cons_append,List.nil_append,List.length_cons,List.length_nil]
  refine sem_loop (fun k:Nat=>⟨slotsOf 54 [(7,.sl 1 0 (callsD (steps.take k)).length),(29,.dat (.sl (some 4) (steps.map stepD))),(30,.dat (.int .i64 steps.length)),(31,.dat (.int .i64 k))],[.dead,.row none (intsD (callsD (steps.take k)))],0,[]⟩)
   (fun k=>k<=steps.length) (fun k=>steps.length - k) 0 (Nat.zero_le _) ?_ ?_
  ·refine Le.trans (le_dead 0) ?_
   simp only[go_sem]
   exact le_slots' (by simp only[go_sem,Int.natCast_zero,List.take_zero,callsD,List.foldl_nil,List.length_nil])
  rintro k hk
  refine sem_of_awp (Γ:=tbl tabCl) tabCl_ok _ _ _ ?_
  have hlk:=callsD_take hon k
  cases hd:steps.drop k with
  | nil =>
   have hke:=end_of_drop hd hk
   have k1:¬(k:Int)<(steps.length:Int):=by omega
   have hall:steps.take k=steps:=by rw[hke];exact List.take_length
   rw[hall]at hlk ⊢
   simp only[go_sem,k1,decide_false]
   refine call_lent sortR41 (mem_ix 2 rfl) [1] ⟨callsD steps,callsL s.classes.length steps,by omega,fun u' hp hs=>calls_sorted hp hs hon,rfl,rfl,rfl,rfl,rfl,rfl⟩ (by decide) (by simp) rfl rfl rfl (by simp[AV.unders,AV.under]) (by simp[Obj.under]) (fun j hj=>by
    obtain rfl:j=0:=by simp at hj;exact hj
    rfl) ?_
   have hlen:(callsL s.classes.length steps).length=(callsD steps).length:=calls_len hon
   simp only[go_sem]
   refine post_resO (mv':=[]) (.inl rfl) [.tmp 4,.tmp 5] rfl (fun _ h=>h) ?_
   have tkT:(intsD (callsL s.classes.length steps)).take (callsD steps).length=intsD (callsL s.classes.length steps):=List.take_of_length_le (by simp[hlen])
   have hle:(callsD steps).length<=(callsL s.classes.length steps).length:=by omega
   simp only[go_sem]
   refine Le.trans (le_freeze 1 (ag:=none) rfl (Nat.zero_le _)) ?_
   simp only[go_sem,tkT,List.length_map,hlen]
   exact le_fin (by rfl) (by simp only[AV.under,AV.unders,and_self])
  | cons x r =>
   have hlt:=lt_of_drop hd
   have k1:(k:Int)<(steps.length:Int):=by omega
   have hk0:(0:Int)<=(k:Int):=by omega
   have hy:D.nth (steps.map stepD) k=stepD x:=nth_of_drop hd
   have hsn:callsD (steps.take (k+1))=callsS (callsD (steps.take k)) x:=by rw[take_of_drop hd,callsD_snoc]
   simp only[go_sem,k1,hk0,decide_true,List.length_map,Int.toNat_natCast,hy,stepD]
   by_cases h5:x.kind=5
   ·have hpk:Peek [.dead,.row none (intsD (callsD (steps.take k))),.box [.dat (.int .i64 x.kind),.dat (.int .i64 x.on),.dat (.int .i64 x.cnt),.dat (.bool x.deep)]] (.sl 1 0 (callsD (steps.take k)).length) (.sl none (intsD (callsD (steps.take k)))):=by
     have:=peek_row0 (own:=[.dead,.row none (intsD (callsD (steps.take k))),.box [.dat (.int .i64 x.kind),.dat (.int .i64 x.on),.dat (.int .i64 x.cnt),.dat (.bool x.deep)]]) (o:=1) (ag:=none) (xs:=intsD (callsD (steps.take k))) rfl
     rwa [List.length_map]at this
    have h5b:decide (x.kind=5)=true:=decide_eq_true h5
    have tkD:(intsD (callsD (steps.take k))).take (callsD (steps.take k)).length=intsD (callsD (steps.take k)):=List.take_of_length_le (by simp)
    simp only[go_sem,h5b]
    refine call_peek contIZ (mem_ix 1 rfl) [.sl none (intsD (callsD (steps.take k))),.int .i64 x.on] (.dat (.bool (decide (x.on∈callsD (steps.take k))))) ⟨hpk,peek_dat,trivial⟩ ⟨_,_,rfl,by omega,rfl⟩ rfl ?_
    by_cases hin:x.on∈callsD (steps.take k)
    ·have e:callsD (steps.take (k+1))=callsD (steps.take k):=by rw[hsn];unfold callsS;rw[if_neg (fun h=>h.2 hin)]
     simp only[go_sem,eq_true hin,decide_true,Bool.not_true]
     refine⟨inR_i64.2 (by omega),k+1,by omega,by omega,?_⟩
     rw[e]
     refine le_end (own:=[_,_]) (ex:=[_]) (Nat.zero_le _) ?_ ?_ ?_
     ·simp only[go_sem,Int.natCast_add,Int.cast_ofNat_Int]
     ·simp only[go_sem]
     ·simp only[go_sem,AV.unders,AV.under,List.length_cons,List.length_nil]
    ·have e:callsD (steps.take (k+1))=callsD (steps.take k)++[x.on]:=by rw[hsn];unfold callsS;rw[if_pos ⟨h5,hin⟩]
     simp only[go_sem,eq_false hin,decide_false,Bool.not_false,tkD,List.length_map]
     refine⟨by omega,by omega,inR_i64.2 (by omega),k+1,by omega,by omega,?_⟩
     simp only[e,List.map_append,List.map_cons,List.map_nil,List.length_append,List.length_cons,List.length_nil]
     refine le_end (own:=[_,_]) (ex:=[_,_]) (Nat.zero_le _) ?_ ?_ ?_
     ·simp only[go_sem,Int.natCast_add,Int.cast_ofNat_Int]
     ·simp only[go_sem]
     ·simp only[go_sem,AV.unders,AV.under,List.length_cons,List.length_nil]
   ·have e:callsD (steps.take (k+1))=callsD (steps.take k):=by rw[hsn];unfold callsS;rw[if_neg (fun h=>h5 h.1)]
    have h5b:decide (x.kind=5)=false:=decide_eq_false h5
    simp only[go_sem,h5b]
    refine⟨inR_i64.2 (by omega),k+1,by omega,by omega,?_⟩
    rw[e]
    refine le_end (own:=[_,_]) (ex:=[_]) (Nat.zero_le _) ?_ ?_ ?_
    ·simp only[go_sem,Int.natCast_add,Int.cast_ofNat_Int]
    ·simp only[go_sem]
    ·simp only[go_sem,AV.unders,AV.under,List.length_cons,List.length_nil]
 ·rw[if_pos hc]
  simp only[go_sem,hc,decide_false,Bool.not_false]
  refine post_resO (mv':=[]) (.inl rfl) [.tmp 4,.tmp 5] rfl (fun _ h=>h) ?_
  simp only[go_sem]
  exact Le.trans (le_tupnil none) (le_fin (by rfl) (by simp only[AV.under,AV.unders,and_self]))
end Go.AM
namespace Go.AM
open Go Go.Proofs
abbrev tabCm:List (Nat×Contract):=[(16,dataC chkAR)]
end Go.AM

