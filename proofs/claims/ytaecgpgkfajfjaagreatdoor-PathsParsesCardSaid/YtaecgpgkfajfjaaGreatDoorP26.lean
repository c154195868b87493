/- Own work over the model of the kit. -/
import Derived.Test.YtaecgpgkfajfjaaGreatDoorP23
import Derived.Test.YtaecgpgkfajfjaaGreatDoorP25
import Derived.Test.YtaecgpgkfajfjaaGreatDoorP20
import Derived.Test.YtaecgpgkfajfjaaGreatDoorP24
import Derived.Test.YtaecgpgkfajfjaaGreatDoorP15
import Derived.Test.YtaecgpgkfajfjaaGreatDoorP6
import Derived.Test.YtaecgpgkfajfjaaGreatDoorP8
import Derived.Test.YtaecgpgkfajfjaaGreatDoorP19
import Derived.Test.YtaecgpgkfajfjaaGreatDoorTie
import Derived.Test.YtaecgpgkfajfjaaGreatDoorCards
import Derived.Lay
set_option linter.constructorNameAsVariable false
set_option linter.unnecessarySimpa false
set_option linter.unusedSimpArgs false
set_option linter.unusedVariables false
set_option maxHeartbeats 8000000
set_option maxRecDepth 100000
namespace Go.AM
open Go Go.Proofs
def fmtS(s:PSys):Str×Int:=if checkE s=0 then (textS s,0) else ([],checkE s)
def fmtR41(ds:List D)(v:AV):Prop:=∃s:PSys,ds=[sysD s]/\v=.tup [.dat (.str (fmtS s).1),.dat (.int .i64 (fmtS s).2)]
theorem joinL_snoc(l:List Str)(x:Str):joinL (l++[x])=joinL l++(x++[10]):=by rw[joinL_app];unfold joinL;simp
theorem pre_len{s:PSys}(g:Good s){l:List Str}(h:l <+: sysL s):(joinL l).length<=4000:=by
 obtain⟨h1,h2⟩:=sysL_len g
 have h3:=joinL_len l 28 fun x hx=>h1 x (h.subset hx)
 have h4:=h.length_le
 have h5:(28+1)*l.length<=(28+1)*88:=Nat.mul_le_mul_left _ (by omega)
 omega
theorem L1_pre(s:PSys)(k:Nat):(s.pools.take k).map poolL <+: sysL s:=by
 unfold sysL
 rw[List.append_assoc]
 refine List.IsPrefix.trans ?_ (List.prefix_append _ _)
 rw[List.map_take]
 exact List.take_prefix _ _
theorem L2_pre(s:PSys)(k:Nat):s.pools.map poolL++(s.locks.take k).map lockL <+: sysL s:=by
 unfold sysL
 refine List.IsPrefix.trans ?_ (List.prefix_append _ _)
 rw[List.map_take]
 exact List.prefix_append_right_inj _ |>.2 (List.take_prefix _ _)
theorem L3_pre(s:PSys)(k:Nat):s.pools.map poolL++s.locks.map lockL++(s.classes.take k).flatMap (clsT s) <+: sysL s:=by
 unfold sysL
 refine List.prefix_append_right_inj _ |>.2 ?_
 refine⟨(s.classes.drop k).flatMap (clsT s),?_⟩
 rw[← List.flatMap_append,List.take_append_drop]
theorem L4_pre(s:PSys){k:Nat}{c:PCls}{q:List PCls}(hd:s.classes.drop k=c :: q)(j:Nat):s.pools.map poolL++s.locks.map lockL++(s.classes.take k).flatMap (clsT s)++(clsL c :: (c.steps.take j).map fun x=>32 :: 32 :: stepT s x) <+: sysL s:=by
 refine List.IsPrefix.trans ?_ (L3_pre s (k+1))
 rw[take_of_drop hd,List.flatMap_append,← List.append_assoc]
 refine List.prefix_append_right_inj _ |>.2 ?_
 simp only[List.flatMap_cons,List.flatMap_nil,List.append_nil,clsT]
 rw[List.map_take]
 exact List.cons_prefix_cons.2 ⟨rfl,List.take_prefix _ _⟩
abbrev tabFo:List (Nat×Contract):=[(52,wsC),(55,strC),(15,dataC chkAR),(54,dataC (stpTR fun t=>t)),(53,dataC itoaR)]
theorem tabFo_ok:OkG Tryz.prog (tbl tabFo):=okG_cons writeString_ok (okG_cons string_ok (okG_cons checkA_ok (okG_cons fstep_ok (okG_cons itoa_ok okG_nil))))
theorem tabFo_dat(g:Nat)(C:Contract)(h:(g,C)∈tabFo)(hg:g∈[53]):∃R,C=dataC R:=by
 simp only[List.mem_singleton]at hg
 subst hg
 simp only[tabFo,List.mem_cons,Prod.mk.injEq,List.not_mem_nil,or_false]at h
 rcases h with⟨h,_⟩|⟨h,_⟩|⟨h,_⟩|⟨h,_⟩|⟨_,h⟩
 ·simp at h
 ·simp at h
 ·simp at h
 ·simp at h
 ·exact⟨_,h⟩
theorem format41_ok:OkF Tryz.prog 20 (dataC fmtR41):=by
 refine okF_data Tryz.func20 rfl (by decide) ?_
 rintro ds v ⟨s,rfl,rfl⟩
 refine sem_of_awpK [5] (Γ:=tbl tabFo) tabFo_ok _ _ _ ?_
 simp only[go_sem,Tryz.ntmps20,sysD]
 refine call_data chkAR (mem_ix 2 rfl) [sysD s] _ rfl ⟨s,rfl,rfl⟩ (.inl rfl) ?_
 unfold fmtS
 by_cases hc:checkE s=0
 ·rw[if_pos hc]
  have g:=goodS_of hc
  have gnp:=g.np;have gnl:=g.nl;have gnc:=g.nc
  have nmn:∀x∈namesL s,x.length<=8:=fun x hx=>(isNm_len (g.nms x hx)).2
  simp only[go_sem,hc,eq_self,decide_true,Bool.not_true]
  refine sem_le (le_addnilB 1 80 false 5 rfl (Nat.zero_le _)) ?_
  simp only[go_sem,List.length_cons,List.length_nil]
  refine sem_of_awp (Γ:=tbl tabFo) tabFo_ok _ _ _ ?_
  simp only[go_sem,List.length_map]
  refine sem_loop (fun p:Nat×Bool=>⟨slotsOf 91 [(1,.ptr 0 0 0),(5,.ptr 1 0 0),(21,.dat (.sl (some 3) (s.pools.map poolD))),(22,.dat (.int .i64 s.pools.length)),(23,.dat (.int .i64 p.1))],[.box [.dat (.sl (some 3) (s.pools.map poolD)),.dat (.sl none (strsD s.locks)),.dat (.sl (some 4) (s.classes.map clsD))],.bld 80 p.2 [.sl 2 0 (joinL ((s.pools.take p.1).map poolL)).length],.brow 5 (joinL ((s.pools.take p.1).map poolL))],0,[]⟩)
   (fun p=>p.1<=s.pools.length) (fun p=>s.pools.length - p.1) (0,false) (Nat.zero_le _) ?_ ?_
  ·exact le_slots' (by simp only[go_sem,Int.natCast_zero])
  rintro ⟨k,u⟩ hk
  simp only at hk ⊢
  refine sem_of_awp (Γ:=tbl tabFo) tabFo_ok _ _ _ ?_
  cases hd:s.pools.drop k with
  | nil =>
   have hke:=end_of_drop hd hk
   have k1:¬(k:Int)<(s.pools.length:Int):=by omega
   have hall:s.pools.take k=s.pools:=by rw[hke];exact List.take_length
   rw[hall]
   simp only[go_sem,k1,decide_false,List.length_map]
   refine sem_loop (fun p:Nat×Bool=>⟨slotsOf 91 [(1,.ptr 0 0 0),(5,.ptr 1 0 0),(44,.dat (.sl none (strsD s.locks))),(45,.dat (.int .i64 s.locks.length)),(46,.dat (.int .i64 p.1))],[.box [.dat (.sl (some 3) (s.pools.map poolD)),.dat (.sl none (strsD s.locks)),.dat (.sl (some 4) (s.classes.map clsD))],.bld 80 p.2 [.sl 2 0 (joinL (s.pools.map poolL++(s.locks.take p.1).map lockL)).length],.brow 5 (joinL (s.pools.map poolL++(s.locks.take p.1).map lockL))],0,[]⟩)
    (fun p=>p.1<=s.locks.length) (fun p=>s.locks.length - p.1) (0,u) (Nat.zero_le _) ?_ ?_
   ·simp only[List.take_zero,List.map_nil,List.append_nil]
    exact le_slots' (by simp only[go_sem,Int.natCast_zero])
   clear hd hke k1 hall hk
   rintro ⟨k,u⟩ hk
   simp only at hk ⊢
   refine sem_of_awp (Γ:=tbl tabFo) tabFo_ok _ _ _ ?_
   cases hd:s.locks.drop k with
   | nil =>
    have hke:=end_of_drop hd hk
    have k1:¬(k:Int)<(s.locks.length:Int):=by omega
    have hall:s.locks.take k=s.locks:=by rw[hke];exact List.take_length
    rw[hall]
    simp only[go_sem,k1,decide_false,List.length_map]
    refine sem_loop (fun p:Nat×Bool=>⟨slotsOf 91 [(1,.ptr 0 0 0),(5,.ptr 1 0 0),(56,.dat (.sl (some 4) (s.classes.map clsD))),(57,.dat (.int .i64 s.classes.length)),(58,.dat (.int .i64 p.1))],[.box [.dat (.sl (some 3) (s.pools.map poolD)),.dat (.sl none (strsD s.locks)),.dat (.sl (some 4) (s.classes.map clsD))],.bld 80 p.2 [.sl 2 0 (joinL (s.pools.map poolL++s.locks.map lockL++(s.classes.take p.1).flatMap (clsT s))).length],.brow 5 (joinL (s.pools.map poolL++s.locks.map lockL++(s.classes.take p.1).flatMap (clsT s)))],0,[]⟩)
     (fun p=>p.1<=s.classes.length) (fun p=>s.classes.length - p.1) (0,u) (Nat.zero_le _) ?_ ?_
    ·simp only[List.take_zero,List.flatMap_nil,List.append_nil]
     exact le_slots' (by simp only[go_sem,Int.natCast_zero])
    clear hd hke k1 hall hk
    rintro ⟨k,u⟩ hk
    simp only at hk ⊢
    refine sem_of_awpK [21] (Γ:=tbl tabFo) tabFo_ok _ _ _ ?_
    have hl0:=pre_len g (L3_pre s k)
    cases hd:s.classes.drop k with
    | nil =>
     have hke:=end_of_drop hd hk
     have k1:¬(k:Int)<(s.classes.length:Int):=by omega
     have hall:s.classes.take k=s.classes:=by rw[hke];exact List.take_length
     have htx:joinL (s.pools.map poolL++s.locks.map lockL++(s.classes.take k).flatMap (clsT s))=textS s:=by rw[hall];rfl
     rw[htx]at hl0 ⊢
     simp only[go_sem,k1,decide_false]
     refine call_str (r:=2) (mem_ix 1 rfl) rfl rfl (by omega) ?_
     simp only[go_sem]
     refine post_resO (mv':=[]) (.inl rfl) [.tmp 2,.tmp 3] rfl (fun _ h=>h) ?_
     simp only[go_sem]
     exact le_fin (by rfl) (by simp only[AV.under,AV.unders,and_self])
    | cons c r =>
     have hlt:=lt_of_drop hd
     have k1:(k:Int)<(s.classes.length:Int):=by omega
     have hk0:(0:Int)<=(k:Int):=by omega
     have hx:D.nth (s.classes.map clsD) k=clsD c:=nth_of_drop hd
     have hcm:=mem_of_drop hd
     have hcn:c.name.length<=8:=nmn _ (by unfold namesL;exact List.mem_append.2 (.inr (List.mem_map.2 ⟨c,hcm,rfl⟩)))
     have hwk:=g.wk c hcm
     have hns:=g.ns c hcm
     have hst:=g.st c hcm
     have i1:=(numOk (n:=c.workers) hwk.1 (by omega)).l3
     have hl1:=pre_len g (L4_pre s hd 0)
     have hsn:joinL (s.pools.map poolL++s.locks.map lockL++(s.classes.take k).flatMap (clsT s))++(clsL c++[10])=joinL (s.pools.map poolL++s.locks.map lockL++(s.classes.take k).flatMap (clsT s)++(clsL c :: (c.steps.take 0).map fun x=>32 :: 32 :: stepT s x)):=by
      rw[List.take_zero,List.map_nil,joinL_snoc]
     obtain⟨name,workers,server,steps⟩:=c
     simp only at hcn hwk hns hst i1 hl1 hsn
     simp only[go_sem,k1,hk0,decide_true,List.length_map,Int.toNat_natCast,hx,clsD]
     generalize hK:andThenK [21] Tryz.prog (tbl tabFo) _ _=Q2
     have hcl:∀σ σ',Le σ σ'->Q2 .normal σ'->Q2 .normal σ:=by
      subst hK
      intro σ σ' h1 h2
      exact sem_le h1 h2
     have hW:∃W:Str,W.length<=7/\W=(if server=true then [115,101,114,118,101,114,32] else [99,108,97,115,115,32]):=⟨_,by split <;> decide,rfl⟩
     obtain⟨W,hWl,hWe⟩:=hW
     have hcL:clsL ⟨name,workers,server,steps⟩=W++name++32 :: Lib.itoa workers:=by rw[hWe];rfl
     suffices hQ2:Q2 .normal ⟨slotsOf 91 [(1,.ptr 0 0 0),(5,.ptr 1 0 0),(11,.ptr 3 0 0),(12,.dat (.str W)),(56,.dat (.sl (some 4) (s.classes.map clsD))),(57,.dat (.int .i64 s.classes.length)),(58,.dat (.int .i64 k))],[.box [.dat (.sl (some 3) (s.pools.map poolD)),.dat (.sl none (strsD s.locks)),.dat (.sl (some 4) (s.classes.map clsD))],.bld 80 u [.sl 2 0 (joinL (s.pools.map poolL++s.locks.map lockL++(s.classes.take k).flatMap (clsT s))).length],.brow 5 (joinL (s.pools.map poolL++s.locks.map lockL++(s.classes.take k).flatMap (clsT s))),.box [.dat (.str name),.dat (.int .i64 workers),.dat (.bool server),.dat (stepsD steps)]],0,[]⟩ by
      cases server with
      | true =>
       simp only[if_true]at hWe
       subst hWe
       simp only[go_sem]
       refine hcl _ _ ?_ hQ2
       exact le_slots' (by simp only[go_sem])
      | false =>
       simp only[Bool.false_eq_true,if_false]at hWe
       subst hWe
       simp only[go_sem]
       refine hcl _ _ ?_ hQ2
       exact le_slots' (by simp only[go_sem])
     subst hK
     clear hcl
     simp only[andThenK_normal]
     refine sem_of_awp (Γ:=tbl tabFo) tabFo_ok _ _ _ ?_
     simp only[go_sem]
     refine sem_drawU [] [] (pf:=[53]) (mf:=[]) mixed tabFo_ok (pure_of tabFo_dat) (grow_of tabFo_dat) noMk (.one 0 (.one 5 (.one 6 (.one 7 (.alt 1 (.one 2 (.one 3 (.one 4 (.one 8 (.one 9 (.one 10 .fin)))))) .stop))))) (by kernel_rfl) ?_
     simp only[go_sem]
     refine call_data itoaR (mem_ix 4 rfl) [.int .i64 workers] _ rfl ⟨_,rfl,by omega,by omega,rfl⟩ (.inl rfl) ?_
     simp only[go_sem,List.length_cons,List.length_nil,List.length_append,and_true]
     refine⟨by simp only[maxLen];omega,by simp only[maxLen];omega,by simp only[maxLen];omega,by simp only[maxLen];omega,?_⟩
     refine call_wsE (joinL (s.pools.map poolL++s.locks.map lockL++(s.classes.take k).flatMap (clsT s)++(clsL ⟨name,workers,server,steps⟩ :: (steps.take 0).map fun x=>32 :: 32 :: stepT s x))) (r:=2) (bs:=joinL (s.pools.map poolL++s.locks.map lockL++(s.classes.take k).flatMap (clsT s))) (mem_ix 0 rfl) (by decide) rfl rfl (by rw[← hsn,hcL];simp) (by omega) ?_
     simp only[go_sem,and_true,stepsD,List.length_map]
     refine sem_loop (fun p:Nat=>⟨slotsOf 91 [(1,.ptr 0 0 0),(5,.ptr 1 0 0),(56,.dat (.sl (some 4) (s.classes.map clsD))),(57,.dat (.int .i64 s.classes.length)),(58,.dat (.int .i64 k)),(76,.dat (.sl (some 4) (steps.map stepD))),(77,.dat (.int .i64 steps.length)),(78,.dat (.int .i64 p))],[.box [.dat (.sl (some 3) (s.pools.map poolD)),.dat (.sl none (strsD s.locks)),.dat (.sl (some 4) (s.classes.map clsD))],.bld 80 true [.sl 2 0 (joinL (s.pools.map poolL++s.locks.map lockL++(s.classes.take k).flatMap (clsT s)++(clsL ⟨name,workers,server,steps⟩ :: (steps.take p).map fun x=>32 :: 32 :: stepT s x))).length],.brow 5 (joinL (s.pools.map poolL++s.locks.map lockL++(s.classes.take k).flatMap (clsT s)++(clsL ⟨name,workers,server,steps⟩ :: (steps.take p).map fun x=>32 :: 32 :: stepT s x)))],0,[]⟩)
      (fun p=>p<=steps.length) (fun p=>steps.length - p) 0 (Nat.zero_le _) ?_ ?_
     ·refine le_end (own:=[_,_,_]) (ex:=[_]) (Nat.zero_le _) ?_ ?_ ?_
      ·simp only[go_sem,Int.natCast_zero]
      ·simp only[go_sem]
      ·simp only[go_sem,AV.unders,AV.under,List.length_cons,List.length_nil]
     rintro j hj
     refine sem_of_awp (Γ:=tbl tabFo) tabFo_ok _ _ _ ?_
     have hm0:=pre_len g (L4_pre s hd j)
     have hm1:=pre_len g (L4_pre s hd (j+1))
     simp only at hm0 hm1
     cases hd2:steps.drop j with
     | nil =>
      have hje:=end_of_drop hd2 hj
      have j1:¬(j:Int)<(steps.length:Int):=by omega
      have hall:s.pools.map poolL++s.locks.map lockL++(s.classes.take k).flatMap (clsT s)++(clsL ⟨name,workers,server,steps⟩ :: (steps.take j).map fun x=>32 :: 32 :: stepT s x)=s.pools.map poolL++s.locks.map lockL++(s.classes.take (k+1)).flatMap (clsT s):=by
       rw[hje,List.take_length,take_of_drop hd,List.flatMap_append]
       simp[clsT]
      rw[hall]
      simp only[go_sem,j1,decide_false]
      refine⟨inR_i64.2 (by omega),(k+1,true),by show k+1<=_;omega,by show s.classes.length - (k+1)<_;omega,?_⟩
      exact le_slots' (by simp only[go_sem,Int.natCast_add,Int.cast_ofNat_Int])
     | cons x q =>
      have hjlt:=lt_of_drop hd2
      have j1:(j:Int)<(steps.length:Int):=by omega
      have j0:(0:Int)<=(j:Int):=by omega
      have hy:D.nth (steps.map stepD) j=stepD x:=nth_of_drop hd2
      have hxm:=mem_of_drop hd2
      have hpx:=hst x hxm
      have hsn2:joinL (s.pools.map poolL++s.locks.map lockL++(s.classes.take k).flatMap (clsT s)++(clsL ⟨name,workers,server,steps⟩ :: (steps.take j).map fun x=>32 :: 32 :: stepT s x))++((32 :: 32 :: stepT s x)++[10])=joinL (s.pools.map poolL++s.locks.map lockL++(s.classes.take k).flatMap (clsT s)++(clsL ⟨name,workers,server,steps⟩ :: (steps.take (j+1)).map fun x=>32 :: 32 :: stepT s x)):=by
       rw[take_of_drop hd2,List.map_append,List.map_cons,List.map_nil,← List.cons_append,← List.append_assoc (s.pools.map poolL++s.locks.map lockL++(s.classes.take k).flatMap (clsT s)),joinL_snoc]
      have hsl:(stepT s x).length<=28:=by
       have h28:=(sysL_len g).1 (32 :: 32 :: stepT s x) (by
        unfold sysL
        refine List.mem_append.2 (.inr (List.mem_flatMap.2 ⟨_,hcm,?_⟩))
        unfold clsT
        exact List.mem_cons.2 (.inr (List.mem_map.2 ⟨x,hxm,rfl⟩)))
       simp only[List.length_cons]at h28
       omega
      simp only[go_sem,j1,j0,decide_true,List.length_map,Int.toNat_natCast,hy,stepD]
      refine call_data (stpTR fun t=>t) (mem_ix 3 rfl) [sysD s,stepD x] _ rfl ⟨s,x,rfl,hc,hpx,rfl⟩ (.inl rfl) ?_
      simp only[go_sem,List.length_cons,List.length_nil,List.length_append]
      refine⟨by simp only[maxLen];omega,by simp only[maxLen];omega,?_⟩
      refine call_wsE (joinL (s.pools.map poolL++s.locks.map lockL++(s.classes.take k).flatMap (clsT s)++(clsL ⟨name,workers,server,steps⟩ :: (steps.take (j+1)).map fun x=>32 :: 32 :: stepT s x))) (r:=2) (bs:=joinL (s.pools.map poolL++s.locks.map lockL++(s.classes.take k).flatMap (clsT s)++(clsL ⟨name,workers,server,steps⟩ :: (steps.take j).map fun x=>32 :: 32 :: stepT s x))) (mem_ix 0 rfl) (by decide) rfl rfl (by rw[← hsn2];simp) (by omega) ?_
      simp only[go_sem]
      refine⟨inR_i64.2 (by omega),j+1,by omega,by omega,?_⟩
      refine le_end (own:=[_,_,_]) (ex:=[_]) (Nat.zero_le _) ?_ ?_ ?_
      ·simp only[go_sem,Int.natCast_add,Int.cast_ofNat_Int]
      ·simp only[go_sem]
      ·simp only[go_sem,AV.unders,AV.under,List.length_cons,List.length_nil]
   | cons p r =>
    have hlt:=lt_of_drop hd
    have k1:(k:Int)<(s.locks.length:Int):=by omega
    have hk0:(0:Int)<=(k:Int):=by omega
    have hx:D.nth (strsD s.locks) k=.str p:=nth_of_drop hd
    have hpm:=mem_of_drop hd
    have hpn:p.length<=8:=nmn _ (by unfold namesL;exact List.mem_append.2 (.inl (List.mem_append.2 (.inr hpm))))
    have hl0:=pre_len g (L2_pre s k)
    have hl1:=pre_len g (L2_pre s (k+1))
    have hsn:joinL (s.pools.map poolL++(s.locks.take k).map lockL)++(lockL p++[10])=joinL (s.pools.map poolL++(s.locks.take (k+1)).map lockL):=by rw[take_of_drop hd,List.map_append,List.map_cons,List.map_nil,← List.append_assoc (s.pools.map poolL),joinL_snoc]
    simp only[go_sem,k1,hk0,decide_true,List.length_map,Int.toNat_natCast,hx,List.length_cons,List.length_nil,List.length_append]
    refine⟨by simp only[maxLen];omega,by simp only[maxLen];omega,?_⟩
    refine call_wsE (joinL (s.pools.map poolL++(s.locks.take (k+1)).map lockL)) (r:=2) (bs:=joinL (s.pools.map poolL++(s.locks.take k).map lockL)) (mem_ix 0 rfl) (by decide) rfl rfl (by rw[← hsn];simp[lockL]) (by omega) ?_
    simp only[go_sem]
    refine⟨inR_i64.2 (by omega),(k+1,true),by show k+1<=_;omega,by show s.locks.length - (k+1)<_;omega,?_⟩
    exact le_slots' (by simp only[go_sem,Int.natCast_add,Int.cast_ofNat_Int])
  | cons p r =>
   have hlt:=lt_of_drop hd
   have k1:(k:Int)<(s.pools.length:Int):=by omega
   have hk0:(0:Int)<=(k:Int):=by omega
   have hx:D.nth (s.pools.map poolD) k=poolD p:=nth_of_drop hd
   have hpm:=mem_of_drop hd
   have hpn:p.name.length<=8:=nmn _ (by unfold namesL;exact List.mem_append.2 (.inl (List.mem_append.2 (.inl (List.mem_map.2 ⟨p,hpm,rfl⟩)))))
   obtain⟨b1,b2,b3,b4⟩:=pool_fit (g.pl p hpm)
   have i1:=(numOk (n:=p.size) (by omega) (by omega)).l3
   have i2:=(numOk (n:=p.res) (by omega) (by omega)).l3
   have hl0:=pre_len g (L1_pre s k)
   have hl1:=pre_len g (L1_pre s (k+1))
   have hsn:joinL ((s.pools.take k).map poolL)++(poolL p++[10])=joinL ((s.pools.take (k+1)).map poolL):=by rw[take_of_drop hd,List.map_append,List.map_cons,List.map_nil,joinL_snoc]
   simp only[go_sem,k1,hk0,decide_true,List.length_map,Int.toNat_natCast,hx,poolD]
   refine sem_drawU [] [] (pf:=[53]) (mf:=[]) mixed tabFo_ok (pure_of tabFo_dat) (grow_of tabFo_dat) noMk (.one 4 (.one 5 (.one 6 (.one 9 (.one 10 (.one 11 (.alt 0 (.alt 1 (.alt 2 (.one 3 (.one 7 (.one 8 (.one 12 (.one 13 (.one 14 .fin)))))) .stop) .stop) .stop))))))) (by kernel_rfl) ?_
   simp only[go_sem]
   refine call_data itoaR (mem_ix 4 rfl) [.int .i64 p.size] _ rfl ⟨_,rfl,by omega,by omega,rfl⟩ (.inl rfl) ?_
   simp only[go_sem]
   refine call_data itoaR (mem_ix 4 rfl) [.int .i64 p.res] _ rfl ⟨_,rfl,by omega,by omega,rfl⟩ (.inl rfl) ?_
   simp only[go_sem,List.length_cons,List.length_nil,List.length_append,and_true]
   refine⟨by simp only[maxLen];omega,by simp only[maxLen];omega,by simp only[maxLen];omega,by simp only[maxLen];omega,by simp only[maxLen];omega,by simp only[maxLen];omega,?_⟩
   refine call_wsE (joinL ((s.pools.take (k+1)).map poolL)) (r:=2) (bs:=joinL ((s.pools.take k).map poolL)) (mem_ix 0 rfl) (by decide) rfl rfl (by rw[← hsn];simp[poolL]) (by omega) ?_
   simp only[go_sem,and_true]
   refine⟨inR_i64.2 (by omega),(k+1,true),by show k+1<=_;omega,by show s.pools.length - (k+1)<_;omega,?_⟩
   refine le_end (own:=[_,_,_]) (ex:=[_]) (Nat.zero_le _) ?_ ?_ ?_
   ·simp only[go_sem,Int.natCast_add,Int.cast_ofNat_Int]
   ·simp only[go_sem]
   ·simp only[go_sem,AV.unders,AV.under,List.length_cons,List.length_nil]
 ·rw[if_neg hc]
  simp only[go_sem,hc,decide_false,Bool.not_false]
  refine post_resO (mv':=[]) (.inl rfl) [.tmp 2,.tmp 3] rfl (fun _ h=>h) ?_
  simp only[go_sem]
  exact le_fin (by rfl) (by simp only[AV.under,AV.unders,and_self])
end Go.AM
namespace Go.AM
open Go Go.Proofs
abbrev tabFq:List (Nat×Contract):=[(16,dataC chkAR),(56,dataC (stpTR lnT)),(53,dataC itoaR)]
end Go.AM
namespace Go.AM
open Go Go.Proofs
def ustep(pool:Int)(p:Int×Int)(x:PStep):Int×Int :=
 if x.on=pool then (if x.kind=1 then (p.1+x.cnt,if x.deep=true then p.2+x.cnt else p.2) else if x.kind=2 then (p.1 - x.cnt,p.2 - min p.2 x.cnt) else p) else p
def ownU(pool:Int)(l:List PStep):Int×Int:=l.foldl (ustep pool) (0,0)
def selU(d:Bool)(p:Int×Int):Int:=if d=true then p.2 else p.1
def mxN(pool:Int)(d:Bool)(l:List PStep):Nat->Int
 | 0=>0
 | k+1=>max (mxN pool d l k) (selU d (ownU pool (l.take (k+1))))
abbrev clsO(c:PCls):Obj:=.box [.dat (.str c.name),.dat (.int .i64 c.workers),.dat (.bool c.server),.dat (.sl (some 4) (c.steps.map stepD))]
def peakR(ds:List D)(v:AV):Prop:=∃(c:PCls) (pool:Int),ds=[clsD c,.int .i64 pool]/\Tame c.steps/\c.steps.length<=1000 /\
 v=.tup [.dat (.int .i64 (mxN pool false c.steps c.steps.length)),.dat (.int .i64 (mxN pool true c.steps c.steps.length))]
def unitsR(ds:List D)(v:AV):Prop:=∃(c:PCls) (pool:Int) (k:Nat) (d:Bool),ds=[clsD c,.int .i64 pool,.int .i64 k,.bool d]/\Tame c.steps/\c.steps.length<=1000/\k<=c.steps.length /\
 v=.dat (.int .i64 (selU d (ownU pool (c.steps.take k))))
end Go.AM
namespace Go.AM
open Go Go.Proofs
structure PCls.good (s:PSys) (c:PCls):Prop where
 w0:0<=c.workers
 w4:c.workers<=4
 l1:1<=c.steps.length
 l12:c.steps.length<=12
 run:verd (runE s c.steps (hold0 s))=0
 pre:∀x∈c.steps,preE s x=0
structure PSys.good (s:PSys):Prop where
 np:s.pools.length<=6
 nl:s.locks.length<=4
 nc:s.classes.length<=6
 pool:∀p∈s.pools,¬p.bad
 cls:∀c∈s.classes,c.good s
theorem verd_pre{s:PSys}:∀{l:List PStep} {h:Hold},verd (runE s l h)=0->∀x∈l,preE s x=0
 | [],_,_,x,hx=>by simp at hx
 | y :: l,h,hv,x,hx=>by
  by_cases he:stepE s h.units h.locks y=0
  ·rw[verd_go he]at hv
   rcases List.mem_cons.1 hx with rfl|hx
   ·exact stepE_0 he
   ·exact verd_pre hv x hx
  ·rw[verd_err he]at hv;exact absurd hv he
theorem classE_good{s:PSys}{c:PCls}(h:classE s c=0):c.good s:=by
 unfold classE at h
 split at h
 ·simp at h
 ·split at h
  ·simp at h
  ·exact⟨by omega,by omega,by omega,by omega,h,verd_pre h⟩
theorem clssE_good{s:PSys}:∀{l:List PCls},clssE s l=0->∀c∈l,c.good s
 | [],_,c,hc=>by simp at hc
 | d :: r,h,c,hc=>by
  simp only[clssE]at h
  split at h
  ·rename_i h2;exact absurd h h2
  ·rename_i h2
   have h2:classE s d=0:=Classical.byContradiction h2
   rcases List.mem_cons.1 hc with rfl|hc
   ·exact classE_good h2
   ·exact clssE_good h c hc
theorem good_of{s:PSys}(h:checkE s=0):s.good:=by
 unfold checkE at h
 split at h
 ·simp at h
 ·obtain⟨h1,h2⟩:=thenE_eq0 h
  obtain⟨h2,h3⟩:=thenE_eq0 h2
  exact⟨by omega,by omega,by omega,poolsE_0 h2,clssE_good h3⟩
theorem PSys.good.small{s:PSys}(h:s.good):s.small:=⟨by have:=h.np;omega,by have:=h.nl;omega,by have:=h.nc;omega⟩
theorem PSys.good.tame{s:PSys}(h:s.good):s.tame:=fun p hp=>by have:=h.pool p hp;unfold PPool.bad at this;omega
theorem PCls.good.steps{s:PSys}{c:PCls}(h:c.good s)(hs:s.good):Tame c.steps:=fun x hx=>pre_tame hs.tame (h.pre x hx)
def demC(pool:Int)(d:Bool)(a:Int)(c:PCls):Int:=a+c.workers*mxN pool d c.steps c.steps.length
def demL(pool:Int)(d:Bool)(l:List PCls):Int:=l.foldl (demC pool d) 0
def demandR(ds:List D)(v:AV):Prop:=∃(s:PSys) (pool:Int),ds=[sysD s,.int .i64 pool]/\s.good/\v=.tup [.dat (.int .i64 (demL pool false s.classes)),.dat (.int .i64 (demL pool true s.classes))]
def resN(s:PSys):Int:=if checkE s≠0 then 0 else (s.pools.length:Int)+s.locks.length+s.classes.length
def resR(ds:List D)(v:AV):Prop:=∃s:PSys,ds=[sysD s]/\s.fit/\v=.dat (.int .i64 (resN s))
def demN(s:PSys)(pool:Int)(d:Bool):Int:=if checkE s≠0∨pool<0∨(s.pools.length:Int)<=pool then -1 else demL pool d s.classes
def demNR(ds:List D)(v:AV):Prop:=∃(s:PSys) (pool:Int) (d:Bool),ds=[sysD s,.int .i64 pool,.bool d]/\s.fit/\v=.dat (.int .i64 (demN s pool d))
end Go.AM
namespace Go.AM
open Go Go.Proofs
def mxR(pool:Int)(d:Bool)(l:List PStep):Nat->Int
 | 0=>0
 | k+1=>mxN pool d l k
def waitB(s:PSys)(x:PStep):Bool :=
 if x.kind=3∨x.kind=5 then true else if x.kind=1 then
  decide ((s.pools.getD x.on.toNat default).size - (s.pools.getD x.on.toNat default).res<demL x.on false s.classes) && !(x.deep && decide (demL x.on true s.classes<=(s.pools.getD x.on.toNat default).res))
 else false
def waitsR(ds:List D)(v:AV):Prop:=∃(s:PSys) (x:PStep),ds=[sysD s,stepD x]/\s.good/\preE s x=0/\v=.dat (.bool (waitB s x))
def stepAt(s:PSys)(c k:Int):PStep:=(s.classes.getD c.toNat default).steps.getD k.toNat default
def noStep(s:PSys)(c k:Int):Prop:=c<0∨(s.classes.length:Int)<=c∨k<0∨((s.classes.getD c.toNat default).steps.length:Int)<=k
instance (s:PSys) (c k:Int):Decidable (noStep s c k):=by unfold noStep;exact inferInstance
def waitN(s:PSys)(c k:Int):Bool:=if checkE s≠0∨noStep s c k then false else waitB s (stepAt s c k)
def waitNR(ds:List D)(v:AV):Prop:=∃(s:PSys) (c k:Int),ds=[sysD s,.int .i64 c,.int .i64 k]/\s.fit/\v=.dat (.bool (waitN s c k))
end Go.AM
namespace Go.AM
open Go Go.Proofs
def ampleR(ds:List D)(v:AV):Prop:=∃(s:PSys) (i:Nat),ds=[sysD s,.int .i64 i]/\s.fit/\checkE s=0/\i<s.pools.length/\v=.dat (.bool (decide (demL i false s.classes<=(s.pools.getD i default).size - (s.pools.getD i default).res)))
def safeR(ds:List D)(v:AV):Prop:=∃(s:PSys) (i:Nat),ds=[sysD s,.int .i64 i]/\s.fit/\checkE s=0/\i<s.pools.length/\v=.dat (.bool (decide (demL i true s.classes<=(s.pools.getD i default).res)))
end Go.AM
namespace Go.AM
open Go Go.Proofs
def balU(s:PSys)(l:List PStep):List Int:=(List.range s.pools.length).map fun i=>bal l (i:Nat) 0
def balB(s:PSys)(l:List PStep):List Bool:=(List.range s.locks.length).map fun i=>decide (0<bal l (i:Nat) 1)
theorem tr_hold{s:PSys}{l:List PStep}{h:Hold}(t:Tr s l h):h.units=balU s l/\h.locks=balB s l:=by
 obtain⟨ul,ll,un,lo⟩:=t
 constructor
 ·refine List.ext_getElem (by simp[balU,ul]) fun i h1 h2=>?_
  have:=un i (by omega)
  rw[List.getD_eq_getElem?_getD,List.getElem?_eq_getElem h1]at this
  simpa [balU] using this
 ·refine List.ext_getElem (by simp[balB,ll]) fun i h1 h2=>?_
  have:=lo i (by omega)
  rw[List.getD_eq_getElem?_getD,List.getElem?_eq_getElem h1]at this
  simp only[Option.getD_some]at this
  simp only[balB,List.getElem_map,List.getElem_range]
  cases hb:h.locks[i] with
  | true=>have:=this.1.1 hb;rw[this];rfl
  | false =>
   rcases this.2 with h0|h0
   ·rw[h0];rfl
   ·rw[this.1.2 h0]at hb;cases hb
def heldV(s:PSys)(c k:Int):AV :=
 if checkE s≠0 then .tup [.dat (.sl none []),.dat (.sl none []),.dat (.int .i64 (checkE s))] else
 if c<0∨(s.classes.length:Int)<=c∨k<0∨((s.classes.getD c.toNat default).steps.length:Int)<k then .tup [.dat (.sl none []),.dat (.sl none []),.dat (.int .i64 2)] else
 .tup [.dat (.sl none (intsD (balU s ((s.classes.getD c.toNat default).steps.take k.toNat)))),.dat (.sl none (boolsD (balB s ((s.classes.getD c.toNat default).steps.take k.toNat)))),.dat (.int .i64 0)]
theorem heldV_1{s:PSys}{c k:Int}(h:checkE s≠0):heldV s c k=.tup [.dat (.sl none []),.dat (.sl none []),.dat (.int .i64 (checkE s))]:=by unfold heldV;rw[if_pos h]
theorem heldV_2{s:PSys}{c k:Int}(h:checkE s=0)(h2:c<0∨(s.classes.length:Int)<=c∨k<0∨((s.classes.getD c.toNat default).steps.length:Int)<k):heldV s c k=.tup [.dat (.sl none []),.dat (.sl none []),.dat (.int .i64 2)]:=by
 unfold heldV;rw[if_neg (by rw[h];decide),if_pos h2]
theorem heldV_3{s:PSys}{c k:Nat}(h:checkE s=0)(hc:c<s.classes.length)(hk:k<=(s.classes.getD c default).steps.length) :
  heldV s c k=.tup [.dat (.sl none (intsD (balU s ((s.classes.getD c default).steps.take k)))),.dat (.sl none (boolsD (balB s ((s.classes.getD c default).steps.take k)))),.dat (.int .i64 0)]:=by
 unfold heldV;rw[if_neg (by rw[h];decide),if_neg (by rw[Int.toNat_natCast];omega),Int.toNat_natCast,Int.toNat_natCast]
def heldR(ds:List D)(v:AV):Prop:=∃(s:PSys) (c k:Int),ds=[sysD s,.int .i64 c,.int .i64 k]/\s.fit/\v=heldV s c k
abbrev tabPH:List (Nat×Contract):=[(15,dataC checkR),(57,madeC startR),(58,normC (lentC hstepR))]
theorem tabPH_ok:OkG Tryz.prog (tbl tabPH):=okG_cons check_ok (okG_cons start_ok (okG_cons (okF_norm hstep_ok) okG_nil))
theorem held_ok:OkF Tryz.prog 22 (dataC heldR):=by
 refine okF_data Tryz.func22 rfl (by decide) ?_
 rintro ds v ⟨s,c,k,rfl,hf,rfl⟩
 refine sem_of_awp (Γ:=tbl tabPH) tabPH_ok _ _ _ ?_
 generalize hv:heldV s c k=V
 have nilE:∀s own e,s.getD 6 .top=.nils->s.getD 7 .top=.nils->s.getD 8 .top=.dat (.int .i64 e)->post Tryz.prog Tryz.f22 (.tup [.dat (.sl none []),.dat (.sl none []),.dat (.int .i64 e)]) [] [] .ret ⟨s,own,0,[]⟩:=fun s own e h6 h7 h8=>by
  refine post_res (.inl rfl) [.tmp 6,.tmp 7,.tmp 8] rfl ?_
  simp only[go_sem,h6,h7,h8]
  exact le_fin (by simp only[go_sem]) (by simp only[go_sem])
 simp only[go_sem,Tryz.ntmps22,sysD]
 refine call_data checkR (by simp) [sysD s] _ rfl ⟨s,rfl,hf,rfl⟩ (.inl rfl) ?_
 by_cases h:checkE s=0
 case neg =>
  simp only[go_sem,h]
  rw[← hv,heldV_1 h]
  exact nilE _ _ _ (by rfl) (by rfl) (by rfl)
 simp only[go_sem,h]
 by_cases h1:c<0
 ·rw[← hv,heldV_2 h (.inl h1)]
  simp only[go_sem,h1]
  exact nilE _ _ _ (by rfl) (by rfl) (by rfl)
 by_cases h2:(s.classes.length:Int)<=c
 ·rw[← hv,heldV_2 h (.inr (.inl h2))]
  simp only[go_sem,h1,h2]
  exact nilE _ _ _ (by rfl) (by rfl) (by rfl)
 by_cases h3:k<0
 ·rw[← hv,heldV_2 h (.inr (.inr (.inl h3)))]
  simp only[go_sem,h1,h2,h3]
  exact nilE _ _ _ (by rfl) (by rfl) (by rfl)
 obtain⟨i,rfl⟩:∃i:Nat,c=i:=⟨c.toNat,by omega⟩
 obtain⟨j,rfl⟩:∃j:Nat,k=j:=⟨k.toNat,by omega⟩
 have hi:i<s.classes.length:=by omega
 have hi2:(i:Int)<s.classes.length:=by omega
 have hnc:D.nth (s.classes.map clsD) i=clsD (s.classes.getD i default):=D.nth_map hi
 have hcm:s.classes.getD i default∈s.classes:=by rw[List.getD_eq_getElem?_getD,List.getElem?_eq_getElem hi];exact List.getElem_mem hi
 have hcg:=(good_of h).cls _ hcm
 have hv2:=fun h4=>heldV_2 (s:=s) (c:=i) (k:=j) h (.inr (.inr (.inr h4)))
 have hv3:=heldV_3 (k:=j) h hi
 rw[Int.toNat_natCast]at hv2
 generalize s.classes.getD i default=c at *
 simp only[go_sem,h1,h2,h3,hi2,hi,hnc,clsD,stepsD]
 by_cases h4:(c.steps.length:Int)<j
 ·rw[← hv,hv2 h4]
  simp only[go_sem,h4]
  exact nilE _ _ _ (by rfl) (by rfl) (by rfl)
 have hj:j<=c.steps.length:=by omega
 have hj2:(j:Int)<=c.steps.length:=by omega
 have hV:=hv3 hj
 rw[hV]at hv
 subst hv
 simp only[go_sem,h4]
 refine call_made startR (by simp) _ _ _ rfl rfl ⟨s,rfl,hf.small,rfl,rfl⟩ ?_
 have htk:List.take j (c.steps.map stepD)=(c.steps.take j).map stepD:=by simp[List.map_take]
 have hlt:(c.steps.take j).length=j:=by simp;omega
 simp only[go_sem,AV.shift,Obj.shift,AV.shifts,hi,hi2,hnc,clsD,stepsD,hj2,Int.sub_zero,List.length_map,htk,hlt]
 have hnp:(hold0 s).units.length=s.pools.length:=by simp[hold0,zerosI]
 have hnl:(hold0 s).locks.length=s.locks.length:=by simp[hold0,zerosB]
 have hsm:=hf.small
 have hl12:=hcg.l12
 refine sem_loop (fun p:Nat×Hold=>⟨slotsOf 65 [(3,.ptr 0 0 0),(10,.ptr 3 0 0),(51,.dat (.sl (some 4) ((c.steps.take j).map stepD))),(52,.dat (.int .i64 j)),(53,.dat (.int .i64 p.1))],
   [sysO s,.row none (intsD p.2.units),.row none (boolsD p.2.locks),.box [.sl 1 0 p.2.units.length,.sl 2 0 p.2.locks.length]],0,[]⟩)
  (fun p=>p.1<=j/\Tr s (c.steps.take p.1) p.2/\verd (runE s (c.steps.drop p.1) p.2)=0/\(∀n∈p.2.units,-(1000*(p.1:Int))<=n/\n<=1000*(p.1:Int))) (fun p=>j - p.1) (0,hold0 s) ⟨Nat.zero_le _,tr_nil _,hcg.run,by simp[hold0,zerosI]⟩ ?_ ?_
 ·simp only[hnp,hnl]
  exact le_slots' (by simp only[go_sem,Int.natCast_zero])
 ·rintro ⟨m,h⟩ ⟨hm,hT,hI,hbd⟩
  simp only at hm hT hI hbd
  refine sem_of_awp (Γ:=tbl tabPH) tabPH_ok _ _ _ ?_
  have hu:=hT.ul
  have hb:=hT.ll
  by_cases hmj:m<j
  ·have hmc:m<c.steps.length:=by omega
   have hd:c.steps.drop m=c.steps[m] :: c.steps.drop (m+1):=List.drop_eq_getElem_cons hmc
   have hk2:(m:Int)<j:=by omega
   have hk0:(0:Int)<=m:=Int.natCast_nonneg m
   have hn:D.nth ((c.steps.take j).map stepD) m=stepD c.steps[m]:=by
    have:(c.steps.take j).drop m=c.steps[m] :: (c.steps.take j).drop (m+1):=by
     rw[List.drop_eq_getElem_cons (by rw[hlt];exact hmj)];simp
    exact nth_of_drop (f:=stepD) this
   have hx0:stepE s h.units h.locks c.steps[m]=0:=by
    rw[hd]at hI
    apply Classical.byContradiction;intro he
    rw[verd_err he]at hI;exact he hI
   have hI2:=hI
   rw[hd,verd_go hx0]at hI2
   have htr:=tr_step hT hx0
   rw[← take_of_drop hd]at htr
   generalize c.steps[m]=x at *
   obtain⟨u,b⟩:=h
   simp only at hu hb hbd hx0 hI2 htr
   simp only[go_sem,hk2,hk0,hn,hmj,hlt,stepD]
   refine call_lentN hstepR (by simp) [3,1,2] ⟨s,x,u,b,hu,hb,(good_of ‹_›).tame,fun n hn=>by have:=hbd n hn;omega,rfl,rfl,rfl,rfl,rfl,rfl⟩ (by decide) (by simp) rfl rfl rfl (by simp only[go_sem,AV.unders,AV.under]) ?_ ?_ ?_
   ·simp only[holdO,List.mem_cons,List.mem_nil_iff,or_false,forall_eq_or_imp,forall_eq];exact⟨by simp only[Obj.under,AV.unders,AV.under];decide,trivial,trivial⟩
   ·intro j hj
    rcases j with _|_|_|j
    ·rfl
    ·rfl
    ·rfl
    ·simp at hj;omega
   simp only[go_sem,hx0]
   refine⟨inR_i64.2 (by omega),(m+1,⟨stepU s u x,stepL s b x⟩),⟨by simp only;omega,htr,hI2,fun n hn=>?_⟩,by simp only;omega,?_⟩
   ·have:=stepU_small (good_of ‹_›).tame (b:=1000*(m:Int)) hbd (by omega) n hn
    simp only
    omega
   ·simp only[holdO,setAll,emb,AV.ren,AV.rens,Obj.ren]
    refine le_end (own:=[_,_,_,_]) (ex:=[_]) (Nat.zero_le _) ?_ ?_ ?_
    ·simp only[go_sem,Int.natCast_add,Int.cast_ofNat_Int]
    ·simp only[go_sem,stepU_len,stepL_len]
    ·simp only[go_sem,Obj.under,AV.unders,AV.under]
     decide
  ·obtain rfl:m=j:=by omega
   have hk2:¬(m:Int)<m:=by omega
   obtain⟨e1,e2⟩:=tr_hold hT
   rw[← e1,← e2]
   simp only[go_sem,hk2]
   refine sem_draw (pf:=[]) mixed tabPH_ok pureNo [0,1,2,3,4,5,6] (by kernel_rfl) ?_
   simp only[go_sem,chainI]
   refine post_res (.inl rfl) [.tmp 6,.tmp 7,.tmp 8] rfl ?_
   simp only[go_sem]
   refine Le.trans (le_freeze 1 (ag:=none) rfl (Nat.zero_le _)) ?_
   refine Le.trans (le_freeze 2 (ag:=none) rfl (Nat.zero_le _)) ?_
   have t1:List.take h.units.length (intsD h.units)=intsD h.units:=List.take_of_length_le (by simp)
   have t2:List.take h.locks.length (boolsD h.locks)=boolsD h.locks:=List.take_of_length_le (by simp)
   simp only[go_sem,t1,t2]
   exact le_fin (by simp only[go_sem]) (by simp only[go_sem])
end Go.AM
namespace Go.AM
open Go Go.Proofs
abbrev tabAw:List (Nat×Contract):=[(17,dataC (parR41 (splitC 10))),(20,dataC fmtR41),(22,dataC heldR),(24,dataC callsR41),(26,dataC eqIR),(27,dataC eqBR),(15,dataC chkAR),(28,peekC sameR41)]
theorem tabAw_ok:OkG Tryz.prog (tbl tabAw):=okG_cons parse41_ok (okG_cons format41_ok (okG_cons held_ok (okG_cons calls41_ok (okG_cons equal41_ok (okG_cons flags41_ok (okG_cons checkA_ok (okG_cons (okF_peek same41_ok) okG_nil)))))))
theorem aw_held:heldV exS 0 2=.tup [.dat (.sl none (intsD [1])),.dat (.sl none (boolsD [true])),.dat (.int .i64 0)]:=by
 have h:=heldV_3 (s:=exS) (c:=0) (k:=2) ex_check (by decide) (by decide)
 have e1:balU exS ((exS.classes.getD 0 default).steps.take 2)=[1]:=by decide +kernel
 have e2:balB exS ((exS.classes.getD 0 default).steps.take 2)=[true]:=by decide +kernel
 rw[e1,e2]at h
 exact h
theorem aw_calls:callsV exS 0=([1],0):=by decide +kernel
theorem exS_fk:exS.fk:=by
 refine⟨by decide,by decide,by decide,?_,?_⟩
 ·intro p hp
  simp only[exS,List.mem_singleton]at hp
  subst hp
  exact⟨by decide,inR_i64.2 (by decide),inR_i64.2 (by decide)⟩
 ·intro c hc
  simp only[exS,List.mem_cons,List.not_mem_nil,or_false]at hc
  rcases hc with rfl|rfl
  ·refine⟨by decide,fun x hx=>?_⟩
   simp only[List.mem_cons,List.not_mem_nil,or_false]at hx
   rcases hx with rfl|rfl|rfl|rfl|rfl <;> (refine⟨?_,?_,?_⟩ <;> exact inR_i64.2 (by decide))
  ·refine⟨by decide,fun x hx=>?_⟩
   simp only[List.mem_cons,List.not_mem_nil,or_false]at hx
   rcases hx with rfl|rfl <;> (refine⟨?_,?_,?_⟩ <;> exact inR_i64.2 (by decide))
theorem sys0_fk:sys0.fk:=⟨by decide,by decide,by decide,(fun p hp=>by cases hp),(fun c hc=>by cases hc)⟩
theorem exS_ne:decide (exS=sys0)=false:=by decide
theorem awake41_ok:OkF Tryz.prog 14 (dataC fun ds v=>ds=[]/\v=.dat (.bool true)):=by
 refine okF_data Tryz.func14 rfl (by decide) ?_
 rintro ds v ⟨rfl,rfl⟩
 refine sem_of_awpK [2,3,4,5,6,7] (Γ:=tbl tabAw) tabAw_ok _ _ _ ?_
 simp only[go_sem,Tryz.ntmps14,List.append_eq,List.cons_append,List.nil_append,List.length_cons,List.length_nil]
 refine call_data (parR41 (splitC 10)) (mem_ix 0 rfl) [.str exT] _ rfl ⟨exT,rfl,by decide,rfl⟩ (.inl rfl) ?_
 rw[ex_parse]
 simp only[go_sem,sysD]
 refine sem_of_awpK [3,4,5,6,7] (Γ:=tbl tabAw) tabAw_ok _ _ _ ?_
 simp only[go_sem]
 refine call_data fmtR41 (mem_ix 1 rfl) [sysD exS] _ rfl ⟨exS,rfl,rfl⟩ (.inl rfl) ?_
 have hfm:fmtS exS=(exT,0):=by unfold fmtS;rw[if_pos ex_check,ex_text]
 rw[hfm]
 simp only[go_sem]
 refine sem_of_awpK [4,5,6,7] (Γ:=tbl tabAw) tabAw_ok _ _ _ ?_
 simp only[go_sem]
 refine call_data heldR (mem_ix 2 rfl) [sysD exS,.int .i64 0,.int .i64 2] _ rfl ⟨exS,0,2,rfl,⟨⟨by decide,by decide,by decide⟩⟩,rfl⟩ (.inl rfl) ?_
 rw[aw_held]
 simp only[go_sem]
 refine sem_of_awpK [5,6,7] (Γ:=tbl tabAw) tabAw_ok _ _ _ ?_
 simp only[go_sem]
 refine call_data callsR41 (mem_ix 3 rfl) [sysD exS,.int .i64 0] _ rfl ⟨exS,0,rfl,rfl⟩ (.inl rfl) ?_
 rw[aw_calls]
 simp only[go_sem]
 refine sem_of_awpK [6,7] (Γ:=tbl tabAw) tabAw_ok _ _ _ ?_
 simp only[go_sem,List.length_cons,List.length_nil]
 refine call_data (parR41 (splitC 10)) (mem_ix 0 rfl) [.str exA] _ rfl ⟨exA,rfl,by decide,rfl⟩ (.inl rfl) ?_
 rw[ex_a]
 simp only[go_sem,sysD]
 refine sem_of_awpK [7] (Γ:=tbl tabAw) tabAw_ok _ _ _ ?_
 simp only[go_sem,List.length_cons,List.length_nil]
 refine call_data (parR41 (splitC 10)) (mem_ix 0 rfl) [.str exB] _ rfl ⟨exB,rfl,by decide,rfl⟩ (.inl rfl) ?_
 rw[ex_b]
 simp only[go_sem,sysD]
 refine sem_of_awp (Γ:=tbl tabAw) tabAw_ok _ _ _ ?_
 simp only[go_sem,List.length_cons,List.length_nil]
 refine call_data (parR41 (splitC 10)) (mem_ix 0 rfl) [.str exC] _ rfl ⟨exC,rfl,by decide,rfl⟩ (.inl rfl) ?_
 rw[ex_c]
 have hS2:exS.classes.length=2:=rfl
 have hT2:(2:Int)=((2:Nat):Int):=rfl
 have n1:D.nth (exS.classes.map clsD) 1=clsD ⟨[101,118,105,99,116],1,true,[⟨1,0,1,true⟩,⟨2,0,1,false⟩]⟩:=rfl
 simp only[go_sem,sysD,exT,List.append_eq,List.cons_append,List.nil_append,eq_self,decide_true,List.map_cons,List.map_nil,List.length_cons,List.length_nil]
 refine call_data eqIR (mem_ix 4 rfl) [.sl none (intsD [1]),.sl none (intsD [1])] (.dat (.bool true)) rfl ⟨[1],[1],rfl,by decide,rfl⟩ (.inr rfl) ?_
 simp only[go_sem,List.length_cons,List.length_nil]
 refine call_data eqBR (mem_ix 5 rfl) [.sl none (boolsD [true]),.sl none (boolsD [true])] (.dat (.bool true)) rfl ⟨[true],[true],rfl,by decide,rfl⟩ (.inr rfl) ?_
 simp only[go_sem,List.length_cons,List.length_nil,eq_self,decide_true]
 refine call_data eqIR (mem_ix 4 rfl) [.sl none (intsD [1]),.sl none (intsD [1])] (.dat (.bool true)) rfl ⟨[1],[1],rfl,by decide,rfl⟩ (.inr rfl) ?_
 simp only[go_sem,List.length_cons,List.length_nil,List.length_map,hS2,n1,clsD,eq_self,decide_true]
 refine call_data chkAR (mem_ix 6 rfl) [sysD exS] _ rfl ⟨exS,rfl,rfl⟩ (.inr rfl) ?_
 rw[ex_check]
 simp only[go_sem,eq_self,decide_true]
 refine call_peek sameR41 (mem_ix 7 rfl) [sysD exS,sysD sys0] (.dat (.bool false)) ⟨peek_agg ⟨peek_dat,peek_dat,peek_dat,trivial⟩,peek_agg ⟨peek_nils,peek_nils,peek_nils,trivial⟩,trivial⟩ ⟨exS,sys0,rfl,exS_fk,sys0_fk,by rw[exS_ne]⟩ rfl ?_
 simp only[go_sem,Bool.not_false]
 refine post_resO (mv':=[]) (.inl rfl) [.tmp 0] rfl (fun _ h=>h) ?_
 simp only[go_sem]
 exact le_fin (by rfl) (by simp only[AV.under])
end Go.AM
namespace Go.AM
open Go Go.Proofs
end Go.AM
namespace Go.AM
open Go Go.Proofs
structure PSys.okA (s:PSys):Prop where
 p:∀p∈s.pools,p.fk
 c:∀c∈s.classes,∀x∈c.steps,x.ok
theorem str_arg41{m:Nat}{d:D}(h:argT Tryz.prog (m+1) 9 d):∃s:Str,d=.str s:=by
 obtain⟨s,h,_⟩:=arg_str (by kernel_rfl) h
 exact⟨s,h⟩
theorem laid_skip{P:Program}{w:World}{n:String}{d:DataW Unit}{laid:List (String×DataW Unit)}{ps:List MemPlace}(h:DataW.LaidVars P w ((n,d) :: laid) ps):∃ps',DataW.LaidVars P w laid ps':=by
 obtain⟨g0,t0,cs0,f0,p0,q0,_,_,_,_,hrest,_⟩:=h
 exact⟨_,hrest⟩
theorem good_fk{s:PSys}(h:checkE s=0):s.fk:=by
 have g:=goodS_of h
 have h1:=g.np;have h2:=g.nl;have h3:=g.nc
 refine⟨by omega,by omega,by omega,fun p hp=>?_,fun c hc=>⟨by have:=g.ns c hc;omega,fun x hx=>?_⟩⟩
 ·have hn:=(isNm_len (g.nms p.name (by unfold namesL;exact List.mem_append.2 (.inl (List.mem_append.2 (.inl (List.mem_map.2 ⟨p,hp,rfl⟩))))))).2
  obtain⟨a1,a2,a3,a4⟩:=pool_fit (g.pl p hp)
  exact⟨by simp only[maxLen];omega,inR_i64.2 (by omega),inR_i64.2 (by omega)⟩
 ·have hp:=g.st c hc x hx
  have f:=st_fit g hp
  obtain⟨⟨k1,k5⟩,⟨on0,on1⟩,_⟩:=preE_0 hp
  have f0:=f.c0;have f1:=f.c1
  have:mostE s x.kind<=100:=by
   unfold mostE
   (repeat' split) <;> omega
  exact⟨inR_i64.2 (by omega),inR_i64.2 (by omega),inR_i64.2 (by omega)⟩
theorem parse_fk(lines:Str->List Str)(t:Str):(parse41 lines t).1.fk:=by
 by_cases h:(parse41 lines t).2.2=0
 ·exact good_fk (parse_good h)
 ·rw[parse_bad h];exact sys0_fk
end Go.AM
namespace Go.AM
open Go Go.Proofs
abbrev tabRH:List (Nat×Contract):=[(16,dataC checkR),(59,dataC balR)]
def targetN(s:PSys)(x:PStep):Int:=if x.kind=3 then s.pools.length+x.on else if x.kind=5 then (s.pools.length:Int)+s.locks.length+x.on else x.on
def targetR(ds:List D)(v:AV):Prop:=∃(s:PSys) (x:PStep),ds=[sysD s,stepD x]/\s.good/\preE s x=0/\v=.dat (.int .i64 (targetN s x))
end Go.AM
namespace Go.AM
open Go Go.Proofs
def awR41(ds:List D)(v:AV):Prop:=ds=[]/\v=.dat (.bool true)
theorem call_aw41{l:List (Nat×Contract)}(hm:(14,dataC awR41)∈l){own:List Obj}{K:AV->List Obj->List Nat->Prop}(h:K (.dat (.bool true)) own []):callw (tbl l) (.fn 14 []) [] own K :=
 call_data awR41 hm [] _ rfl ⟨rfl,rfl⟩ (.inl rfl) h
def lawSR(ds:List D)(v:AV):Prop:=∃s:PSys,ds=[sysD s]/\s.okA/\v=.dat (.bool true)
def lawTR41(ds:List D)(v:AV):Prop:=∃s:Str,ds=[.str s]/\v=.dat (.bool true)
def lawSSR(ds:List D)(v:AV):Prop:=∃a b:PSys,ds=[sysD a,sysD b]/\a.okA/\b.okA/\v=.dat (.bool true)
def lawSIR(ds:List D)(v:AV):Prop:=∃(s:PSys) (c k:Int),ds=[sysD s,.int .i64 c,.int .i64 k]/\s.okA/\v=.dat (.bool true)
abbrev tabN1:List (Nat×Contract):=[(14,dataC awR41),(13,dataC fewR),(15,dataC chkAR),(16,dataC chkAR)]
abbrev tabN2:List (Nat×Contract):=[(14,dataC awR41),(17,dataC (parR41 (splitC 10))),(18,dataC (parR41 linesW)),(19,dataC sameR41)]
theorem tabN2_ok:OkG Tryz.prog (tbl tabN2):=okG_cons awake41_ok (okG_cons parse41_ok (okG_cons rparse41_ok (okG_cons rsame41_ok okG_nil)))
theorem lawParses41_ok:OkF Tryz.prog 4 (dataC lawTR41):=by
 refine okF_data Tryz.func4 rfl (by decide) ?_
 rintro ds v ⟨s,rfl,rfl⟩
 refine sem_of_awp (Γ:=tbl tabN2) tabN2_ok _ _ _ ?_
 by_cases hl:4100<s.length
 ·have hl':(4100:Int)<(s.length:Int):=by omega
  simp only[go_sem,Tryz.ntmps4,hl',decide_true]
  refine call_aw41 (mem_ix 0 rfl) ?_
  simp only[go_sem]
  exact post_data (.inl rfl) [2] rfl trivial rfl
 ·have hl':¬(4100:Int)<(s.length:Int):=by omega
  simp only[go_sem,Tryz.ntmps4,hl',decide_false]
  refine call_data (parR41 (splitC 10)) (mem_ix 1 rfl) [.str s] _ rfl ⟨s,rfl,by omega,rfl⟩ (.inl rfl) ?_
  have hfk:=parse_fk (splitC 10) s
  have he:=parse41_lines s
  generalize parse41 (splitC 10) s=q at *
  simp only[go_sem,sysD,List.length_cons,List.length_nil]
  refine call_data (parR41 linesW) (mem_ix 2 rfl) [.str s] _ rfl ⟨s,rfl,by omega,rfl⟩ (.inl rfl) ?_
  rw[← he]
  simp only[go_sem,sysD,eq_self,decide_true,List.length_cons,List.length_nil]
  refine call_data sameR41 (mem_ix 3 rfl) [sysD q.1,sysD q.1] _ rfl ⟨q.1,q.1,rfl,hfk,hfk,rfl⟩ (.inl rfl) ?_
  simp only[go_sem,eq_self,decide_true]
  refine call_aw41 (mem_ix 0 rfl) ?_
  simp only[go_sem]
  exact post_data (.inl rfl) [2] rfl trivial rfl
abbrev tabN3:List (Nat×Contract):=[(14,dataC awR41),(13,dataC fewR),(20,dataC fmtR41),(21,dataC fmtR41)]
abbrev tabN4:List (Nat×Contract):=[(14,dataC awR41),(13,dataC fewR),(22,dataC heldR),(23,dataC heldR),(24,dataC callsR41),(25,dataC callsR41),(26,dataC eqIR),(27,dataC eqBR)]
abbrev tabN5:List (Nat×Contract):=[(14,dataC awR41),(13,dataC fewR),(28,dataC sameR41),(19,dataC sameR41)]
abbrev tabN6:List (Nat×Contract):=[(14,dataC awR41),(13,dataC fewR),(20,dataC fmtR41),(17,dataC (parR41 (splitC 10))),(19,dataC sameR41),(15,dataC chkAR)]
end Go.AM
namespace Go.AM
open Go Go.Proofs
def unitsIn(s:PSys)(l:List PStep):Prop:=∀i:Nat,i<s.pools.length->0<=bal l i 0/\bal l i 0<=(s.pools.getD i default).size
end Go.AM
namespace Go.AM
open Go Go.Proofs
abbrev tabN7:List (Nat×Contract):=[(14,dataC awR41),(17,dataC (parR41 (splitC 10))),(20,dataC fmtR41),(19,peekC sameR41),(29,dataC spcR)]
abbrev tabN8:List (Nat×Contract):=[(14,dataC awR41),(13,dataC fewR),(16,dataC chkAR),(22,dataC heldR)]
end Go.AM
namespace Go.AM
open Go Go.Proofs
theorem glob_ok {w : World} {n1 n2 : String} {d1 d2 : DataW Unit} {laid : List (String × DataW Unit)} {ps : List MemPlace} {d : DataW Unit} (hd : d = .agg (Lib.pow10Tab.map fun z => .lit (.int .u64 z))) (h : DataW.LaidVars Tryz.prog w ((n1, d1) :: (n2, d2) :: ("internal/strconv.uint64pow10", d) :: laid) ps) : GlobOk (fun b => b < w.heap.size) w := by
 obtain⟨_,h⟩:=laid_skip h
 obtain⟨_,h⟩:=laid_skip h
 obtain⟨⟨cs,h1,h2,h3,h4⟩,_⟩:=glob_array (g:=3) (t:=159) (e:=140) (n:=20) (k:=.u64) (ns:=Lib.pow10Tab) h hd (by kernel_rfl) (by kernel_rfl) (by kernel_rfl) (by kernel_rfl) (by kernel_rfl) (by kernel_rfl) (by decide)
 intro g ag d' hg
 unfold globs at hg
 split at hg
 ·simp only[Option.some.injEq,Prod.mk.injEq]at hg
  obtain⟨rfl,rfl⟩:=hg
  exact⟨cs,h1,h2,h3,rfl,h4⟩
 ·cases hg
end Go.AM
namespace Go.Proofs.YtaecgpgkfajfjaaGreatDoor
open Go Go.AM Go.ChangeShapes Go.WideShapes Go.ChangeAt Go.RowKit
theorem own:ownKnob Tryz.prog.godebug=none:=by kernel_rfl
theorem laidOut:laidOutB Tryz.prog=true:=by kernel_rfl
abbrev laid1 : List (String × DataW Unit) := [("math/bits.deBruijn32tab", Rows.laid_math_bits_deBruijn32tab), ("math/bits.deBruijn64tab", Rows.laid_math_bits_deBruijn64tab), ("internal/strconv.uint64pow10", Rows.laid_internal_strconv_uint64pow10), ("unicode/utf8.acceptRanges", Rows.laid_unicode_utf8_acceptRanges), ("unicode/utf8.first", Rows.laid_unicode_utf8_first)]
theorem pow_datum:(Rows.laid_internal_strconv_uint64pow10:DataW Unit)=.agg (Lib.pow10Tab.map fun z=>.lit (.int .u64 z)):=by kernel_rfl
theorem glob_met(w:World)(h:laidMetH Tryz.prog laid1 w):GlobOk (fun b=>b<w.heap.size) w:=by
 rw[MakeChecks.laidMetH_plain _ _ _ (by kernel_rfl)]at h
 obtain⟨ps,hl,_⟩:=h
 exact glob_ok pow_datum hl
theorem fits_laid(os:Os):(World.holding Tryz.prog os ⟨#[],#[],[]⟩).layFits Tryz.prog laid1 []=true:=by kernel_rfl
theorem ifaces_laid(os:Os):(World.holding Tryz.prog os ⟨#[],#[],[]⟩).layIfaces Tryz.prog laid1 (World.laidAll Tryz.prog os laid1)=true:=by kernel_rfl
theorem shaped_laid(os:Os):(World.laidAll Tryz.prog os laid1).Shaped Tryz.prog:=World.shaped_of_ZipB (by kernel_rfl) (by kernel_rfl)
theorem door_met(os:Os)(args:Array Value):laidMetH Tryz.prog laid1 ((World.laidAll Tryz.prog os laid1).forCall (fun _ _=>0) ⟨#[],args,[]⟩).memory:=by
 rw[MakeChecks.laidMetH_plain _ _ _ (by kernel_rfl)]
 exact laidMet_laidAll _ (fits_laid os) (ifaces_laid os)
end Go.Proofs.YtaecgpgkfajfjaaGreatDoor

