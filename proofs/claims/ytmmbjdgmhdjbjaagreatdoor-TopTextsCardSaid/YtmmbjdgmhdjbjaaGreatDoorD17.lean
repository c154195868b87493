/- Own work over the model of the kit. -/
import Derived.Test.YtmmbjdgmhdjbjaaGreatDoorD12
import Derived.Test.YtmmbjdgmhdjbjaaGreatDoorD16
set_option linter.unnecessarySimpa false
set_option linter.unusedSimpArgs false
set_option linter.unusedVariables false
set_option maxHeartbeats 4000000
set_option maxRecDepth 8000
namespace Go.AM
open Go
theorem Kg{s:List AV}{own own':List Obj}{mv:List Nat}(π ρ:Nat->Nat)(h1:∀o,ρ (π o)=o)(h2:∀o,π (ρ o)=o)(hlt:∀o,o<own.length->ρ o<own.length)(eH:∀o,o<own.length->π o<own.length)
  (ho:own'=(List.range own.length).map fun o=>(own.getD (ρ o) .dead).ren π):Le ⟨s,own,0,mv⟩ ⟨AV.rens π s,own',0,mv⟩:=by
 rintro c a w ⟨hd,hn,F,φ,q2,q3,q4⟩
 have hφ:∀o L,φ o=some L->(fun i=>φ (ρ i)) (π o)=some L:=fun o L h=>by simp only[h1];exact h
 have hl:own'.length=own.length:=by rw[ho];simp
 have hn0:c.n0=0:=hn.symm
 refine⟨hd,hn,F,fun i=>φ (ρ i),⟨q2.sub,q2.ext,fun o L eH hm h=>?_,q2.rest,fun o L' ho' hn'=>q2.orig (ρ o) L' ho' hn',q2.frsh⟩,?_,AV.Rs_ren (π:=π) (φ:=φ) (φ':=fun i=>φ (ρ i)) hφ s _ q4⟩
 ·omega
 ·refine⟨q3.fb,fun o L h=>q3.live (ρ o) L h,fun o o' L L' h h' n n' hne=>q3.inj (ρ o) (ρ o') L L' h h' n n' (fun e=>hne (by rw[← h2 o,← h2 o',e])),fun o obj hob=>?_,fun o hge=>?_,q3.glob⟩
  ·have RW:o<own.length:=by
    have:=(List.getElem?_eq_some_iff.1 hob).1
    simp only[hl]at this
    exact this
   simp only[ho,List.getElem?_map,List.getElem?_range RW,Option.map_some,Option.some.injEq]at hob
   subst hob
   have hp:=hlt o RW
   have:=q3.rep (ρ o) (own.getD (ρ o) .dead) (by simp only;rw[List.getD_eq_getElem?_getD,List.getElem?_eq_getElem hp];rfl)
   exact mN (π:=π) (φ:=φ) (φ':=fun i=>φ (ρ i)) hφ this
  ·simp only[hl]at hge
   refine q3.out (ρ o) ?_
   simp only
   rcases Nat.lt_or_ge (ρ o) own.length with h|h
   ·have:=eH _ h
    rw[h2]at this
    omega
   ·exact h
def pm(l:List Nat)(o:Nat):Nat:=l.getD o o
def Wr(l m:List Nat):Bool:=decide (m.length=l.length) && (List.range l.length).all fun o=>decide (pm m (pm l o)=o) && decide (pm l (pm m o)=o) && decide (pm m o<l.length) && decide (pm l o<l.length)
theorem XU{s s':List AV}{own own':List Obj}{mv:List Nat}(l m:List Nat)(h:Wr l m=true)(hl:own.length=l.length)(hs:s'=AV.rens (pm l) s)(ho:own'=(List.range own.length).map fun o=>(own.getD (pm m o) .dead).ren (pm l)) :
  Le ⟨s,own,0,mv⟩ ⟨s',own',0,mv⟩:=by
 subst hs
 simp only[Wr,Bool.and_eq_true,decide_eq_true_eq,List.all_eq_true,List.mem_range]at h
 obtain⟨hml,h⟩:=h
 have hb:∀o,l.length<=o->pm l o=o/\pm m o=o:=fun o ho=>by
  unfold pm
  rw[List.getD_eq_getElem?_getD,List.getD_eq_getElem?_getD,List.getElem?_eq_none (by omega),List.getElem?_eq_none (by omega)]
  exact⟨rfl,rfl⟩
 have hc:∀o,pm m (pm l o)=o/\pm l (pm m o)=o:=fun o=>by
  rcases Nat.lt_or_ge o l.length with hh|hh
  ·exact(h o hh).1.1
  ·obtain⟨e1,e2⟩:=hb o hh;rw[e1,e2,e1];exact⟨rfl,rfl⟩
 exact Kg (pm l) (pm m) (fun o=>(hc o).1) (fun o=>(hc o).2) (fun o ho=>by rw[hl]at ho ⊢;exact(h o ho).1.2) (fun o ho=>by rw[hl]at ho ⊢;exact(h o ho).2) ho
end Go.AM
namespace Go.AM
open Go Go.Proofs
abbrev dE(n:Nat)(g:Nat->Int):List Int:=(List.range n).map g
theorem gQ{n:Nat}{g:Nat->Int}:(dE n g).length=n:=by simp
theorem eg{n i:Nat}{g:Nat->Int}(h:i<n):D.nth (aA (dE n g)) i=.int .i64 (g i):=by
 simp[D.nth,List.getD_eq_getElem?_getD,h]
theorem hZ{n i:Nat}{g g':Nat->Int}{v:Int}(h:i<n)(hv:g' i=v)(ho:∀j,j<n->j≠i->g' j=g j):(aA (dE n g)).set i (.int .i64 v)=aA (dE n g'):=by
 refine List.ext_getElem? fun j=>?_
 rw[List.getElem?_set]
 by_cases e:i=j
 ·subst e
  simp[h,hv]
 ·rw[if_neg e]
  by_cases hj:j<n
  ·simp[hj,ho j hj (fun h=>e h.symm)]
  ·simp[hj]
theorem cj{n:Nat}{g g':Nat->Int}(h:∀j,j<n->g' j=g j):dE n g'=dE n g:=List.map_congr_left fun j hj=>h j (List.mem_range.1 hj)
def Et(s:PSys)(L:List PFr):D:=.agg [.sl none (aA (I6 s L)),.sl none (aA (I3 s L)),.sl none (aA (IX s L))]
def Vo(ds:List D)(v:AV):Prop:=∃(s:PSys) (x:PSt),ds=[aY s,stD x]/\s.good/\PStFit x/\(∀f∈frames x,gn s f=true)/\v=.dat (Et s (frames x))
def gU(s:PSys)(L:List PFr)(st:List PStep)(i:Nat):Int:=bP (frU s i) L+bal st i 0
def gL(s:PSys)(L:List PFr)(st:List PStep)(i:Nat):Int:=bP (frL s i) L+bal st i 1
theorem DS{s:PSys}{L:List PFr}{i:Nat}:gU s L [] i=bP (frU s i) L:=by simp[gU,bal]
theorem By{s:PSys}{L:List PFr}{i:Nat}:gL s L [] i=bP (frL s i) L:=by simp[gL,bal]
theorem In{s:PSys}(hg:s.good){f:PFr}(hf:gn s f=true)(i:Nat)(k:Int):-12000<=bal ((aW s f).steps.take f.a.toNat) i k/\bal ((aW s f).steps.take f.a.toNat) i k<=12000:=by
 obtain⟨h1,h2,h3,h4⟩:=bK.1 hf
 have hm:aW s f∈s.classes:=by
  unfold aW;rw[List.getD_eq_getElem?_getD,List.getElem?_eq_getElem (by omega)];exact List.getElem_mem _
 have hc:=hg.cls _ hm
 have ht:KG ((aW s f).steps.take f.a.toNat):=fun x hx=>hc.steps hg x (List.mem_of_mem_take hx)
 have hb:=xZ ((aW s f).steps.take f.a.toNat) i k 0 ht
 have h12:=hc.l12
 have hl:((aW s f).steps.take f.a.toNat).length<=12:=by rw[List.length_take];omega
 unfold bal
 omega
theorem vU{g:PFr->Int}{b:Int}{L:List PFr}(h:∀f∈L,-b<=g f/\g f<=b):-(b*L.length)<=bP g L/\bP g L<=b*L.length:=by
 induction L with
 | nil=>simp[bP]
 | cons f L ih =>
  have h1:=h f (by simp)
  have h2:=ih fun q hq=>h q (by simp[hq])
  rw[bJ,List.length_cons]
  have e:b*((L.length+1:Nat):Int)=b*L.length+b:=by rw[Int.natCast_add,Int.mul_add];simp
  rw[e]
  omega
theorem qG{x:PSt}(h:PStFit x):(frames x).length<=1000000:=by
 have key:∀(y:PSt),(∀l∈y,l.length<=1000)->(frames y).length<=1000*y.length:=by
  intro y
  induction y with
  | nil=>intro _;simp
  | cons l y ih =>
   intro hy
   have h1:=hy l (by simp)
   have h2:=ih fun q hq=>hy q (by simp[hq])
   simp only[frames,List.flatten_cons,List.length_append,List.length_cons]at h2 ⊢
   omega
 have:=key x h.stk
 have:=h.len
 omega
theorem xr{s:PSys}(hg:s.good){L:List PFr}(hL:∀f∈L,gn s f=true)(hl:L.length<=1000000)(i:Nat):(-100000000000<=bP (frU s i) L/\bP (frU s i) L<=100000000000)/\(-100000000000<=bP (frL s i) L/\bP (frL s i) L<=100000000000)/\(-100000000000<=bP (frE s i) L/\bP (frE s i) L<=100000000000):=by
 have h1:=vU (g:=frU s i) (b:=12000) (L:=L) (fun f hf=>In hg (hL f hf) i 0)
 have h2:=vU (g:=frL s i) (b:=12000) (L:=L) (fun f hf=>In hg (hL f hf) i 1)
 have h3:=vU (g:=frE s i) (b:=12000) (L:=L) (fun f hf=>by unfold frE;split <;> omega)
 omega
theorem DL{s:PSys}{L:List PFr}{st:List PStep}{x:PStep}{i:Nat}:gU s L (st++[x]) i=if x.on=i then (if x.kind=1 then gU s L st i+x.cnt else if x.kind=2 then gU s L st i - x.cnt else gU s L st i) else gU s L st i:=by
 unfold gU
 rw[i7]
 unfold eQ
 simp only[if_true,show ¬(0:Int)=1 by decide,if_false]
 (repeat' split) <;> omega
theorem Cl{s:PSys}{L:List PFr}{st:List PStep}{x:PStep}{i:Nat}:gL s L (st++[x]) i=if x.on=i then (if x.kind=3 then gL s L st i+1 else if x.kind=4 then gL s L st i - 1 else gL s L st i) else gL s L st i:=by
 unfold gL
 rw[i7]
 unfold eQ
 simp only[if_true,show ¬(1:Int)=0 by decide,if_false]
 (repeat' split) <;> omega
theorem H8:OkF Tryz.prog 73 (au Vo):=by
 refine az Tryz.func73 rfl (by decide) ?_
 rintro ds v ⟨s,x,rfl,hg,hx,hfr,rfl⟩
 have hnp:=hg.np
 have hnl:=hg.nl
 have hnc:=hg.nc
 have hxl:=hx.len
 refine al [2] (Γ:=tbl []) ae _ _ _ ?_
 simp only[go_sem,Tryz.ntmps73,aY,stD]
 refine cW [] [] (pf:=[]) (mf:=[]) mixed ae b0 fQ (.one 0 (.one 1 (.one 2 (.one 4 (.one 5 (.one 6 (.one 8 (.one 9 (.one 10 (.alt 3 (.alt 7 (.alt 11 (.one 12 (.one 13 (.one 14 .fin))) (.alt 13 (.one 11 (.one 12 (.one 14 .fin))) .stop)) (.alt 11 (.alt 7 (.one 12 (.one 13 (.one 14 .fin))) (.alt 13 (.one 7 (.one 12 (.one 14 .fin))) .stop)) (.alt 13 (.alt 7 (.one 11 (.one 12 (.one 14 .fin))) (.alt 11 (.one 7 (.one 12 (.one 14 .fin))) .stop)) .stop))) (.alt 7 (.alt 3 (.alt 11 (.one 12 (.one 13 (.one 14 .fin))) (.alt 13 (.one 11 (.one 12 (.one 14 .fin))) .stop)) (.alt 11 (.alt 3 (.one 12 (.one 13 (.one 14 .fin))) (.alt 13 (.one 3 (.one 12 (.one 14 .fin))) .stop)) (.alt 13 (.alt 3 (.one 11 (.one 12 (.one 14 .fin))) (.alt 11 (.one 3 (.one 12 (.one 14 .fin))) .stop)) .stop))) (.alt 11 (.alt 3 (.alt 7 (.one 12 (.one 13 (.one 14 .fin))) (.alt 13 (.one 7 (.one 12 (.one 14 .fin))) .stop)) (.alt 7 (.alt 3 (.one 12 (.one 13 (.one 14 .fin))) (.alt 13 (.one 3 (.one 12 (.one 14 .fin))) .stop)) (.alt 13 (.alt 3 (.one 7 (.one 12 (.one 14 .fin))) (.alt 7 (.one 3 (.one 12 (.one 14 .fin))) .stop)) .stop))) (.alt 13 (.alt 3 (.alt 7 (.one 11 (.one 12 (.one 14 .fin))) (.alt 11 (.one 7 (.one 12 (.one 14 .fin))) .stop)) (.alt 7 (.alt 3 (.one 11 (.one 12 (.one 14 .fin))) (.alt 11 (.one 3 (.one 12 (.one 14 .fin))) .stop)) (.alt 11 (.alt 3 (.one 7 (.one 12 (.one 14 .fin))) (.alt 7 (.one 3 (.one 12 (.one 14 .fin))) .stop)) .stop))) .stop))))))))))))) (by kernel_rfl) ?_
 generalize hK:fc [2] Tryz.prog (tbl []) _ _=Q
 have hcl:∀σ σ',Le σ σ'->Q .normal σ'->Q .normal σ:=by
  subst hK
  intro σ σ' h1 h2
  exact av h1 h2
 suffices hQ1:Q .normal ⟨an 118 [(2,.ptr 0 0 0),(3,.ptr 1 0 0),(4,.ptr 2 0 0),(5,.ptr 6 0 0)],[jO s,stO x,.box [.nils,.nils,.nils],.row none (List.replicate s.pools.length (.int .i64 0)),.row none (List.replicate s.locks.length (.int .i64 0)),.row none (List.replicate s.classes.length (.int .i64 0)),.box [.sl 3 0 s.pools.length,.sl 4 0 s.locks.length,.sl 5 0 s.classes.length]],0,[]⟩ by
  have hlf:∀(c:Nat) (l m:List Nat) {own:List Obj} {sl:List AV},bZ sl (an 118 [(2,.ptr 0 0 0),(3,.ptr 1 0 0),(4,.ptr 2 0 0),(5,.ptr c 0 0)])->Wr l m=true->own.length=l.length->_=AV.rens (pm l) (an 118 [(2,.ptr 0 0 0),(3,.ptr 1 0 0),(4,.ptr 2 0 0),(5,.ptr c 0 0)])->_=(List.range own.length).map (fun o=>(own.getD (pm m o) .dead).ren (pm l))->Q .normal ⟨sl,own,0,[]⟩:=fun c l m {_} {_} h0 h1 h2 h3 h4=>hcl _ _ (Le.trans (a7 h0) (XU l m h1 h2 h3 h4)) hQ1
  have b1:8*(s.pools.length:Int)<=281474976710656:=by omega
  have b2:8*(s.locks.length:Int)<=281474976710656:=by omega
  have b3:8*(s.classes.length:Int)<=281474976710656:=by omega
  simp only[go_sem,List.length_map,b1,b2,b3,Int.le_refl]
  repeat' apply And.intro
  ·exact hlf 6 [0,1,2,3,4,5,6] [0,1,2,3,4,5,6] (by simp only[go_sem]) (by decide) rfl rfl rfl
  ·exact hlf 5 [0,1,2,3,4,6,5] [0,1,2,3,4,6,5] (by simp only[go_sem]) (by decide) rfl rfl rfl
  ·exact hlf 6 [0,1,2,3,5,4,6] [0,1,2,3,5,4,6] (by simp only[go_sem]) (by decide) rfl rfl rfl
  ·exact hlf 5 [0,1,2,3,5,6,4] [0,1,2,3,6,4,5] (by simp only[go_sem]) (by decide) rfl rfl rfl
  ·exact hlf 4 [0,1,2,3,6,4,5] [0,1,2,3,5,6,4] (by simp only[go_sem]) (by decide) rfl rfl rfl
  ·exact hlf 4 [0,1,2,3,6,5,4] [0,1,2,3,6,5,4] (by simp only[go_sem]) (by decide) rfl rfl rfl
  ·exact hlf 6 [0,1,2,4,3,5,6] [0,1,2,4,3,5,6] (by simp only[go_sem]) (by decide) rfl rfl rfl
  ·exact hlf 5 [0,1,2,4,3,6,5] [0,1,2,4,3,6,5] (by simp only[go_sem]) (by decide) rfl rfl rfl
  ·exact hlf 6 [0,1,2,4,5,3,6] [0,1,2,5,3,4,6] (by simp only[go_sem]) (by decide) rfl rfl rfl
  ·exact hlf 5 [0,1,2,4,5,6,3] [0,1,2,6,3,4,5] (by simp only[go_sem]) (by decide) rfl rfl rfl
  ·exact hlf 4 [0,1,2,4,6,3,5] [0,1,2,5,3,6,4] (by simp only[go_sem]) (by decide) rfl rfl rfl
  ·exact hlf 4 [0,1,2,4,6,5,3] [0,1,2,6,3,5,4] (by simp only[go_sem]) (by decide) rfl rfl rfl
  ·exact hlf 6 [0,1,2,5,3,4,6] [0,1,2,4,5,3,6] (by simp only[go_sem]) (by decide) rfl rfl rfl
  ·exact hlf 5 [0,1,2,5,3,6,4] [0,1,2,4,6,3,5] (by simp only[go_sem]) (by decide) rfl rfl rfl
  ·exact hlf 6 [0,1,2,5,4,3,6] [0,1,2,5,4,3,6] (by simp only[go_sem]) (by decide) rfl rfl rfl
  ·exact hlf 5 [0,1,2,5,4,6,3] [0,1,2,6,4,3,5] (by simp only[go_sem]) (by decide) rfl rfl rfl
  ·exact hlf 4 [0,1,2,5,6,3,4] [0,1,2,5,6,3,4] (by simp only[go_sem]) (by decide) rfl rfl rfl
  ·exact hlf 4 [0,1,2,5,6,4,3] [0,1,2,6,5,3,4] (by simp only[go_sem]) (by decide) rfl rfl rfl
  ·exact hlf 3 [0,1,2,6,3,4,5] [0,1,2,4,5,6,3] (by simp only[go_sem]) (by decide) rfl rfl rfl
  ·exact hlf 3 [0,1,2,6,3,5,4] [0,1,2,4,6,5,3] (by simp only[go_sem]) (by decide) rfl rfl rfl
  ·exact hlf 3 [0,1,2,6,4,3,5] [0,1,2,5,4,6,3] (by simp only[go_sem]) (by decide) rfl rfl rfl
  ·exact hlf 3 [0,1,2,6,4,5,3] [0,1,2,6,4,5,3] (by simp only[go_sem]) (by decide) rfl rfl rfl
  ·exact hlf 3 [0,1,2,6,5,3,4] [0,1,2,5,6,4,3] (by simp only[go_sem]) (by decide) rfl rfl rfl
  ·exact hlf 3 [0,1,2,6,5,4,3] [0,1,2,6,5,4,3] (by simp only[go_sem]) (by decide) rfl rfl rfl
 subst hK
 simp only[go_sem]
 refine a6 (Γ:=tbl []) ae _ _ _ ?_
 have e0:∀n:Nat,List.replicate n (D.int .i64 0)=aA (dE n fun i=>0):=fun n=>by
  refine List.ext_getElem? fun j=>?_
  by_cases hj:j<n <;> simp[hj]
 have z1:(dE s.pools.length fun i=>0)=dE s.pools.length (gU s [] []):=cj fun j _=>by rw[DS];rfl
 have z2:(dE s.locks.length fun i=>0)=dE s.locks.length (gL s [] []):=cj fun j _=>by rw[By];rfl
 have z3:(dE s.classes.length fun i=>0)=dE s.classes.length fun i=>bP (frE s i) []:=cj fun j _=>rfl
 rw[e0,e0,e0,z1,z2,z3]
 have sS:(aG x).length=x.length:=by simp
 simp only[go_sem,sS]
 let own:=fun (L:List PFr) (st:List PStep)=>([jO s,stO x,.box [.nils,.nils,.nils],.row none (aA (dE s.pools.length (gU s L st))),.row none (aA (dE s.locks.length (gL s L st))),.row none (aA (dE s.classes.length fun i=>bP (frE s i) L)),.box [.sl 3 0 s.pools.length,.sl 4 0 s.locks.length,.sl 5 0 s.classes.length]]:List Obj)
 refine ap (fun k:Nat=>⟨an 118 [(2,.ptr 0 0 0),(3,.ptr 1 0 0),(4,.ptr 2 0 0),(5,.ptr 6 0 0),(26,.dat (.sl none (aG x))),(27,.dat (.int .i64 x.length)),(28,.dat (.int .i64 k))],own (x.take k).flatten [],0,[]⟩)
  (fun k=>k<=x.length) (fun k=>x.length - k) 0 (Nat.zero_le _) ?_ ?_
 ·exact a7 (by simp only[go_sem,Int.natCast_zero])
 rintro k hk
 cases hd:x.drop k with
 | nil =>
  obtain rfl:k=x.length:=aj hd hk
  have hk2:¬(x.length:Int)<x.length:=by omega
  rw[List.take_length]
  have hu:dE s.pools.length (gU s (frames x) [])=I6 s (frames x):=cj fun j _=>DS
  have hl:dE s.locks.length (gL s (frames x) [])=I3 s (frames x):=cj fun j _=>By
  have he:(dE s.classes.length fun i=>bP (frE s i) (frames x))=IX s (frames x):=rfl
  have hul:(I6 s (frames x)).length=s.pools.length:=by simp[I6]
  have hll:(I3 s (frames x)).length=s.locks.length:=by simp[I3]
  have hel:(IX s (frames x)).length=s.classes.length:=by simp[IX]
  simp only[own]
  rw[hu,hl,he,← hul,← hll,← hel]
  refine av (aq 5 (ag:=none) rfl (Nat.zero_le _)) ?_
  refine av (aq 4 (ag:=none) rfl (Nat.zero_le _)) ?_
  refine av (aq 3 (ag:=none) rfl (Nat.zero_le _)) ?_
  refine a6 (Γ:=tbl []) ae _ _ _ ?_
  simp only[go_sem,hk2,dS,bV,List.drop_zero,Nat.le_refl]
  refine aZ (.inl rfl) [.cell 4 150] rfl ?_
  simp only[go_sem,Et]
  exact bp (by simp only[go_sem]) (by simp only[go_sem])
 | cons l r =>
 have hlt:=ao hd
 have hk2:(k:Int)<x.length:=by omega
 have hk0:(0:Int)<=k:=Int.natCast_nonneg k
 have hn:=ak (f:=eY) hd
 have hll:=hx.stk l (aN hd)
 have hfl:(ed l).length=l.length:=by simp
 have htk:(x.take (k+1)).flatten=(x.take k).flatten++l:=by rw[aC hd,List.flatten_append];simp
 have hF1:∀f∈(x.take k).flatten++l,gn s f=true:=fun f hf=>hfr f (by
  rw[← htk]at hf
  obtain⟨y,hy,hfy⟩:=List.mem_flatten.1 hf
  exact List.mem_flatten.2 ⟨y,List.mem_of_mem_take hy,hfy⟩)
 have hF2:((x.take k).flatten++l).length<=1000000:=by
  rw[← htk]
  exact qG ⟨by rw[List.length_take];omega,fun y hy=>hx.stk y (List.mem_of_mem_take hy)⟩
 refine a6 (Γ:=tbl []) ae _ _ _ ?_
 simp only[own]
 simp only[go_sem,hk2,hk0,hlt,hn,sS,eY,hfl]
 generalize hL0:(x.take k).flatten=L0 at *
 refine ap (fun j:Nat=>⟨an 118 [(2,.ptr 0 0 0),(3,.ptr 1 0 0),(4,.ptr 2 0 0),(5,.ptr 6 0 0),(26,.dat (.sl none (aG x))),(27,.dat (.int .i64 x.length)),(28,.dat (.int .i64 k)),(32,.dat (.sl (some 2) (ed l))),(33,.dat (.int .i64 l.length)),(34,.dat (.int .i64 j))],own (L0++l.take j) [],0,[]⟩)
  (fun j=>j<=l.length) (fun j=>l.length - j) 0 (Nat.zero_le _) ?_ ?_
 ·rw[List.take_zero,List.append_nil]
  exact a7 (by simp only[go_sem,Int.natCast_zero])
 rintro j hj
 refine a6 (Γ:=tbl []) ae _ _ _ ?_
 simp only[own]
 cases hd2:l.drop j with
 | nil =>
  obtain rfl:j=l.length:=aj hd2 hj
  have hj2:¬(l.length:Int)<l.length:=by omega
  rw[List.take_length]
  simp only[go_sem,hj2]
  refine⟨ac.2 (by omega),k+1,by omega,by omega,?_⟩
  rw[htk]
  exact a7 (by simp only[go_sem,Int.natCast_add,Int.cast_ofNat_Int])
 | cons f r2 =>
 have re:=ao hd2
 have hj2:(j:Int)<l.length:=by omega
 have hj0:(0:Int)<=j:=Int.natCast_nonneg j
 have hn2:=ak (f:=frD) hd2
 have hfo:=hF1 f (by simp[aN hd2])
 have Yy:L0++l.take (j+1)=(L0++l.take j)++[f]:=by rw[aC hd2,List.append_assoc]
 have hM1:∀q∈L0++l.take j,gn s q=true:=fun q hq=>hF1 q (by
  rcases List.mem_append.1 hq with h|h
  ·exact List.mem_append.2 (.inl h)
  ·exact List.mem_append.2 (.inr (List.mem_of_mem_take h)))
 have hM2:(L0++l.take j).length<=1000000:=by
  simp only[List.length_append,List.length_take]at hF2 ⊢
  omega
 have RX:=fun i=>xr hg hM1 hM2 i
 obtain⟨c1,c2,c3,c4⟩:=bK.1 hfo
 obtain⟨ci,hci,hcil,hcin⟩:=w7 (s:=s) (f:=f) c1 c2
 have Yz:(ci:Int)<s.classes.length:=by omega
 have YA:(0:Int)<=ci:=Int.natCast_nonneg ci
 obtain⟨a,ha⟩:∃a:Nat,f.a=a:=⟨f.a.toNat,by omega⟩
 have hal:a<=(aW s f).steps.length:=by omega
 have abc:(a:Int)<=(aW s f).steps.length:=by omega
 have ha0:(0:Int)<=a:=Int.natCast_nonneg a
 have hcm:aW s f∈s.classes:=by
  unfold aW;rw[List.getD_eq_getElem?_getD,List.getElem?_eq_getElem (by omega)];exact List.getElem_mem _
 have hcg:=hg.cls _ hcm
 have h12:=hcg.l12
 have hfU:∀i,frU s i f=bal ((aW s f).steps.take a) i 0:=fun i=>by unfold frU;rw[ha,Int.toNat_natCast]
 have hfL:∀i,frL s i f=bal ((aW s f).steps.take a) i 1:=fun i=>by unfold frL;rw[ha,Int.toNat_natCast]
 have hfE:∀i,frE s i f=if ci=i/\(aW s f).server=true then 1 else 0:=fun i=>by
  unfold frE;rw[hci];simp only[Int.natCast_inj]
 generalize hL1:L0++l.take j=L1 at *
 clear hcl
 simp only[go_sem,hj2,hj0,re,hn2,frD,hfl,hci,Yz,YA,hcil,hcin,bf,List.length_map]
 generalize hK:andThen Tryz.prog (tbl []) _ _=Q
 have hcl:∀σ σ',Le σ σ'->Q .normal σ'->Q .normal σ:=by
  subst hK
  intro σ σ' h1 h2
  exact av h1 h2
 suffices hQ1:Q .normal ⟨an 118 [(2,.ptr 0 0 0),(3,.ptr 1 0 0),(4,.ptr 2 0 0),(5,.ptr 6 0 0),(26,.dat (.sl none (aG x))),(27,.dat (.int .i64 x.length)),(28,.dat (.int .i64 k)),(32,.dat (.sl (some 2) (ed l))),(33,.dat (.int .i64 l.length)),(34,.dat (.int .i64 j)),(9,.ptr 7 0 0)],[jO s,stO x,.box [.nils,.nils,.nils],.row none (aA (dE s.pools.length (gU s L1 []))),.row none (aA (dE s.locks.length (gL s L1 []))),.row none (aA (dE s.classes.length fun i=>bP (frE s i) (L1++[f]))),.box [.sl 3 0 s.pools.length,.sl 4 0 s.locks.length,.sl 5 0 s.classes.length],.box [.dat (.int .i64 ci),.dat (.int .i64 f.a)]],0,[]⟩ by
  cases hsv:(aW s f).server with
  | false =>
   have he:dE s.classes.length (fun i=>bP (frE s i) (L1++[f]))=dE s.classes.length fun i=>bP (frE s i) L1:=cj fun i _=>by
    rw[eu,hfE,hsv];simp
   simp only[go_sem]
   rw[← he]
   exact hcl _ _ (a7 (by simp only[go_sem])) hQ1
  | true =>
   have acp:ci<(dE s.classes.length fun i=>bP (frE s i) L1).length:=by rw[gQ];exact hcil
   have ht:=(RX ci).2.2
   simp only[go_sem,gQ,Yz,YA,hcil,eg]
   have he:(aA (dE s.classes.length fun i=>bP (frE s i) L1)).set ci (.int .i64 (bP (frE s ci) L1+1))=aA (dE s.classes.length fun i=>bP (frE s i) (L1++[f])):=hZ hcil (by rw[eu,hfE,hsv];simp) (fun i _ hi=>by rw[eu,hfE,if_neg (fun h=>hi h.1.symm)];omega)
   refine⟨ac.2 (by omega),?_⟩
   rw[he]
   exact hcl _ _ (a7 (by simp only[go_sem])) hQ1
 subst hK
 clear hcl
 simp only[go_sem]
 refine cW [] [] (pf:=[]) (mf:=[]) mixed ae b0 fQ (il [0,1,2,3,4,5,6,7,8,9,10,11]) (by kernel_rfl) ?_
 have hT:=hcg.steps hg
 have dG:=hcg.pre
 have htl:((aW s f).steps.take a).length=a:=by rw[List.length_take];omega
 have EE:∀y∈(aW s f).steps.take a,y∈(aW s f).steps:=fun y hy=>List.mem_of_mem_take hy
 have haL:((aW s f).steps.map ar).length=(aW s f).steps.length:=by simp
 simp only[go_sem,Yz,YA,hcil,hcin,bf,bD,haL,ha,ha0,hal,abc,List.length_map,List.drop_zero,Int.sub_zero,Int.toNat_natCast,← List.map_take,htl]
 generalize hst:(aW s f).steps.take a=st at *
 refine ap (fun m:Nat=>⟨an 118 [(2,.ptr 0 0 0),(3,.ptr 1 0 0),(4,.ptr 2 0 0),(5,.ptr 6 0 0),(26,.dat (.sl none (aG x))),(27,.dat (.int .i64 x.length)),(28,.dat (.int .i64 k)),(32,.dat (.sl (some 2) (ed l))),(33,.dat (.int .i64 l.length)),(34,.dat (.int .i64 j)),(62,.dat (.sl (some 4) (st.map ar))),(63,.dat (.int .i64 a)),(64,.dat (.int .i64 m))],[jO s,stO x,.box [.nils,.nils,.nils],.row none (aA (dE s.pools.length (gU s L1 (st.take m)))),.row none (aA (dE s.locks.length (gL s L1 (st.take m)))),.row none (aA (dE s.classes.length fun i=>bP (frE s i) (L1++[f]))),.box [.sl 3 0 s.pools.length,.sl 4 0 s.locks.length,.sl 5 0 s.classes.length]],0,[]⟩)
  (fun m=>m<=st.length) (fun m=>st.length - m) 0 (Nat.zero_le _) ?_ ?_
 ·refine aP (own:=[_,_,_,_,_,_,_]) (ex:=[_]) (Nat.zero_le _) ?_ ?_ ?_
  ·simp only[go_sem,Int.natCast_zero,List.take_zero]
  ·simp only[go_sem,List.take_zero]
  ·simp only[go_sem,Obj.under,AV.unders,AV.under]
 rintro m hm
 refine a6 (Γ:=tbl []) ae _ _ _ ?_
 cases hd3:st.drop m with
 | nil =>
  obtain rfl:m=st.length:=aj hd3 hm
  have hm2:¬(a:Int)<a:=by omega
  rw[List.take_length,htl]
  have hu:dE s.pools.length (gU s L1 st)=dE s.pools.length (gU s (L1++[f]) []):=cj fun i _=>by rw[DS,gU,eu,hfU]
  have hv:dE s.locks.length (gL s L1 st)=dE s.locks.length (gL s (L1++[f]) []):=cj fun i _=>by rw[By,gL,eu,hfL]
  rw[hu,hv]
  simp only[go_sem,hm2]
  refine⟨ac.2 (by omega),j+1,by omega,by omega,?_⟩
  try simp only[own]
  rw[Yy]
  exact a7 (by simp only[go_sem,Int.natCast_add,Int.cast_ofNat_Int])
 | cons y r3 =>
 have RW:=ao hd3
 have hm2:(m:Int)<a:=by omega
 have hm3:m<a:=by omega
 have hm0:(0:Int)<=m:=Int.natCast_nonneg m
 have hn3:=ak (f:=ar) hd3
 have hym:=EE y (aN hd3)
 have hyT:=hT y hym
 have abd:st.take (m+1)=st.take m++[y]:=aC hd3
 obtain⟨⟨k1,k2⟩,⟨o1,o2⟩,hc,hc0⟩:=dy (dG y hym)
 have hbT:KG (st.take m):=fun q hq=>hT q (EE q (List.mem_of_mem_take hq))
 have hbl:(st.take m).length<=12:=by rw[List.length_take];omega
 have hgb:∀i:Nat,(-200000000000<=gU s L1 (st.take m) i/\gU s L1 (st.take m) i<=200000000000)/\(-200000000000<=gL s L1 (st.take m) i/\gL s L1 (st.take m) i<=200000000000):=fun i=>by
  have h1:=RX i
  have h2:=xZ (st.take m) i 0 0 hbT
  have h3:=xZ (st.take m) i 1 0 hbT
  unfold gU gL bal
  omega
 obtain⟨kind,on,cnt,deep⟩:=y
 simp only at k1 k2 o1 o2 hc hc0 hyT
 unfold cD at o2
 obtain⟨q,rfl⟩:∃q:Nat,on=q:=⟨on.toNat,by omega⟩
 have hq0:(0:Int)<=q:=Int.natCast_nonneg q
 have hk5:kind=1∨kind=2∨kind=3∨kind=4∨kind=5:=by omega
 have fin:∀{sl:List AV} {ex:List Obj},bZ sl (an 118 [(2,.ptr 0 0 0),(3,.ptr 1 0 0),(4,.ptr 2 0 0),(5,.ptr 6 0 0),(26,.dat (.sl none (aG x))),(27,.dat (.int .i64 x.length)),(28,.dat (.int .i64 k)),(32,.dat (.sl (some 2) (ed l))),(33,.dat (.int .i64 l.length)),(34,.dat (.int .i64 j)),(62,.dat (.sl (some 4) (st.map ar))),(63,.dat (.int .i64 a)),(64,.dat (.int .i64 (m+1:Nat)))]) ->
   ∃z:Nat,z<=a/\a - z<a - m/\Le ⟨sl,[jO s,stO x,.box [.nils,.nils,.nils],.row none (aA (dE s.pools.length (gU s L1 (st.take m++[⟨kind,q,cnt,deep⟩])))),.row none (aA (dE s.locks.length (gL s L1 (st.take m++[⟨kind,q,cnt,deep⟩])))),.row none (aA (dE s.classes.length fun i=>bP (frE s i) (L1++[f]))),.box [.sl 3 0 s.pools.length,.sl 4 0 s.locks.length,.sl 5 0 s.classes.length]]++ex,0,[]⟩ ⟨an 118 [(2,.ptr 0 0 0),(3,.ptr 1 0 0),(4,.ptr 2 0 0),(5,.ptr 6 0 0),(26,.dat (.sl none (aG x))),(27,.dat (.int .i64 x.length)),(28,.dat (.int .i64 k)),(32,.dat (.sl (some 2) (ed l))),(33,.dat (.int .i64 l.length)),(34,.dat (.int .i64 j)),(62,.dat (.sl (some 4) (st.map ar))),(63,.dat (.int .i64 a)),(64,.dat (.int .i64 z))],[jO s,stO x,.box [.nils,.nils,.nils],.row none (aA (dE s.pools.length (gU s L1 (st.take z)))),.row none (aA (dE s.locks.length (gL s L1 (st.take z)))),.row none (aA (dE s.classes.length fun i=>bP (frE s i) (L1++[f]))),.box [.sl 3 0 s.pools.length,.sl 4 0 s.locks.length,.sl 5 0 s.classes.length]],0,[]⟩:=by
  intro sl ex hsl
  refine⟨m+1,by omega,by omega,?_⟩
  rw[abd]
  refine aP (own:=[_,_,_,_,_,_,_]) (ex:=ex) (Nat.zero_le _) hsl ?_ ?_
  ·simp only[go_sem]
  ·simp only[go_sem,Obj.under,AV.unders,AV.under]
 have sU:∀(i:Nat) (h:q≠i),gU s L1 (st.take m++[⟨kind,q,cnt,deep⟩]) i=gU s L1 (st.take m) i:=fun i h=>by rw[DL,if_neg (fun e=>h (by have e:(q:Int)=i:=e;omega))]
 have sL:∀(i:Nat) (h:q≠i),gL s L1 (st.take m++[⟨kind,q,cnt,deep⟩]) i=gL s L1 (st.take m) i:=fun i h=>by rw[Cl,if_neg (fun e=>h (by have e:(q:Int)=i:=e;omega))]
 have wU:gU s L1 (st.take m++[⟨kind,q,cnt,deep⟩]) q=if kind=1 then gU s L1 (st.take m) q+cnt else if kind=2 then gU s L1 (st.take m) q - cnt else gU s L1 (st.take m) q:=by rw[DL,if_pos rfl]
 have wL:gL s L1 (st.take m++[⟨kind,q,cnt,deep⟩]) q=if kind=3 then gL s L1 (st.take m) q+1 else if kind=4 then gL s L1 (st.take m) q - 1 else gL s L1 (st.take m) q:=by rw[Cl,if_pos rfl]
 have nU:kind≠1->kind≠2->dE s.pools.length (gU s L1 (st.take m++[⟨kind,q,cnt,deep⟩]))=dE s.pools.length (gU s L1 (st.take m)):=fun h1 h2=>cj fun i _=>by
  by_cases h:q=i
  ·subst h;rw[wU,if_neg h1,if_neg h2]
  ·exact sU i h
 have nL:kind≠3->kind≠4->dE s.locks.length (gL s L1 (st.take m++[⟨kind,q,cnt,deep⟩]))=dE s.locks.length (gL s L1 (st.take m)):=fun h1 h2=>cj fun i _=>by
  by_cases h:q=i
  ·subst h;rw[wL,if_neg h1,if_neg h2]
  ·exact sL i h
 have hgU:=(hgb q).1
 have hgL:=(hgb q).2
 rcases hk5 with rfl|rfl|rfl|rfl|rfl
 ·have hqp:(q:Int)<s.pools.length:=by simpa using o2
  have mz:q<s.pools.length:=by omega
  have dB:(aA (dE s.pools.length (gU s L1 (st.take m)))).set q (.int .i64 (gU s L1 (st.take m) q+cnt))=aA (dE s.pools.length (gU s L1 (st.take m++[⟨1,q,cnt,deep⟩]))):=hZ mz (by rw[wU];simp) (fun i _ h=>sU i (fun e=>h e.symm))
  simp only[go_sem,hm2,hm0,hm3,hn3,ar,htl]
  refine cW [] [] (pf:=[]) (mf:=[]) mixed ae b0 fQ (il [0,1,2,3,4,5,6,7,8,9,10]) (by kernel_rfl) ?_
  simp only[go_sem,gQ,hqp,mz,hq0,eg]
  refine⟨ac.2 (by omega),ac.2 (by omega),?_⟩
  rw[dB,← nL (by decide) (by decide)]
  exact fin (ex:=[_]) (by simp only[go_sem,Int.natCast_add,Int.cast_ofNat_Int])
 ·have hqp:(q:Int)<s.pools.length:=by simpa using o2
  have mz:q<s.pools.length:=by omega
  have dB:(aA (dE s.pools.length (gU s L1 (st.take m)))).set q (.int .i64 (gU s L1 (st.take m) q - cnt))=aA (dE s.pools.length (gU s L1 (st.take m++[⟨2,q,cnt,deep⟩]))):=hZ mz (by rw[wU];simp) (fun i _ h=>sU i (fun e=>h e.symm))
  simp only[go_sem,hm2,hm0,hm3,hn3,ar,htl]
  refine cW [] [] (pf:=[]) (mf:=[]) mixed ae b0 fQ (il [0,1,2,3,4,5,6,7,8,9,10]) (by kernel_rfl) ?_
  simp only[go_sem,gQ,hqp,mz,hq0,eg]
  refine⟨ac.2 (by omega),ac.2 (by omega),?_⟩
  rw[dB,← nL (by decide) (by decide)]
  exact fin (ex:=[_]) (by simp only[go_sem,Int.natCast_add,Int.cast_ofNat_Int])
 ·have hqp:(q:Int)<s.locks.length:=by simpa using o2
  have mz:q<s.locks.length:=by omega
  have dB:(aA (dE s.locks.length (gL s L1 (st.take m)))).set q (.int .i64 (gL s L1 (st.take m) q+1))=aA (dE s.locks.length (gL s L1 (st.take m++[⟨3,q,cnt,deep⟩]))):=hZ mz (by rw[wL];simp) (fun i _ h=>sL i (fun e=>h e.symm))
  simp only[go_sem,hm2,hm0,hm3,hn3,ar,htl,gQ,hqp,mz,hq0,eg]
  refine⟨ac.2 (by omega),ac.2 (by omega),?_⟩
  rw[dB,← nU (by decide) (by decide)]
  exact fin (ex:=[_]) (by simp only[go_sem,Int.natCast_add,Int.cast_ofNat_Int])
 ·have hqp:(q:Int)<s.locks.length:=by simpa using o2
  have mz:q<s.locks.length:=by omega
  have dB:(aA (dE s.locks.length (gL s L1 (st.take m)))).set q (.int .i64 (gL s L1 (st.take m) q - 1))=aA (dE s.locks.length (gL s L1 (st.take m++[⟨4,q,cnt,deep⟩]))):=hZ mz (by rw[wL];simp) (fun i _ h=>sL i (fun e=>h e.symm))
  simp only[go_sem,hm2,hm0,hm3,hn3,ar,htl,gQ,hqp,mz,hq0,eg]
  refine⟨ac.2 (by omega),ac.2 (by omega),?_⟩
  rw[dB,← nU (by decide) (by decide)]
  exact fin (ex:=[_]) (by simp only[go_sem,Int.natCast_add,Int.cast_ofNat_Int])
 ·simp only[go_sem,hm2,hm0,hm3,hn3,ar,htl]
  refine⟨ac.2 (by omega),?_⟩
  rw[← nU (by decide) (by decide),← nL (by decide) (by decide)]
  exact fin (ex:=[_]) (by simp only[go_sem,Int.natCast_add,Int.cast_ofNat_Int])
theorem lb(o:Nat):∀xs:List D,AV.kills o (xs.map .dat)=xs.map .dat
 | []=>rfl
 | x :: xs=>by rw[List.map_cons,AV.kills,lb o xs];rfl
theorem iR(xs:List D):(xs.map AV.dat).map AV.norm1=xs.map .dat:=by rw[List.map_map];rfl
theorem AG{k:Nat}{xs:List D}(h:xs.length=k):List.take k (xs.map AV.dat)=xs.map .dat:=List.take_of_length_le (by simp[h])
def stN(c:Nat):D:=eY [⟨c,0⟩]
theorem zV(W:List Nat):aG (W.map fun c:Nat=>[(⟨(c:Int),0⟩:PFr)])=W.map stN:=by simp[aG,stN]
theorem Fn(o:Nat)(ag:Option Nat)(xs:List D)(a b:List AV):AV.frzs o ag xs (a++b)=AV.frzs o ag xs a++AV.frzs o ag xs b:=by simp[mV]
def vH(ds:List D)(v:AV):Prop:=∃s:PSys,ds=[aY s]/\s.fit/\v=.tup [.dat (stD (if aT s=0 then mF s else [])),.dat (.int .i64 (aT s))]
abbrev GY:List (Nat×a8):=[(11,au iH),(54,au wkR)]
theorem sr:OkG Tryz.prog (tbl GY):=ai iX (ai zA ae)
theorem BW:OkF Tryz.prog 25 (au vH):=by
 refine az Tryz.func25 rfl (by decide) ?_
 rintro ds v ⟨s,rfl,hf,rfl⟩
 refine a6 (Γ:=tbl GY) sr _ _ _ ?_
 simp only[go_sem,Tryz.ntmps25,aY]
 refine ah iH (by simp) [aY s] _ rfl ⟨s,rfl,hf,rfl⟩ (.inl rfl) ?_
 by_cases he:aT s=0
 case neg =>
  rw[if_neg he]
  simp only[go_sem,he]
  refine aZ (.inl rfl) [.cell 2 82,.tmp 3] rfl ?_
  simp only[go_sem,stD,List.map_nil]
  exact bp (by simp only[go_sem]) (by simp only[go_sem])
 have hg:=eJ he
 rw[if_pos he]
 simp only[go_sem,he]
 refine ah wkR (by simp) [aY s] _ rfl ⟨s,rfl,hg,rfl⟩ (.inl rfl) ?_
 have hlen:=wX hg
 unfold mF stD
 rw[zV]
 generalize wkL s=W at *
 simp only[go_sem,ba]
 refine av (zw 2 0 rfl rfl (Nat.zero_le _)) ?_
 refine ap (fun k:Nat=>⟨an 31 [(1,.ptr 0 0 0),(2,.ptr 1 0 0),(3,.dat (.int .i64 0)),(5,.ptr 2 0 0),(15,.dat (.sl none (aF W))),(16,.dat (.int .i64 W.length)),(17,.dat (.int .i64 k))],[jO s,.box [.nils],.box [.sl 3 0 k],.vec (((W.take k).map stN).map .dat)],0,[]⟩)
  (fun k=>k<=W.length) (fun k=>W.length - k) 0 (Nat.zero_le _) ?_ ?_
 ·exact a7 (by simp only[go_sem,Int.natCast_zero])
 rintro k hk
 cases hd:W.drop k with
 | nil =>
  obtain rfl:k=W.length:=aj hd hk
  have hk2:¬(W.length:Int)<W.length:=by omega
  rw[List.take_length]
  refine av (gz 3 (ds:=W.map stN) rfl (iR _) (Nat.zero_le _)) ?_
  refine a6 (Γ:=tbl GY) sr _ _ _ ?_
  have hW:List.take W.length (W.map stN)=W.map stN:=List.take_of_length_le (by simp)
  simp only[go_sem,hk2]
  refine aZ (.inl rfl) [.cell 2 82,.tmp 3] rfl ?_
  simp only[go_sem,hW]
  exact bp (by simp only[go_sem]) (by simp only[go_sem])
 | cons c r =>
 have hlt:=ao hd
 have hk2:(k:Int)<W.length:=by omega
 have hk0:(0:Int)<=k:=Int.natCast_nonneg k
 have hn:D.nth (aF W) k=.int .i64 c:=ak hd
 have htk:W.take (k+1)=W.take k++[c]:=aC hd
 refine a6 (Γ:=tbl GY) sr _ _ _ ?_
 have htl:(W.take k).length=k:=by rw[List.length_take];omega
 have aan:((W.take k).map stN).length=k:=by rw[List.length_map,htl]
 simp only[go_sem,hk2,hk0,hlt,hn,ba,htl,aan,AG aan,uQ,lb]
 refine⟨by omega,by omega,ac.2 (by omega),k+1,by omega,by omega,?_⟩
 refine Le.trans (aq 4 (ag:=some 2) rfl (Nat.zero_le _)) ?_
 rw[htk,List.map_append,List.map_append]
 simp only[go_sem,Fn]
 refine aP (own:=[_,_,_,_]) (ex:=[_,_]) (Nat.zero_le _) ?_ ?_ ?_
 ·simp only[go_sem,Int.natCast_add,Int.cast_ofNat_Int]
 ·simp only[go_sem]
 ·simp only[go_sem,Obj.under,AV.unders,AV.under]
  exact qo (by rw[hH];trivial) (by simp only[AV.unders,AV.under,and_self])
def NL(ds:List D)(v:AV):Prop:=∃(s:PSys) (x:PSt) (w:Nat),ds=[aY s,stD x,.int .i64 w]/\w<x.length/\x.length<=1000/\0<(x.getD w []).length/\(x.getD w []).length<=1000/\gn s (me (x.getD w []))=true/\v=.dat (ar (sY s x w))
theorem qz8:OkF Tryz.prog 75 (au NL):=by
 refine az Tryz.func75 rfl (by decide) ?_
 rintro ds v ⟨s,x,w,rfl,hw,hxl,hl0,hl1,hfo,rfl⟩
 have hw1:(w:Int)<x.length:=by omega
 have hw0:(0:Int)<=w:=Int.natCast_nonneg w
 have sS:(aG x).length=x.length:=by simp
 have hn:D.nth (aG x) w=eY (x.getD w []):=D.nth_map hw
 unfold sY
 generalize x.getD w []=l at *
 have hlf:(ed l).length=l.length:=by simp
 have hq1:(l.length:Int) - 1=((l.length - 1:Nat):Int):=by omega
 have hq2:((l.length - 1:Nat):Int)<l.length:=by omega
 have hq3:l.length - 1<l.length:=by omega
 have hq4:(0:Int)<=((l.length - 1:Nat):Int):=Int.natCast_nonneg _
 have hqn:D.nth (ed l) (l.length - 1)=frD (me l):=D.nth_map hq3
 generalize me l=q at *
 obtain⟨d1,d2,d3,d4⟩:=bK.1 hfo
 obtain⟨j,hj,hjl,hjn⟩:=w7 (s:=s) (f:=q) d1 d2
 obtain⟨b,hb,hbl,hbn⟩:=FK (s:=s) (f:=q) d3 d4
 have hj2:(j:Int)<s.classes.length:=by omega
 have hj0:(0:Int)<=j:=Int.natCast_nonneg j
 have hb2:(b:Int)<(aW s q).steps.length:=by omega
 have hb0:(0:Int)<=b:=Int.natCast_nonneg b
 generalize b8 s q=x at *
 generalize aW s q=cq at *
 refine a6 (Γ:=tbl []) ae _ _ _ ?_
 simp only[go_sem,Tryz.ntmps75,aY,stD,hw1,hw0,hw,sS,hn,eY,hlf,hq1,hq2,hq3,hq4,hqn,frD]
 refine⟨ac.2 (by omega),?_⟩
 refine cW [] [] (pf:=[]) (mf:=[]) mixed ae b0 fQ (il [0,1,2,3,4,5,6,7,8,9,10,11]) (by kernel_rfl) ?_
 simp only[go_sem,hj,hj2,hj0,hjl,hjn,bf,bD,hb,hb2,hb0,hbl,hbn,ar,List.length_map]
 refine aZ (.inl rfl) [.cell 6 46] rfl ?_
 simp only[go_sem]
 exact bp (by simp only[go_sem]) (by simp only[go_sem])
def Ky(ds:List D)(v:AV):Prop:=∃(s:PSys) (L:List PFr) (x:PStep),ds=[aY s,Et s L,ar x]/\s.good/\(∀f∈L,gn s f=true)/\L.length<=1000000/\dd s x=0/\v=.dat (.bool (BB s L x))
theorem R6{s:PSys}{L:List PFr}{q:Nat}{cnt:Int}{deep:Bool}:BB s L ⟨1,q,cnt,deep⟩=((deep && decide (0<=(s.pools.getD q default).size - bP (frU s q) L - cnt)) || decide ((s.pools.getD q default).res<=(s.pools.getD q default).size - bP (frU s q) L - cnt)):=rfl
theorem OF{s:PSys}{L:List PFr}{q:Nat}{cnt:Int}{deep:Bool}:BB s L ⟨2,q,cnt,deep⟩=true:=rfl
theorem On{s:PSys}{L:List PFr}{q:Nat}{cnt:Int}{deep:Bool}:BB s L ⟨3,q,cnt,deep⟩=decide (bP (frL s q) L=0):=rfl
theorem OV{s:PSys}{L:List PFr}{q:Nat}{cnt:Int}{deep:Bool}:BB s L ⟨4,q,cnt,deep⟩=true:=rfl
theorem Pn{s:PSys}{L:List PFr}{q:Nat}{cnt:Int}{deep:Bool}:BB s L ⟨5,q,cnt,deep⟩=decide (bP (frE s q) L<(s.classes.getD q default).workers):=rfl
theorem wM:OkF Tryz.prog 74 (au Ky):=by
 refine az Tryz.func74 rfl (by decide) ?_
 rintro ds v ⟨s,L,x,rfl,hg,hL,hLl,hp,rfl⟩
 obtain⟨⟨k1,k2⟩,⟨o1,o2⟩,hc,hc0⟩:=dy hp
 have hcn:=ye hg.tame hp
 obtain⟨kind,on,cnt,deep⟩:=x
 simp only at k1 k2 o1 o2 hc hc0 hcn
 unfold cD at o2
 obtain⟨q,rfl⟩:∃q:Nat,on=q:=⟨on.toNat,by omega⟩
 have hq0:(0:Int)<=q:=Int.natCast_nonneg q
 have hk5:kind=1∨kind=2∨kind=3∨kind=4∨kind=5:=by omega
 have ht:=xr hg hL hLl q
 have hU:(I6 s L).length=s.pools.length:=by simp[I6]
 have hLk:(I3 s L).length=s.locks.length:=by simp[I3]
 have hE:(IX s L).length=s.classes.length:=by simp[IX]
 have hpl:(s.pools.map aK).length=s.pools.length:=by simp
 have hcl:(s.classes.map bf).length=s.classes.length:=by simp
 refine a6 (Γ:=tbl []) ae _ _ _ ?_
 rcases hk5 with rfl|rfl|rfl|rfl|rfl
 ·have hqp:(q:Int)<s.pools.length:=by simpa using o2
  have mz:q<s.pools.length:=by omega
  have hUn:D.nth (aA (I6 s L)) q=.int .i64 (bP (frU s q) L):=eg mz
  have hpn:D.nth (s.pools.map aK) q=aK (s.pools.getD q default):=D.nth_map mz
  have hpk:=hg.pool (s.pools.getD q default) (by rw[List.getD_eq_getElem?_getD,List.getElem?_eq_getElem mz];exact List.getElem_mem _)
  unfold PPool.bad at hpk
  rw[R6]
  generalize s.pools.getD q default=pk at hpn hpk ⊢
  have htU:=ht.1
  generalize bP (frU s q) L=U at hUn htU ⊢
  simp only[go_sem,Tryz.ntmps74,aY,Et,ar]
  refine cW [] [] (pf:=[]) (mf:=[]) mixed ae b0 fQ (il [0,1,2,3,4,5,6,7,8,9,10,11,12,13,14,15,16,17]) (by kernel_rfl) ?_
  simp only[go_sem,hqp,mz,hq0,hUn,hpn,hpl,bV,hU,aK]
  refine⟨ac.2 (by omega),ac.2 (by omega),?_⟩
  cases deep with
  | false =>
   simp only[go_sem,hqp,mz,hq0,hpn,hpl,aK]
   exact am (.inl rfl) [6] rfl trivial (by simp only[cM];rfl)
  | true =>
   by_cases h0:0<=pk.size - U - cnt
   ·simp only[go_sem,h0,hqp,mz,hq0,hpn,hpl,aK]
    exact am (.inl rfl) [6] rfl trivial (by simp only[cM];rfl)
   ·simp only[go_sem,h0,hqp,mz,hq0,hpn,hpl,aK]
    exact am (.inl rfl) [6] rfl trivial (by simp only[cM];rfl)
 ·rw[OF]
  simp only[go_sem,Tryz.ntmps74,aY,Et,ar]
  exact am (.inl rfl) [6] rfl trivial rfl
 ·have hqp:(q:Int)<s.locks.length:=by simpa using o2
  have mz:q<s.locks.length:=by omega
  have hUn:D.nth (aA (I3 s L)) q=.int .i64 (bP (frL s q) L):=eg mz
  rw[On]
  have htU:=ht.2.1
  generalize bP (frL s q) L=U at hUn htU ⊢
  simp only[go_sem,Tryz.ntmps74,aY,Et,ar,hqp,mz,hq0,hUn,bV,hLk]
  exact am (.inl rfl) [6] rfl trivial rfl
 ·rw[OV]
  simp only[go_sem,Tryz.ntmps74,aY,Et,ar]
  exact am (.inl rfl) [6] rfl trivial rfl
 ·have hqp:(q:Int)<s.classes.length:=by simpa using o2
  have mz:q<s.classes.length:=by omega
  have hUn:D.nth (aA (IX s L)) q=.int .i64 (bP (frE s q) L):=eg mz
  have hcn:D.nth (s.classes.map bf) q=bf (s.classes.getD q default):=D.nth_map mz
  rw[Pn]
  have htU:=ht.2.2
  generalize s.classes.getD q default=ck at hcn ⊢
  generalize bP (frE s q) L=U at hUn htU ⊢
  simp only[go_sem,Tryz.ntmps74,aY,Et,ar]
  refine cW [] [] (pf:=[]) (mf:=[]) mixed ae b0 fQ (il [0,1,2,3,4,5,6,7,8,9,10,11,12,13,14]) (by kernel_rfl) ?_
  simp only[go_sem,hqp,mz,hq0,hUn,hcn,hcl,bV,hE,bf,bD]
  exact am (.inl rfl) [6] rfl trivial rfl
def nr(s:PSys)(x:PStep):Bool :=
 if x.kind=3∨x.kind=5 then true else if x.kind=1 then
  decide ((s.pools.getD x.on.toNat default).size - (s.pools.getD x.on.toNat default).res<yg x.on false s.classes) && !(x.deep && decide (yg x.on true s.classes<=(s.pools.getD x.on.toNat default).res))
 else false
def Bw(ds:List D)(v:AV):Prop:=∃(s:PSys) (x:PStep),ds=[aY s,ar x]/\s.good/\dd s x=0/\v=.dat (.bool (nr s x))
theorem Gx:OkF Tryz.prog 47 (au Bw):=by
 refine az Tryz.func47 rfl (by decide) ?_
 rintro ds v ⟨s,x,rfl,hg,hp,rfl⟩
 have hok:OkG Tryz.prog (tbl [(71,au sq)]):=ai BI ae
 refine a6 (Γ:=tbl [(71,au sq)]) hok _ _ _ ?_
 generalize hv:nr s x=V
 have fin:∀s own (b c:Bool),b=c->s.getD 4 .top=.dat (.bool b)->post Tryz.prog Tryz.f47 (.dat (.bool c)) [] [] .ret ⟨s,own,0,[]⟩:=fun s own b c e h=>by
  subst e
  exact am (.inl rfl) [4] rfl trivial (by simp only[cM,h];rfl)
 obtain⟨⟨k1,k2⟩,⟨o1,o2⟩,hc,hc0⟩:=dy hp
 obtain⟨kind,on,cnt,deep⟩:=x
 simp only at *
 unfold nr at hv
 simp only at hv
 have hk:kind=1∨kind=2∨kind=3∨kind=4∨kind=5:=by omega
 rcases hk with rfl|rfl|rfl|rfl|rfl
 ·rw[if_neg (by omega),if_pos rfl]at hv
  simp only[go_sem,Tryz.ntmps47,aY,ar]
  refine ah sq (by simp) [aY s,.int .i64 on] _ rfl ⟨s,on,rfl,hg,rfl⟩ (.inl rfl) ?_
  obtain⟨i,rfl⟩:∃i:Nat,on=i:=⟨on.toNat,by omega⟩
  have hi:i<s.pools.length:=by simp[cD]at o2;omega
  have hi2:(i:Int)<s.pools.length:=by omega
  have hnp:D.nth (s.pools.map aK) i=aK (s.pools.getD i default):=D.nth_map hi
  rw[Int.toNat_natCast]at hv
  have hpb:=hg.pool (s.pools.getD i default) (by rw[List.getD_eq_getElem?_getD,List.getElem?_eq_getElem hi];exact List.getElem_mem hi)
  generalize s.pools.getD i default=p at *
  unfold PPool.bad at hpb
  simp only[go_sem,hi,hi2,hnp,aK]
  refine⟨ac.2 (by omega),?_⟩
  by_cases hA:p.size - p.res<yg i false s.classes
  ·rw[decide_eq_true hA,Bool.true_and]at hv
   cases deep with
   | true =>
    simp only[go_sem,hA]
    refine fin _ _ _ _ ?_ (by rfl)
    rw[← hv];simp
   | false =>
    simp only[go_sem,hA]
    refine fin _ _ _ _ ?_ (by rfl)
    rw[← hv];simp
  ·rw[decide_eq_false hA,Bool.false_and]at hv
   simp only[go_sem,hA]
   exact fin _ _ _ _ hv (by rfl)
 ·simp only[go_sem,Tryz.ntmps47,aY,ar]
  exact fin _ _ _ _ (by rw[← hv]) (by rfl)
 ·simp only[go_sem,Tryz.ntmps47,aY,ar]
  exact fin _ _ _ _ (by rw[← hv]) (by rfl)
 ·simp only[go_sem,Tryz.ntmps47,aY,ar]
  exact fin _ _ _ _ (by rw[← hv]) (by rfl)
 ·simp only[go_sem,Tryz.ntmps47,aY,ar]
  exact fin _ _ _ _ (by rw[← hv]) (by rfl)
def I1(s:PSys)(c k:Int):Prop:=c<0∨(s.classes.length:Int)<=c∨k<0∨((s.classes.getD c.toNat default).steps.length:Int)<=k
instance (s:PSys) (c k:Int):Decidable (I1 s c k):=by unfold I1;exact inferInstance
def Af(s:PSys)(l:List PStep):List Int:=(List.range s.pools.length).map fun i=>bal l (i:Nat) 0
def Aj(s:PSys)(l:List PStep):List Bool:=(List.range s.locks.length).map fun i=>decide (0<bal l (i:Nat) 1)
theorem JU{s:PSys}{l:List PStep}{h:Hold}(t:Tr s l h):h.units=Af s l/\h.locks=Aj s l:=by
 obtain⟨ul,ll,un,lo⟩:=t
 constructor
 ·refine List.ext_getElem (by simp[Af,ul]) fun i h1 h2=>?_
  have:=un i (by omega)
  rw[List.getD_eq_getElem?_getD,List.getElem?_eq_getElem h1]at this
  simpa [Af] using this
 ·refine List.ext_getElem (by simp[Aj,ll]) fun i h1 h2=>?_
  have:=lo i (by omega)
  rw[List.getD_eq_getElem?_getD,List.getElem?_eq_getElem h1]at this
  simp only[Option.getD_some]at this
  simp only[Aj,List.getElem_map,List.getElem_range]
  cases hb:h.locks[i] with
  | true=>have:=this.1.1 hb;rw[this];rfl
  | false =>
   rcases this.2 with h0|h0
   ·rw[h0];rfl
   ·rw[this.1.2 h0]at hb;cases hb
def uK(s:PSys)(c k:Int):AV :=
 if aT s≠0 then .tup [.dat (.sl none []),.dat (.sl none []),.dat (.int .i64 (aT s))] else
 if c<0∨(s.classes.length:Int)<=c∨k<0∨((s.classes.getD c.toNat default).steps.length:Int)<k then .tup [.dat (.sl none []),.dat (.sl none []),.dat (.int .i64 2)] else
 .tup [.dat (.sl none (aA (Af s ((s.classes.getD c.toNat default).steps.take k.toNat)))),.dat (.sl none (b6 (Aj s ((s.classes.getD c.toNat default).steps.take k.toNat)))),.dat (.int .i64 0)]
theorem Ly{s:PSys}{c k:Int}(h:aT s≠0):uK s c k=.tup [.dat (.sl none []),.dat (.sl none []),.dat (.int .i64 (aT s))]:=by unfold uK;rw[if_pos h]
theorem rh{s:PSys}{c k:Int}(h:aT s=0)(h2:c<0∨(s.classes.length:Int)<=c∨k<0∨((s.classes.getD c.toNat default).steps.length:Int)<k):uK s c k=.tup [.dat (.sl none []),.dat (.sl none []),.dat (.int .i64 2)]:=by
 unfold uK;rw[if_neg (by rw[h];decide),if_pos h2]
theorem Bb{s:PSys}{c k:Nat}(h:aT s=0)(hc:c<s.classes.length)(hk:k<=(s.classes.getD c default).steps.length) :
  uK s c k=.tup [.dat (.sl none (aA (Af s ((s.classes.getD c default).steps.take k)))),.dat (.sl none (b6 (Aj s ((s.classes.getD c default).steps.take k)))),.dat (.int .i64 0)]:=by
 unfold uK;rw[if_neg (by rw[h];decide),if_neg (by rw[Int.toNat_natCast];omega),Int.toNat_natCast,Int.toNat_natCast]
def Ku(ds:List D)(v:AV):Prop:=∃(s:PSys) (c k:Int),ds=[aY s,.int .i64 c,.int .i64 k]/\s.fit/\v=uK s c k
abbrev JT:List (Nat×a8):=[(11,au iH),(59,fk uG),(60,z8 (cr vd))]
theorem rW:OkG Tryz.prog (tbl JT):=ai iX (ai xz (ai (sF y0) ae))
theorem LP:OkF Tryz.prog 72 (au Ku):=by
 refine az Tryz.func72 rfl (by decide) ?_
 rintro ds v ⟨s,c,k,rfl,hf,rfl⟩
 refine a6 (Γ:=tbl JT) rW _ _ _ ?_
 generalize hv:uK s c k=V
 have nilE:∀s own e,s.getD 6 .top=.nils->s.getD 7 .top=.nils->s.getD 8 .top=.dat (.int .i64 e)->post Tryz.prog Tryz.f72 (.tup [.dat (.sl none []),.dat (.sl none []),.dat (.int .i64 e)]) [] [] .ret ⟨s,own,0,[]⟩:=fun s own e h6 h7 h8=>by
  refine aZ (.inl rfl) [.tmp 6,.tmp 7,.tmp 8] rfl ?_
  simp only[go_sem,h6,h7,h8]
  exact bp (by simp only[go_sem]) (by simp only[go_sem])
 simp only[go_sem,Tryz.ntmps72,aY]
 refine ah iH (by simp) [aY s] _ rfl ⟨s,rfl,hf,rfl⟩ (.inl rfl) ?_
 by_cases h:aT s=0
 case neg =>
  simp only[go_sem,h]
  rw[← hv,Ly h]
  exact nilE _ _ _ (by rfl) (by rfl) (by rfl)
 simp only[go_sem,h]
 by_cases h1:c<0
 ·rw[← hv,rh h (.inl h1)]
  simp only[go_sem,h1]
  exact nilE _ _ _ (by rfl) (by rfl) (by rfl)
 by_cases h2:(s.classes.length:Int)<=c
 ·rw[← hv,rh h (.inr (.inl h2))]
  simp only[go_sem,h1,h2]
  exact nilE _ _ _ (by rfl) (by rfl) (by rfl)
 by_cases h3:k<0
 ·rw[← hv,rh h (.inr (.inr (.inl h3)))]
  simp only[go_sem,h1,h2,h3]
  exact nilE _ _ _ (by rfl) (by rfl) (by rfl)
 obtain⟨i,rfl⟩:∃i:Nat,c=i:=⟨c.toNat,by omega⟩
 obtain⟨j,rfl⟩:∃j:Nat,k=j:=⟨k.toNat,by omega⟩
 have hi:i<s.classes.length:=by omega
 have hi2:(i:Int)<s.classes.length:=by omega
 have hnc:D.nth (s.classes.map bf) i=bf (s.classes.getD i default):=D.nth_map hi
 have hcm:s.classes.getD i default∈s.classes:=by rw[List.getD_eq_getElem?_getD,List.getElem?_eq_getElem hi];exact List.getElem_mem hi
 have hcg:=(eJ h).cls _ hcm
 have hv2:=fun h4=>rh (s:=s) (c:=i) (k:=j) h (.inr (.inr (.inr h4)))
 have hv3:=Bb (k:=j) h hi
 rw[Int.toNat_natCast]at hv2
 generalize s.classes.getD i default=c at *
 simp only[go_sem,h1,h2,h3,hi2,hi,hnc,bf,bD]
 by_cases h4:(c.steps.length:Int)<j
 ·rw[← hv,hv2 h4]
  simp only[go_sem,h4]
  exact nilE _ _ _ (by rfl) (by rfl) (by rfl)
 have hj:j<=c.steps.length:=by omega
 have hj2:(j:Int)<=c.steps.length:=by omega
 have hV:=hv3 hj
 rw[hV]at hv
 subst hv
 simp only[go_sem,h4]
 refine co uG (by simp) _ _ _ rfl rfl ⟨s,rfl,hf.small,rfl,rfl⟩ ?_
 have htk:List.take j (c.steps.map ar)=(c.steps.take j).map ar:=by simp[List.map_take]
 have hlt:(c.steps.take j).length=j:=by simp;omega
 simp only[go_sem,AV.shift,Obj.shift,AV.shifts,hi,hi2,hnc,bf,bD,hj2,Int.sub_zero,List.length_map,htk,hlt]
 have hnp:(fZ s).units.length=s.pools.length:=by simp[fZ,fO]
 have hnl:(fZ s).locks.length=s.locks.length:=by simp[fZ,ie]
 have hsm:=hf.small
 have abe:=hcg.l12
 refine ap (fun p:Nat×Hold=>⟨an 65 [(3,.ptr 0 0 0),(10,.ptr 3 0 0),(51,.dat (.sl (some 4) ((c.steps.take j).map ar))),(52,.dat (.int .i64 j)),(53,.dat (.int .i64 p.1))],
   [jO s,.row none (aA p.2.units),.row none (b6 p.2.locks),.box [.sl 1 0 p.2.units.length,.sl 2 0 p.2.locks.length]],0,[]⟩)
  (fun p=>p.1<=j/\Tr s (c.steps.take p.1) p.2/\xi (uY s (c.steps.drop p.1) p.2)=0/\(∀n∈p.2.units,-(1000*(p.1:Int))<=n/\n<=1000*(p.1:Int))) (fun p=>j - p.1) (0,fZ s) ⟨Nat.zero_le _,J1 _,hcg.run,by simp[fZ,fO]⟩ ?_ ?_
 ·simp only[hnp,hnl]
  exact a7 (by simp only[go_sem,Int.natCast_zero])
 ·rintro ⟨m,h⟩ ⟨hm,hT,hI,hbd⟩
  simp only at hm hT hI hbd
  refine a6 (Γ:=tbl JT) rW _ _ _ ?_
  have hu:=hT.ul
  have hb:=hT.ll
  by_cases hmj:m<j
  ·have hmc:m<c.steps.length:=by omega
   have hd:c.steps.drop m=c.steps[m] :: c.steps.drop (m+1):=List.drop_eq_getElem_cons hmc
   have hk2:(m:Int)<j:=by omega
   have hk0:(0:Int)<=m:=Int.natCast_nonneg m
   have hn:D.nth ((c.steps.take j).map ar) m=ar c.steps[m]:=by
    have:(c.steps.take j).drop m=c.steps[m] :: (c.steps.take j).drop (m+1):=by
     rw[List.drop_eq_getElem_cons (by rw[hlt];exact hmj)];simp
    exact ak (f:=ar) this
   have hx0:fe s h.units h.locks c.steps[m]=0:=by
    rw[hd]at hI
    apply Classical.byContradiction;intro he
    rw[jW he]at hI;exact he hI
   have hI2:=hI
   rw[hd,rM hx0]at hI2
   have htr:=CP hT hx0
   rw[← aC hd]at htr
   generalize c.steps[m]=x at *
   obtain⟨u,b⟩:=h
   simp only at hu hb hbd hx0 hI2 htr
   simp only[go_sem,hk2,hk0,hn,hmj,hlt,ar]
   refine l4 vd (by simp) [3,1,2] ⟨s,x,u,b,hu,hb,(eJ ‹_›).tame,fun n hn=>by have:=hbd n hn;omega,rfl,rfl,rfl,rfl,rfl,rfl⟩ (by decide) (by simp) rfl rfl rfl (by simp only[go_sem,AV.unders,AV.under]) ?_ ?_ ?_
   ·simp only[ii,List.mem_cons,List.mem_nil_iff,or_false,forall_eq_or_imp,forall_eq];exact⟨by simp only[Obj.under,AV.unders,AV.under];decide,trivial,trivial⟩
   ·intro j hj
    rcases j with _|_|_|j
    ·rfl
    ·rfl
    ·rfl
    ·simp at hj;omega
   simp only[go_sem,hx0]
   refine⟨ac.2 (by omega),(m+1,⟨eL s u x,fq s b x⟩),⟨by simp only;omega,htr,hI2,fun n hn=>?_⟩,by simp only;omega,?_⟩
   ·have:=og (eJ ‹_›).tame (b:=1000*(m:Int)) hbd (by omega) n hn
    simp only
    omega
   ·simp only[ii,dv,emb,AV.ren,AV.rens,Obj.ren]
    refine aP (own:=[_,_,_,_]) (ex:=[_]) (Nat.zero_le _) ?_ ?_ ?_
    ·simp only[go_sem,Int.natCast_add,Int.cast_ofNat_Int]
    ·simp only[go_sem,kp,kJ]
    ·simp only[go_sem,Obj.under,AV.unders,AV.under]
     decide
  ·obtain rfl:m=j:=by omega
   have hk2:¬(m:Int)<m:=by omega
   obtain⟨e1,e2⟩:=JU hT
   rw[← e1,← e2]
   simp only[go_sem,hk2]
   refine dl (pf:=[]) mixed rW b0 [0,1,2,3,4,5,6] (by kernel_rfl) ?_
   simp only[go_sem,bl]
   refine aZ (.inl rfl) [.tmp 6,.tmp 7,.tmp 8] rfl ?_
   simp only[go_sem]
   refine Le.trans (aq 1 (ag:=none) rfl (Nat.zero_le _)) ?_
   refine Le.trans (aq 2 (ag:=none) rfl (Nat.zero_le _)) ?_
   have t1:List.take h.units.length (aA h.units)=aA h.units:=List.take_of_length_le (by simp)
   have t2:List.take h.locks.length (b6 h.locks)=b6 h.locks:=List.take_of_length_le (by simp)
   simp only[go_sem,t1,t2]
   exact bp (by simp only[go_sem]) (by simp only[go_sem])
theorem rT(s:PSys)(l:List PStep):(Af s l).length=s.pools.length:=by simp[Af]
theorem s7(s:PSys)(l:List PStep):(Aj s l).length=s.locks.length:=by simp[Aj]
def dR(s:PSys)(x:PStep):Int:=if x.kind=3 then s.pools.length+x.on else if x.kind=5 then (s.pools.length:Int)+s.locks.length+x.on else x.on
def vQ(ds:List D)(v:AV):Prop:=∃(s:PSys) (x:PStep),ds=[aY s,ar x]/\s.good/\dd s x=0/\v=.dat (.int .i64 (dR s x))
theorem vS:OkF Tryz.prog 48 (au vQ):=by
 refine az Tryz.func48 rfl (by decide) ?_
 rintro ds v ⟨s,x,rfl,hg,hp,rfl⟩
 refine a6 (Γ:=tbl []) ae _ _ _ ?_
 generalize hv:dR s x=V
 have fin:∀s own (b c:Int),b=c->s.getD 4 .top=.dat (.int .i64 b)->post Tryz.prog Tryz.f48 (.dat (.int .i64 c)) [] [] .ret ⟨s,own,0,[]⟩:=fun s own b c e h=>by
  subst e
  exact am (.inl rfl) [4] rfl trivial (by simp only[cM,h];rfl)
 obtain⟨⟨k1,k2⟩,⟨o1,o2⟩,hc,hc0⟩:=dy hp
 obtain⟨kind,on,cnt,deep⟩:=x
 have hnp:=hg.np
 have hnl:=hg.nl
 have hnc:=hg.nc
 unfold cD at o2
 simp only at *
 unfold dR at hv
 simp only at hv
 by_cases h3:kind=3
 ·subst h3
  rw[if_pos rfl]at hv
  rw[if_pos (.inl rfl)]at o2
  simp only[go_sem,Tryz.ntmps48,aY,ar]
  refine⟨ac.2 (by omega),?_⟩
  exact fin _ _ _ _ hv (by rfl)
 by_cases h5:kind=5
 ·subst h5
  rw[if_neg h3,if_pos rfl]at hv
  rw[if_neg (by omega),if_pos rfl]at o2
  simp only[go_sem,Tryz.ntmps48,aY,ar,h3]
  refine⟨ac.2 (by omega),ac.2 (by omega),?_⟩
  exact fin _ _ _ _ hv (by rfl)
 rw[if_neg h3,if_neg h5]at hv
 simp only[go_sem,Tryz.ntmps48,aY,ar,h3,h5]
 exact fin _ _ _ _ hv (by rfl)
end Go.AM

