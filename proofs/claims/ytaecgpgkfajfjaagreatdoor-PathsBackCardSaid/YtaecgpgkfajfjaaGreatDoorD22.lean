/- Own work over the model of the kit. -/
import Derived.Test.YtaecgpgkfajfjaaGreatDoorD21
import Derived.Test.YtaecgpgkfajfjaaGreatDoorD19
import Derived.Test.YtaecgpgkfajfjaaGreatDoorD15
import Derived.Test.YtaecgpgkfajfjaaGreatDoorD18
import Derived.Test.YtaecgpgkfajfjaaGreatDoorD9
import Derived.Test.YtaecgpgkfajfjaaGreatDoorD6
import Derived.KernelRfl
set_option linter.unnecessarySimpa false
set_option linter.unusedSimpArgs false
set_option linter.unusedVariables false
set_option maxHeartbeats 8000000
set_option maxRecDepth 8000
namespace Go.AM
private theorem eqk {α:Sort _} {a b:α} (h:a=b):a=b:=Eq.trans h (Eq.refl _)
open Go Go.Proofs
theorem le_addrow{s:List AV}{own:List Obj}{n0:Nat}{mv:List Nat}(ag:Option Nat)(h0:n0<=own.length):Le ⟨s,own,n0,mv⟩ ⟨s,own++[.row ag []],n0,mv⟩:=by
 rintro c a w ⟨hd,hn,F,φ,h2,h3,h4⟩
 let L:Loc:=⟨true,0,0,0,es ag⟩
 have hmono:=ext_old h3 L
 have h4':=AV.Rs_mono (fun _ h=>h) (Same.refl F w) hmono _ _ h4
 have h5:=h3.new (L:=L) (obj:=Obj.row ag []) (Nat.le_refl _) (fun _ _=>rfl) (fun hn'=>by cases hn') (by simp only[ObjR];exact⟨rfl,.inl ⟨rfl,trivial⟩⟩)
 refine⟨hd,hn,F,ext φ own.length L,⟨h2.sub,h2.ext,fun o L' hlt hm h=>hmono o L' (h2.keep o L' hlt hm h),h2.rest,fun o L' ho' hn'=>?_,h2.frsh⟩,h5,h4'⟩
 unfold ext at ho'
 split at ho'
 ·cases ho';cases hn'
 ·exact h2.orig o L' ho' hn'
def stp(s:PSys)(i:Nat):List PStep:=(s.classes.getD i default).steps
def cellK(o:Nat)(s:PSys)(cur i:Nat):AV:=if i=cur then .sl o 0 (stp s cur).length else if stp s i=[] then .nils else .dat (stepsD (stp s i))
def cellF(s:PSys)(i:Nat):AV:=if stp s i=[] then .nils else .dat (stepsD (stp s i))
theorem cellK_ok(s:PSys)(cur i:Nat):CellOk (cellK 1 s cur i):=by
 unfold cellK
 split
 ·exact .inr (.inr ⟨_,rfl⟩)
 split
 ·exact .inl rfl
 ·exact .inr (.inl ⟨_,rfl⟩)
theorem cellK_ren(g:Nat->Nat)(o:Nat)(s:PSys)(cur i:Nat):AV.ren g (cellK o s cur i)=cellK (g o) s cur i:=by
 unfold cellK
 split
 ·rfl
 split <;> rfl
theorem cellK_under{o n:Nat}(h:o<n)(s:PSys)(cur i:Nat):(cellK o s cur i).under n:=by
 unfold cellK
 split
 ·exact h
 split <;> trivial
theorem tabC_congr{f g:Nat->AV}:∀(l:List PCls) (i:Nat),(∀j,j<l.length->f (i+j)=g (i+j))->tabC f i l=tabC g i l
 | [],_,_=>rfl
 | c :: r,i,h=>by
  have h0:=h 0 (by simp)
  simp only[Nat.add_zero]at h0
  simp only[tabC,h0]
  have ih:tabC f (i+1) r=tabC g (i+1) r:=by
   refine tabC_congr r (i+1) fun j hj=>?_
   have h1:=h (j+1) (Nat.succ_lt_succ hj)
   rwa [show i+(j+1)=i+1+j by omega]at h1
  rw[ih]
theorem tabC_bare{f:Nat->AV}:∀(l l':List PCls) (i:Nat),l.map bareC=l'.map bareC->tabC f i l=tabC f i l'
 | [],[],_,_=>rfl
 | [],_ :: _,_,h=>by simp at h
 | _ :: _,[],_,h=>by simp at h
 | c :: r,d :: q,i,h=>by
  simp only[List.map_cons,List.cons.injEq,bareC,PCls.mk.injEq]at h
  simp only[tabC,h.1.1,h.1.2.1,h.1.2.2.1]
  rw[tabC_bare r q (i+1) h.2]
theorem tabC_killsF(o:Nat)(f:Nat->AV):∀(l:List PCls) (i:Nat),AV.kills o (tabC f i l)=tabC (fun i=>AV.kill o (f i)) i l
 | [],_=>rfl
 | c :: r,i=>by simp only[tabC,AV.kills,AV.kill];rw[tabC_killsF o f r (i+1)]
theorem tabC_frzsF(o:Nat)(ag:Option Nat)(xs:List D)(f:Nat->AV):∀(l:List PCls) (i:Nat),AV.frzs o ag xs (tabC f i l)=tabC (fun i=>AV.frz o ag xs (f i)) i l
 | [],_=>rfl
 | c :: r,i=>by simp only[tabC,AV.frzs,AV.frz];rw[tabC_frzsF o ag xs f r (i+1)]
theorem tabC_set(f:Nat->AV)(x:AV):∀(l:List PCls) (i c:Nat),c<l.length->(tabC f i l).set (c*4+3) x=tabC (fun j=>if j=i+c then x else f j) i l
 | [],_,c,h=>by simp at h
 | a :: r,i,0,h=>by
  simp only[tabC,Nat.zero_mul,Nat.zero_add,List.set_cons_succ,List.set_cons_zero,Nat.add_zero,if_true]
  congr 4
  exact tabC_congr r (i+1) fun j hj=>by rw[if_neg (by omega)]
 | a :: r,i,c+1,h=>by
  simp only[List.length_cons]at h
  have e:(c+1)*4+3=(c*4+3)+1+1+1+1:=by omega
  simp only[tabC,e,List.set_cons_succ]
  rw[tabC_set f x r (i+1) c (by omega),if_neg (by omega)]
  congr 4
  exact tabC_congr r (i+1) fun j hj=>by simp only[show (i+1+j=i+1+c)=(i+1+j=i+(c+1)) from by rw[show i+1+c=i+(c+1) by omega]]
theorem tabC_underF{f:Nat->AV}{n:Nat}(h:∀i,(f i).under n):∀(l:List PCls) (i:Nat),AV.unders n (tabC f i l)
 | [],_=>by simp only[tabC,AV.unders]
 | c :: r,i=>by simp only[tabC,AV.unders,AV.under,true_and];exact⟨h i,tabC_underF h r (i+1)⟩
theorem tabC_cell(f:Nat->AV)(c:Nat)(l:List PCls)(h:c<l.length):(tabC f 0 l).getD (c*4+3) .top=f c:=by
 obtain⟨x,q,hq⟩:∃x q,l.drop c=x :: q:=by
  cases hd:l.drop c with
  | nil=>have:=List.drop_eq_nil_iff.1 hd;omega
  | cons x q=>exact⟨x,q,rfl⟩
 have:=tabC_at f l 0 c x q hq
 have h3:=congrArg (fun l=>l.getD 3 .top) this
 simp only[List.getD_cons_succ,List.getD_cons_zero,Nat.zero_add]at h3
 rw[← h3]
 simp only[List.getD_eq_getElem?_getD]
 rw[List.getElem?_take,if_pos (by decide),List.getElem?_drop]
theorem stp_out{s:PSys}{i:Nat}(h:s.classes.length<=i):stp s i=[]:=by
 unfold stp
 rw[List.getD_eq_getElem?_getD,List.getElem?_eq_none h];rfl
theorem addS_bare(s:PSys)(c:Nat)(x:PStep):(addS s c x).classes.map bareC=s.classes.map bareC:=by
 unfold addS
 apply List.ext_getElem?
 intro i
 simp only[List.getElem?_map,List.getElem?_set]
 by_cases h:c=i
 ·subst h
  by_cases hl:c<s.classes.length
  ·simp only[hl,if_true,Option.map_some]
   rw[List.getElem?_eq_getElem hl,List.getD_eq_getElem?_getD,List.getElem?_eq_getElem hl]
   rfl
  ·rw[List.getElem?_eq_none (by omega)];simp[hl]
 ·simp only[h,if_false]
theorem addS_stp(s:PSys)(c:Nat)(x:PStep)(h:c<s.classes.length)(i:Nat):stp (addS s c x) i=if i=c then stp s c++[x] else stp s i:=by
 unfold stp addS
 simp only
 rw[List.getD_eq_getElem?_getD,List.getElem?_set]
 by_cases e:c=i
 ·subst e
  simp only[if_true,h,Option.getD_some,addT]
 ·rw[if_neg e,if_neg (fun h=>e (Eq.symm h)),List.getD_eq_getElem?_getD]
theorem addS_len(s:PSys)(c:Nat)(x:PStep):(addS s c x).classes.length=s.classes.length:=by simp[addS]
theorem cells_freeze(o:Nat)(s:PSys)(cur:Nat)(h:cur<s.classes.length->stp s cur≠[]) :
  AV.frzs o (some 4) ((stp s cur).map stepD) (tabC (cellK o s cur) 0 s.classes)=tabC (cellF s) 0 s.classes:=by
 rw[tabC_frzsF]
 refine tabC_congr _ _ fun j hj=>?_
 rw[Nat.zero_add]
 unfold cellK cellF
 by_cases e:j=cur
 ·subst e
  rw[if_pos rfl,if_neg (h hj)]
  simp only[AV.frz,if_true,List.drop_zero]
  rw[List.take_of_length_le (by simp),if_pos (by simp)]
  rfl
 ·rw[if_neg e]
  split <;> rfl
theorem cells_new(o:Nat)(s:PSys)(c:Nat)(hc:c<s.classes.length)(h0:stp s c=[]):(tabC (cellF s) 0 s.classes).set (c*4+3) (.sl o 0 0)=tabC (cellK o s c) 0 s.classes:=by
 rw[tabC_set _ _ _ _ _ hc]
 refine tabC_congr _ _ fun j hj=>?_
 rw[Nat.zero_add,Nat.zero_add]
 unfold cellK cellF
 split
 ·rw[h0];rfl
 ·rfl
theorem cells_app(o:Nat)(s:PSys)(c:Nat)(x:PStep)(hc:c<s.classes.length) :
  (AV.kills o (tabC (cellK o s c) 0 s.classes)).set (c*4+3) (.sl o 0 ((stp s c).length+1))=tabC (cellK o (addS s c x) c) 0 (addS s c x).classes:=by
 rw[tabC_killsF,tabC_set _ _ _ _ _ hc,tabC_bare (addS s c x).classes s.classes 0 (addS_bare s c x)]
 refine tabC_congr _ _ fun j hj=>?_
 rw[Nat.zero_add,Nat.zero_add]
 unfold cellK
 rw[addS_stp s c x hc,addS_stp s c x hc,if_pos rfl]
 by_cases e:j=c
 ·rw[if_pos e,if_pos e];simp
 ·rw[if_neg e,if_neg e,if_neg e,if_neg e]
  split <;> rfl
theorem cells_end(s:PSys):∀(l:List PCls) (i:Nat),(∀j,j<l.length->stp s (i+j)=(l.getD j default).steps)->nds (tabC (cellF s) i l) ((l.map clsF).flatten.map .dat)
 | [],_,_=>trivial
 | c :: r,i,h=>by
  have h0:=h 0 (by simp)
  simp only[Nat.add_zero,List.getD_cons_zero]at h0
  simp only[tabC,List.map_cons,List.flatten_cons,clsF,List.cons_append,List.nil_append,nds]
  refine⟨.inl rfl,.inl rfl,.inl rfl,?_,cells_end s r (i+1) fun j hj=>by
   have h1:=h (j+1) (Nat.succ_lt_succ hj)
   rwa [show i+(j+1)=i+1+j by omega,List.getD_cons_succ]at h1⟩
  unfold cellF
  rw[h0]
  split
  ·rename_i he
   exact .inr ⟨rfl,some 4,by rw[he];rfl⟩
  ·exact .inl rfl
theorem cells_end0(s:PSys):nds (tabC (cellF s) 0 s.classes) ((s.classes.map clsF).flatten.map .dat):=cells_end s s.classes 0 fun j hj=>by rw[Nat.zero_add];rfl
theorem clsF_agg(l:List PCls):(l.map clsF).map D.agg=l.map clsD:=by rw[List.map_map];rfl
structure P2J (S:PSys) (us:List US) (R:(Int×Int) ⊕ PSys) (k:Nat) (s:PSys) (cur:Nat):Prop where
 run:pass2 (us.drop k) s=R
 num:k<=us.length
 hp:s.pools=S.pools
 hl:s.locks=S.locks
 hc:s.classes.length=S.classes.length
 cls:∀u∈us.drop k,1<=u.kind/\u.kind<=5/\u.cls<S.classes.length/\(u.cls=cur∨stp s u.cls=[])/\(cur=S.classes.length∨cur<=u.cls)
 srt:(us.drop k).Pairwise fun a b=>a.cls<=b.cls
 ne:cur<S.classes.length->stp s cur≠[]
 len:(stp s cur).length<=k
theorem P2J.next{S:PSys}{us:List US}{R:(Int×Int) ⊕ PSys}{k:Nat}{s:PSys}{cur:Nat}{u:US}{q:List US}(h:P2J S us R k s cur)(hd:us.drop k=u :: q)(hf:¬findE s u.kind u.name<0)(hlen:(stp s u.cls).length<=k) :
  P2J S us R (k+1) (addS s u.cls (u.step (findE s u.kind u.name))) u.cls:=by
 have hd1:=drop_cons hd
 have hlt:=lt_of_drop hd
 obtain⟨h1,h2,h3,h4,h5,h6,h7,h8,h9⟩:=h
 rw[hd]at h1 h6 h7
 rw[pass2,if_neg hf]at h1
 have hu:=h6 u (by simp)
 have hcl:u.cls<s.classes.length:=by rw[h5];exact hu.2.2.1
 obtain⟨hs1,hs2⟩:=List.pairwise_cons.1 h7
 refine⟨by rw[hd1];exact h1,by omega,h3,h4,(addS_len _ _ _).trans h5,?_,by rw[hd1];exact hs2,?_,?_⟩
 ·rw[hd1]
  intro v hv
  have h10:=h6 v (by simp[hv])
  have h11:=hs1 v hv
  refine⟨h10.1,h10.2.1,h10.2.2.1,?_,.inr h11⟩
  by_cases e:v.cls=u.cls
  ·exact .inl e
  ·refine .inr ?_
   rw[addS_stp _ _ _ hcl,if_neg e]
   rcases h10.2.2.2.1 with e2|e2
   ·have:=hu.2.2.2.2;have:=h10.2.2.1;omega
   ·exact e2
 ·intro _
  rw[addS_stp _ _ _ hcl,if_pos rfl]
  simp
 ·rw[addS_stp _ _ _ hcl,if_pos rfl,List.length_append,List.length_cons,List.length_nil]
  omega
end Go.AM
namespace Go.AM
open Go Go.Proofs
def scanR41(ds:List D)(v:AV):Prop:=∃L:List Str,ds=[.sl none (strsD L)]/\L.length<=100000/\(∀x∈L,x.length<=100000)/\v=.tup [.dat (.int .i64 (scanL (L.map pl41) 0 [] 0).1),.dat (.int .i64 (scanL (L.map pl41) 0 [] 0).2)]
abbrev tabSc:List (Nat×Contract):=[(46,dataC (strsR wordsW)),(47,dataC rignR),(48,dataC rkindR),(82,dataC rformR),(36,peekC beforeR)]
end Go.AM
namespace Go.AM
open Go Go.Proofs
def rdecR(ds:List D)(v:AV)(ob:List Obj):Prop:=∃L:List Str,ds=[.sl none (strsD L)]/\L.length<=100000/\(∀x∈L,x.length<=100000)/\(∀l∈L,pl41 l≠.bad) /\
 v=.agg [.sl 0 0 (declL (L.map pl41) sys0).pools.length,.sl 1 0 (declL (L.map pl41) sys0).locks.length,.sl 2 0 (declL (L.map pl41) sys0).classes.length] /\
 ob=[.row (some 3) ((declL (L.map pl41) sys0).pools.map poolD),.row none (strsD (declL (L.map pl41) sys0).locks),.tab 4 (tabC (fun _=>.nils) 0 (declL (L.map pl41) sys0).classes)]
abbrev tabDc:List (Nat×Contract):=[(46,dataC (strsR wordsW)),(47,dataC rignR),(48,dataC rkindR),(50,dataC numR)]
def decO(s:PSys):List Obj:=[.box [.nils,.nils,.nils],.box [.sl 2 0 s.pools.length,.sl 3 0 s.locks.length,.sl 4 0 s.classes.length],.row (some 3) (s.pools.map poolD),.row none (strsD s.locks),.tab 4 (tabC (fun _=>.nils) 0 s.classes)]
end Go.AM
namespace Go.AM
open Go Go.Proofs
def clsN:List PL->Nat
 | []=>0
 | .decl k _ _ _ :: r=>(if 3<=k then 1 else 0)+clsN r
 | .skip :: r=>clsN r
 | .bad :: r=>clsN r
 | .use _ _ _ _ :: r=>clsN r
structure P3J (S:PSys) (L:List PL) (R:(Int×Int) ⊕ PSys) (i c:Nat) (s:PSys) (cur:Nat):Prop where
 run:stepsL (L.drop i) i c s=R
 scn:∃dn,(scanL (L.drop i) i dn c).2=0
 num:c+clsN (L.drop i)=S.classes.length
 hp:s.pools=S.pools
 hl:s.locks=S.locks
 hc:s.classes.length=S.classes.length
 out:∀j,j≠cur->c<=j+1->stp s j=[]
 ne:cur<S.classes.length->stp s cur≠[]
 cl:cur=S.classes.length∨cur+1<=c
 len:(stp s cur).length<=i
theorem P3J.skip{S:PSys}{L:List PL}{R:(Int×Int) ⊕ PSys}{i c:Nat}{s:PSys}{cur:Nat}{r:List PL}(h:P3J S L R i c s cur)(hd:L.drop i=.skip :: r):P3J S L R (i+1) c s cur:=by
 obtain⟨h1,⟨dn,h2⟩,h3,h4,h5,h6,h7,h8,h9,h10⟩:=h
 have hd1:=drop_cons hd
 rw[hd]at h1 h2 h3
 simp only[stepsL,scanL,clsN]at h1 h2 h3
 exact⟨by rw[hd1];exact h1,⟨dn,by rw[hd1];exact h2⟩,by rw[hd1];exact h3,h4,h5,h6,h7,h8,h9,Nat.le_succ_of_le h10⟩
theorem P3J.decl{S:PSys}{L:List PL}{R:(Int×Int) ⊕ PSys}{i c:Nat}{s:PSys}{cur:Nat}{r:List PL}{k:Nat}{x:Str}{a b:Int}(h:P3J S L R i c s cur)(hd:L.drop i=.decl k x a b :: r):P3J S L R (i+1) (if 3<=k then c+1 else c) s cur:=by
 obtain⟨h1,⟨dn,h2⟩,h3,h4,h5,h6,h7,h8,h9,h10⟩:=h
 have hd1:=drop_cons hd
 rw[hd]at h1 h2 h3
 simp only[stepsL,scanL,clsN]at h1 h2 h3
 split at h2
 ·simp at h2
 refine⟨by rw[hd1];exact h1,⟨_,by rw[hd1];exact h2⟩,?_,h4,h5,h6,?_,h8,?_,Nat.le_succ_of_le h10⟩
 ·rw[hd1,← h3];split <;> omega
 ·intro j hj hc
  refine h7 j hj ?_
  split at hc <;> omega
 ·rcases h9 with h9|h9
  ·exact .inl h9
  ·refine .inr ?_
   split <;> omega
theorem P3J.use0{S:PSys}{L:List PL}{R:(Int×Int) ⊕ PSys}{i c:Nat}{s:PSys}{cur:Nat}{r:List PL}{k:Nat}{n:Int}{d:Bool}{x:Str}(h:P3J S L R i c s cur)(hd:L.drop i=.use k n d x :: r) :
  1<=c/\c - 1<s.classes.length/\(c - 1=cur∨stp s (c - 1)=[])/\(stp s (c - 1)).length<=i:=by
 obtain⟨h1,⟨dn,h2⟩,h3,h4,h5,h6,h7,h8,h9,h10⟩:=h
 rw[hd]at h2 h3
 simp only[scanL,clsN]at h2 h3
 split at h2
 ·simp at h2
 rename_i hc0
 have hc1:1<=c:=by omega
 have key:c - 1=cur∨stp s (c - 1)=[]:=by
  by_cases e:c - 1=cur
  ·exact .inl e
  ·exact .inr (h7 (c - 1) e (by omega))
 refine⟨hc1,by rw[h6];omega,key,?_⟩
 rcases key with e|e
 ·rw[e];exact h10
 ·rw[e];exact Nat.zero_le _
theorem P3J.use{S:PSys}{L:List PL}{R:(Int×Int) ⊕ PSys}{i c:Nat}{s:PSys}{cur:Nat}{r:List PL}{k:Nat}{n:Int}{d:Bool}{x:Str}(h:P3J S L R i c s cur)(hd:L.drop i=.use k n d x :: r)(hf:¬findE s k x<0) :
  P3J S L R (i+1) c (addS s (c - 1) ⟨k,findE s k x,n,d⟩) (c - 1):=by
 obtain⟨hc1,hlt,hkey,hlen⟩:=h.use0 hd
 obtain⟨h1,⟨dn,h2⟩,h3,h4,h5,h6,h7,h8,h9,h10⟩:=h
 have hd1:=drop_cons hd
 rw[hd]at h1 h2 h3
 simp only[stepsL,scanL,clsN]at h1 h2 h3
 rw[if_neg hf]at h1
 rw[if_neg (by omega)]at h2
 refine⟨by rw[hd1];exact h1,⟨_,by rw[hd1];exact h2⟩,by rw[hd1];exact h3,h4,h5,(addS_len _ _ _).trans h6,?_,?_,.inr (by omega),?_⟩
 ·intro j hj hc
  rw[addS_stp _ _ _ hlt,if_neg hj]
  by_cases e:j=cur
  ·subst e
   rcases h9 with h9|h9
   ·exact stp_out (by omega)
   ·omega
  ·exact h7 j e hc
 ·intro _
  rw[addS_stp _ _ _ hlt,if_pos rfl];simp
 ·rw[addS_stp _ _ _ hlt,if_pos rfl,List.length_append,List.length_cons,List.length_nil];omega
theorem P3J.bad{S:PSys}{L:List PL}{R:(Int×Int) ⊕ PSys}{i c:Nat}{s:PSys}{cur:Nat}{r:List PL}{k:Nat}{n:Int}{d:Bool}{x:Str}(h:P3J S L R i c s cur)(hd:L.drop i=.use k n d x :: r)(hf:findE s k x<0):R=.inl (((i+1:Nat):Int),5):=by
 have h1:=h.run
 rw[hd]at h1
 simp only[stepsL]at h1
 rw[if_pos hf]at h1
 exact h1.symm
end Go.AM
namespace Go.AM
open Go Go.Proofs
theorem rcheckB_ok:OkF Tryz.prog 16 (dataC chkBR):=by
 refine okF_data Tryz.func16 rfl (by decide) ?_
 rintro ds v ⟨s,rfl,hf,rfl⟩
 generalize hv:checkE s=V
 refine sem_of_awp (Γ:=tbl []) okG_nil _ _ _ ?_
 have fin:∀s own (b c:Int),b=c->s.getD 2 .top=.dat (.int .i64 b)->post Tryz.prog Tryz.f16 (.dat (.int .i64 c)) [] [] .ret ⟨s,own,0,[]⟩:=fun s own b c e h=>by
  subst e
  exact post_data (.inl rfl) [2] rfl trivial (by simp only[tmpsOf,h];rfl)
 unfold checkE at hv
 simp only[go_sem,Tryz.ntmps16,sysD]
 by_cases h1:6<(s.pools.length:Int)
 ·simp only[go_sem,h1]
  rw[if_pos (.inl h1)]at hv
  exact fin _ _ _ _ hv (by rfl)
 by_cases h2:4<(s.locks.length:Int)
 ·simp only[go_sem,h1,h2]
  rw[if_pos (.inr (.inl h2))]at hv
  exact fin _ _ _ _ hv (by rfl)
 by_cases h3:6<(s.classes.length:Int)
 ·simp only[go_sem,h1,h2,h3]
  rw[if_pos (.inr (.inr h3))]at hv
  exact fin _ _ _ _ hv (by rfl)
 exact absurd ⟨by omega,by omega,by omega⟩ hf
theorem rcheckA_ok:OkF Tryz.prog 16 (dataC chkAR):=by
 rintro args own v own' mv ⟨ds,h1,⟨s,rfl,rfl⟩,h2⟩
 by_cases hs:s.small
 ·exact rcheck_ok args own _ own' mv ⟨_,h1,⟨s,rfl,⟨hs⟩,rfl⟩,h2⟩
 ·exact rcheckB_ok args own _ own' mv ⟨_,h1,⟨s,rfl,hs,rfl⟩,h2⟩
abbrev tabRP:List (Nat×Contract):=[(43,dataC (strsR linesW)),(44,dataC scanR41),(45,madeC rdecR),(46,dataC (strsR wordsW)),(47,dataC rignR),(48,dataC rkindR),(49,peekC rfndR),(50,dataC numR),(16,dataC chkAR)]
end Go.AM
namespace Go.AM
open Go Go.Proofs
def stpTR(f:Str->Str)(ds:List D)(v:AV):Prop:=∃(s:PSys) (x:PStep),ds=[sysD s,stepD x]/\checkE s=0/\preE s x=0/\v=.dat (.str (f (stepT s x)))
abbrev lnT(t:Str):Str:=32 :: 32 :: t++[10]
abbrev tabFs:List (Nat×Contract):=[(53,dataC itoaR)]
theorem tabFs_ok:OkG Tryz.prog (tbl tabFs):=okG_cons itoa_ok okG_nil
theorem tabFs_dat(g:Nat)(C:Contract)(h:(g,C)∈tabFs):∃R,C=dataC R:=by
 simp only[tabFs,List.mem_singleton,Prod.mk.injEq]at h
 exact⟨_,h.2⟩
theorem pfFs:PureFns (tbl tabFs) [53]:=pure_of fun g C h _=>tabFs_dat g C h
theorem gfFs:GrowFns (tbl tabFs) [53]:=grow_of fun g C h _=>tabFs_dat g C h
theorem fstep_ok:OkF Tryz.prog 54 (dataC (stpTR (fun t=>t))):=by
 refine okF_data Tryz.func54 rfl (by decide) ?_
 rintro ds v ⟨s,x,rfl,hc,hp,rfl⟩
 have g:=goodS_of hc
 have fit:=st_fit g hp
 obtain⟨⟨k1,k5⟩,⟨on0,on1⟩,hcn,hc0⟩:=preE_0 hp
 have hnm:=(isNm_len fit.nm).2
 have hdp:=fit.dp
 have fc0:=fit.c0
 have fc1:=fit.c1
 have hit:=(numOk fc0 fc1).l3
 obtain⟨kind,on,cnt,deep⟩:=x
 simp only at k1 k5 on0 on1 hcn hc0 hdp fc0 fc1 hit
 obtain⟨n,rfl⟩:∃n:Nat,on=n:=⟨on.toNat,by omega⟩
 refine sem_of_awp (Γ:=tbl tabFs) tabFs_ok _ _ _ ?_
 have fin:∀sl own (t t':Str),t=t'->sl.getD 4 .top=.dat (.str t)->post Tryz.prog Tryz.f54 (.dat (.str t')) [] [] .ret ⟨sl,own,0,[]⟩:=fun sl own t t' e h=>by
  subst e
  refine post_resO (mv':=[]) (.inl rfl) [.tmp 4] rfl (fun _ h=>h) ?_
  simp only[go_sem,h]
  exact le_fin (by rfl) (by simp only[AV.under])
 have hk:kind=1∨kind=2∨kind=3∨kind=4∨kind=5:=by omega
 rcases hk with rfl|rfl|rfl|rfl|rfl
 ·have hlt:n<s.pools.length:=by simp[mostE]at on1;omega
  have hnth:D.nth (s.pools.map poolD) n=poolD (s.pools.getD n default):=D.nth_map hlt
  have hpl:(n:Int)<(s.pools.length:Int):=by omega
  have hnd:(s.pools.getD n default).name.length<=8:=hnm
  generalize hP:s.pools.getD n default=P at *
  cases deep with
  | true =>
   simp only[go_sem,Tryz.ntmps54,sysD,stepD,eq_self,decide_true,decide_false,hnth,hpl,poolD,clsD,List.length_append,List.length_cons,List.length_nil,Int.toNat_natCast]
   refine sem_drawU [] [] (pf:=[53]) (mf:=[]) mixed tabFs_ok pfFs gfFs noMk (ones [0,1,2,3,4,5,6,7,8,9,10,11,12,13]) (by kernel_rfl) ?_
   simp only[go_sem,Tryz.ntmps54,sysD,stepD,eq_self,decide_true,decide_false,hnth,hpl,poolD,clsD,List.length_append,List.length_cons,List.length_nil,Int.toNat_natCast]
   refine⟨by simp only[maxLen];omega,by simp only[maxLen];omega,?_⟩
   refine call_data itoaR (mem_ix 0 rfl) [.int .i64 cnt] _ rfl ⟨cnt,rfl,by omega,by omega,rfl⟩ (.inl rfl) ?_
   simp only[go_sem,Tryz.ntmps54,sysD,stepD,eq_self,decide_true,decide_false,hnth,hpl,poolD,clsD,List.length_append,List.length_cons,List.length_nil,Int.toNat_natCast]
   refine⟨by simp only[maxLen];omega,?_⟩
   refine⟨by simp only[maxLen];omega,?_⟩
   refine fin _ _ _ _ ?_ rfl
   simp[stepT,onName,← hP]
  | false =>
   simp only[go_sem,Tryz.ntmps54,sysD,stepD,eq_self,decide_true,decide_false,hnth,hpl,poolD,clsD,List.length_append,List.length_cons,List.length_nil,Int.toNat_natCast]
   refine sem_drawU [] [] (pf:=[53]) (mf:=[]) mixed tabFs_ok pfFs gfFs noMk (ones [0,1,2,3,4,5,6,7,8,9,10,11,12,13]) (by kernel_rfl) ?_
   simp only[go_sem,Tryz.ntmps54,sysD,stepD,eq_self,decide_true,decide_false,hnth,hpl,poolD,clsD,List.length_append,List.length_cons,List.length_nil,Int.toNat_natCast]
   refine⟨by simp only[maxLen];omega,by simp only[maxLen];omega,?_⟩
   refine call_data itoaR (mem_ix 0 rfl) [.int .i64 cnt] _ rfl ⟨cnt,rfl,by omega,by omega,rfl⟩ (.inl rfl) ?_
   simp only[go_sem,Tryz.ntmps54,sysD,stepD,eq_self,decide_true,decide_false,hnth,hpl,poolD,clsD,List.length_append,List.length_cons,List.length_nil,Int.toNat_natCast]
   refine⟨by simp only[maxLen];omega,?_⟩
   refine fin _ _ _ _ ?_ rfl
   simp[stepT,onName,← hP]
 ·have hlt:n<s.pools.length:=by simp[mostE]at on1;omega
  have hnth:D.nth (s.pools.map poolD) n=poolD (s.pools.getD n default):=D.nth_map hlt
  have hpl:(n:Int)<(s.pools.length:Int):=by omega
  have hnd:(s.pools.getD n default).name.length<=8:=hnm
  generalize hP:s.pools.getD n default=P at *
  simp only[go_sem,Tryz.ntmps54,sysD,stepD,eq_self,decide_true,decide_false,hnth,hpl,poolD,clsD,List.length_append,List.length_cons,List.length_nil,Int.toNat_natCast]
  refine sem_drawU [] [] (pf:=[53]) (mf:=[]) mixed tabFs_ok pfFs gfFs noMk (ones [0,1,2,3,4,5,6,7,8,9,10,11,12,13]) (by kernel_rfl) ?_
  simp only[go_sem,Tryz.ntmps54,sysD,stepD,eq_self,decide_true,decide_false,hnth,hpl,poolD,clsD,List.length_append,List.length_cons,List.length_nil,Int.toNat_natCast]
  refine⟨by simp only[maxLen];omega,by simp only[maxLen];omega,?_⟩
  refine call_data itoaR (mem_ix 0 rfl) [.int .i64 cnt] _ rfl ⟨cnt,rfl,by omega,by omega,rfl⟩ (.inl rfl) ?_
  simp only[go_sem,Tryz.ntmps54,sysD,stepD,eq_self,decide_true,decide_false,hnth,hpl,poolD,clsD,List.length_append,List.length_cons,List.length_nil,Int.toNat_natCast]
  refine⟨by simp only[maxLen];omega,?_⟩
  refine fin _ _ _ _ ?_ rfl
  simp[stepT,onName,← hP]
 ·have hlt:n<s.locks.length:=by simp[mostE]at on1;omega
  have hnth:D.nth (s.locks.map D.str) n=.str (s.locks.getD n []):=D.nth_map hlt
  have hpl:(n:Int)<(s.locks.length:Int):=by omega
  have hnd:(s.locks.getD n []).length<=8:=hnm
  generalize hP:s.locks.getD n []=P at *
  simp only[go_sem,Tryz.ntmps54,sysD,stepD,eq_self,decide_true,decide_false,hnth,hpl,poolD,clsD,List.length_append,List.length_cons,List.length_nil,Int.toNat_natCast]
  refine⟨by simp only[maxLen];omega,?_⟩
  refine fin _ _ _ _ ?_ rfl
  simp[stepT,onName,← hP]
 ·have hlt:n<s.locks.length:=by simp[mostE]at on1;omega
  have hnth:D.nth (s.locks.map D.str) n=.str (s.locks.getD n []):=D.nth_map hlt
  have hpl:(n:Int)<(s.locks.length:Int):=by omega
  have hnd:(s.locks.getD n []).length<=8:=hnm
  generalize hP:s.locks.getD n []=P at *
  simp only[go_sem,Tryz.ntmps54,sysD,stepD,eq_self,decide_true,decide_false,hnth,hpl,poolD,clsD,List.length_append,List.length_cons,List.length_nil,Int.toNat_natCast]
  refine⟨by simp only[maxLen];omega,?_⟩
  refine fin _ _ _ _ ?_ rfl
  simp[stepT,onName,← hP]
 ·have hlt:n<s.classes.length:=by simp[mostE]at on1;omega
  have hnth:D.nth (s.classes.map clsD) n=clsD (s.classes.getD n default):=D.nth_map hlt
  have hpl:(n:Int)<(s.classes.length:Int):=by omega
  have hnd:(s.classes.getD n default).name.length<=8:=hnm
  generalize hP:s.classes.getD n default=P at *
  simp only[go_sem,Tryz.ntmps54,sysD,stepD,eq_self,decide_true,decide_false,hnth,hpl,poolD,clsD,List.length_append,List.length_cons,List.length_nil,Int.toNat_natCast]
  refine⟨by simp only[maxLen];omega,?_⟩
  refine fin _ _ _ _ ?_ rfl
  simp[stepT,onName,← hP]
theorem rline_ok:OkF Tryz.prog 56 (dataC (stpTR lnT)):=by
 refine okF_data Tryz.func56 rfl (by decide) ?_
 rintro ds v ⟨s,x,rfl,hc,hp,rfl⟩
 have g:=goodS_of hc
 have fit:=st_fit g hp
 obtain⟨⟨k1,k5⟩,⟨on0,on1⟩,hcn,hc0⟩:=preE_0 hp
 have hnm:=(isNm_len fit.nm).2
 have hdp:=fit.dp
 have fc0:=fit.c0
 have fc1:=fit.c1
 have hit:=(numOk fc0 fc1).l3
 obtain⟨kind,on,cnt,deep⟩:=x
 simp only at k1 k5 on0 on1 hcn hc0 hdp fc0 fc1 hit
 obtain⟨n,rfl⟩:∃n:Nat,on=n:=⟨on.toNat,by omega⟩
 refine sem_of_awp (Γ:=tbl tabFs) tabFs_ok _ _ _ ?_
 have fin:∀sl own (t t':Str),t=t'->sl.getD 4 .top=.dat (.str t)->post Tryz.prog Tryz.f56 (.dat (.str t')) [] [] .ret ⟨sl,own,0,[]⟩:=fun sl own t t' e h=>by
  subst e
  refine post_resO (mv':=[]) (.inl rfl) [.tmp 4] rfl (fun _ h=>h) ?_
  simp only[go_sem,h]
  exact le_fin (by rfl) (by simp only[AV.under])
 have hk:kind=1∨kind=2∨kind=3∨kind=4∨kind=5:=by omega
 rcases hk with rfl|rfl|rfl|rfl|rfl
 ·have hlt:n<s.pools.length:=by simp[mostE]at on1;omega
  have hnth:D.nth (s.pools.map poolD) n=poolD (s.pools.getD n default):=D.nth_map hlt
  have hpl:(n:Int)<(s.pools.length:Int):=by omega
  have hnd:(s.pools.getD n default).name.length<=8:=hnm
  generalize hP:s.pools.getD n default=P at *
  simp only[lnT]
  simp only[go_sem,Tryz.ntmps56,sysD,stepD,eq_self,decide_true,decide_false,hnth,hpl,poolD,clsD,List.length_append,List.length_cons,List.length_nil,Int.toNat_natCast]
  refine call_data itoaR (mem_ix 0 rfl) [.int .i64 cnt] _ rfl ⟨cnt,rfl,by omega,by omega,rfl⟩ (.inl rfl) ?_
  cases deep with
  | true =>
   simp only[go_sem,Tryz.ntmps56,sysD,stepD,eq_self,decide_true,decide_false,hnth,hpl,poolD,clsD,List.length_append,List.length_cons,List.length_nil,Int.toNat_natCast]
   refine⟨by simp only[maxLen];omega,?_⟩
   refine⟨by simp only[maxLen];omega,?_⟩
   refine⟨by simp only[maxLen];omega,?_⟩
   refine⟨by simp only[maxLen];omega,?_⟩
   refine fin _ _ _ _ ?_ rfl
   simp[stepT,onName,← hP]
  | false =>
   simp only[go_sem,Tryz.ntmps56,sysD,stepD,eq_self,decide_true,decide_false,hnth,hpl,poolD,clsD,List.length_append,List.length_cons,List.length_nil,Int.toNat_natCast]
   refine⟨by simp only[maxLen];omega,?_⟩
   refine⟨by simp only[maxLen];omega,?_⟩
   refine⟨by simp only[maxLen];omega,?_⟩
   refine⟨by simp only[maxLen];omega,?_⟩
   refine fin _ _ _ _ ?_ rfl
   simp[stepT,onName,← hP]
 ·have hlt:n<s.pools.length:=by simp[mostE]at on1;omega
  have hnth:D.nth (s.pools.map poolD) n=poolD (s.pools.getD n default):=D.nth_map hlt
  have hpl:(n:Int)<(s.pools.length:Int):=by omega
  have hnd:(s.pools.getD n default).name.length<=8:=hnm
  generalize hP:s.pools.getD n default=P at *
  simp only[lnT]
  simp only[go_sem,Tryz.ntmps56,sysD,stepD,eq_self,decide_true,decide_false,hnth,hpl,poolD,clsD,List.length_append,List.length_cons,List.length_nil,Int.toNat_natCast]
  refine call_data itoaR (mem_ix 0 rfl) [.int .i64 cnt] _ rfl ⟨cnt,rfl,by omega,by omega,rfl⟩ (.inl rfl) ?_
  simp only[go_sem,Tryz.ntmps56,sysD,stepD,eq_self,decide_true,decide_false,hnth,hpl,poolD,clsD,List.length_append,List.length_cons,List.length_nil,Int.toNat_natCast]
  refine⟨by simp only[maxLen];omega,?_⟩
  refine⟨by simp only[maxLen];omega,?_⟩
  refine⟨by simp only[maxLen];omega,?_⟩
  refine⟨by simp only[maxLen];omega,?_⟩
  refine fin _ _ _ _ ?_ rfl
  simp[stepT,onName,← hP]
 ·have hlt:n<s.locks.length:=by simp[mostE]at on1;omega
  have hnth:D.nth (s.locks.map D.str) n=.str (s.locks.getD n []):=D.nth_map hlt
  have hpl:(n:Int)<(s.locks.length:Int):=by omega
  have hnd:(s.locks.getD n []).length<=8:=hnm
  generalize hP:s.locks.getD n []=P at *
  simp only[lnT]
  simp only[go_sem,Tryz.ntmps56,sysD,stepD,eq_self,decide_true,decide_false,hnth,hpl,poolD,clsD,List.length_append,List.length_cons,List.length_nil,Int.toNat_natCast]
  refine call_data itoaR (mem_ix 0 rfl) [.int .i64 cnt] _ rfl ⟨cnt,rfl,by omega,by omega,rfl⟩ (.inl rfl) ?_
  simp only[go_sem,Tryz.ntmps56,sysD,stepD,eq_self,decide_true,decide_false,hnth,hpl,poolD,clsD,List.length_append,List.length_cons,List.length_nil,Int.toNat_natCast]
  refine⟨by simp only[maxLen];omega,?_⟩
  refine⟨by simp only[maxLen];omega,?_⟩
  refine fin _ _ _ _ ?_ rfl
  simp[stepT,onName,← hP]
 ·have hlt:n<s.locks.length:=by simp[mostE]at on1;omega
  have hnth:D.nth (s.locks.map D.str) n=.str (s.locks.getD n []):=D.nth_map hlt
  have hpl:(n:Int)<(s.locks.length:Int):=by omega
  have hnd:(s.locks.getD n []).length<=8:=hnm
  generalize hP:s.locks.getD n []=P at *
  simp only[lnT]
  simp only[go_sem,Tryz.ntmps56,sysD,stepD,eq_self,decide_true,decide_false,hnth,hpl,poolD,clsD,List.length_append,List.length_cons,List.length_nil,Int.toNat_natCast]
  refine call_data itoaR (mem_ix 0 rfl) [.int .i64 cnt] _ rfl ⟨cnt,rfl,by omega,by omega,rfl⟩ (.inl rfl) ?_
  simp only[go_sem,Tryz.ntmps56,sysD,stepD,eq_self,decide_true,decide_false,hnth,hpl,poolD,clsD,List.length_append,List.length_cons,List.length_nil,Int.toNat_natCast]
  refine⟨by simp only[maxLen];omega,?_⟩
  refine⟨by simp only[maxLen];omega,?_⟩
  refine fin _ _ _ _ ?_ rfl
  simp[stepT,onName,← hP]
 ·have hlt:n<s.classes.length:=by simp[mostE]at on1;omega
  have hnth:D.nth (s.classes.map clsD) n=clsD (s.classes.getD n default):=D.nth_map hlt
  have hpl:(n:Int)<(s.classes.length:Int):=by omega
  have hnd:(s.classes.getD n default).name.length<=8:=hnm
  generalize hP:s.classes.getD n default=P at *
  simp only[lnT]
  simp only[go_sem,Tryz.ntmps56,sysD,stepD,eq_self,decide_true,decide_false,hnth,hpl,poolD,clsD,List.length_append,List.length_cons,List.length_nil,Int.toNat_natCast]
  refine call_data itoaR (mem_ix 0 rfl) [.int .i64 cnt] _ rfl ⟨cnt,rfl,by omega,by omega,rfl⟩ (.inl rfl) ?_
  simp only[go_sem,Tryz.ntmps56,sysD,stepD,eq_self,decide_true,decide_false,hnth,hpl,poolD,clsD,List.length_append,List.length_cons,List.length_nil,Int.toNat_natCast]
  refine⟨by simp only[maxLen];omega,?_⟩
  refine⟨by simp only[maxLen];omega,?_⟩
  refine fin _ _ _ _ ?_ rfl
  simp[stepT,onName,← hP]
end Go.AM
namespace Go.AM
open Go Go.Proofs
def idxIR(ds:List D)(v:AV):Prop:=∃(l:List Int) (x:Int),ds=[.sl none (l.map (.int .i64)),.int .i64 x]/\l.length<4611686018427387904/\v=.dat (.int .i64 (idxG x 0 l))
theorem idxI_ok:OkF Tryz.prog 85 (dataC idxIR):=by
 refine okF_data Tryz.func85 rfl (by decide) ?_
 rintro ds v ⟨l,x,rfl,hl,rfl⟩
 generalize hv:idxG x 0 l=V
 refine sem_of_awp (Γ:=tbl []) okG_nil _ _ _ ?_
 have fin:∀s own (b c:Int),b=c->s.getD 4 .top=.dat (.int .i64 b)->post Tryz.prog Tryz.f85 (.dat (.int .i64 c)) [] [] .ret ⟨s,own,0,[]⟩:=fun s own b c e h=>by
  subst e
  exact post_data (.inl rfl) [4] rfl trivial (by simp only[tmpsOf,h];rfl)
 simp only[go_sem,Tryz.ntmps85]
 refine sem_loop (fun k:Nat=>⟨slotsOf 19 [(0,.dat (.sl none (l.map (.int .i64)))),(1,.dat (.int .i64 x)),(4,.dat (.int .i64 0)),(7,.dat (.int .i64 l.length)),(8,.dat (.int .i64 k))],[],0,[]⟩)
  (fun k=>k<=l.length/\idxG x k (l.drop k)=V) (fun k=>l.length - k) 0 ⟨Nat.zero_le _,hv⟩ ?_ ?_
 ·exact le_slots' (by simp only[go_sem,Int.natCast_zero])
 ·rintro k ⟨hk,hI⟩
  refine sem_of_awp (Γ:=tbl []) okG_nil _ _ _ ?_
  cases hd:l.drop k with
  | nil =>
   have:=end_of_drop hd hk
   have hk2:¬(k:Int)<l.length:=by omega
   simp only[go_sem,hk2]
   refine fin _ _ _ _ ?_ rfl
   rw[← hI,hd];rfl
  | cons c q =>
   have hlt:=lt_of_drop hd
   have hk2:(k:Int)<l.length:=by omega
   have hk0:(0:Int)<=k:=Int.natCast_nonneg k
   have hn:=nth_of_drop (f:=.int .i64) hd
   rw[hd,idxG]at hI
   by_cases he:x=c
   ·simp only[go_sem,hk2,hk0,hn,he]
    rw[if_pos he]at hI
    exact fin _ _ _ _ hI rfl
   ·simp only[go_sem,hk2,hk0,hn,he]
    rw[if_neg he]at hI
    refine⟨inR_i64.2 (by omega),k+1,⟨by omega,by rw[drop_cons hd];exact hI⟩,by omega,?_⟩
    exact le_slots' (by simp only[go_sem,Int.natCast_add,Int.cast_ofNat_Int])
end Go.AM
namespace Go.AM
open Go Go.Proofs
def nanR(ds:List D)(v:AV):Prop:=∃a:Int,ds=[.int .i64 a]/\v=.dat (.bool false)
theorem nanI_ok:OkF Tryz.prog 121 (dataC nanR):=by
 refine okF_data Tryz.func121 rfl (by decide) ?_
 rintro ds v ⟨a,rfl,rfl⟩
 refine sem_of_awp (Γ:=tbl []) okG_nil _ _ _ ?_
 simp only[go_sem,Tryz.ntmps121,eq_self,decide_true,Bool.not_true]
 exact post_data (.inl rfl) [2] rfl trivial rfl
def lessIR(ds:List D)(v:AV):Prop:=∃a b:Int,ds=[.int .i64 a,.int .i64 b]/\v=.dat (.bool (decide (a<b)))
abbrev tabLs:List (Nat×Contract):=[(121,dataC nanR)]
theorem tabLs_ok:OkG Tryz.prog (tbl tabLs):=okG_cons nanI_ok okG_nil
theorem lessI_ok:OkF Tryz.prog 103 (dataC lessIR):=by
 refine okF_data Tryz.func103 rfl (by decide) ?_
 rintro ds v ⟨a,b,rfl,rfl⟩
 refine sem_of_awp (Γ:=tbl tabLs) tabLs_ok _ _ _ ?_
 simp only[go_sem,Tryz.ntmps103]
 refine call_data nanR (mem_ix 0 rfl) [.int .i64 a] _ rfl ⟨a,rfl,rfl⟩ (.inl rfl) ?_
 simp only[go_sem]
 exact post_data (.inl rfl) [4] rfl trivial rfl
def sortsTo(u T:List Int):Prop:=∀u':List Int,u'.Perm u->u'.Pairwise (· <= ·)->u'=T
def insR41(aa:List AV)(obs:List Obj)(v0:AV)(obs' ex:List Obj)(mv0:List Nat):Prop:=∃u T:List Int,u.length<=12/\sortsTo u T/\aa=[.sl 0 0 u.length,.dat (.int .i64 0),.dat (.int .i64 u.length)]/\obs=[.row none (intsD u)]/\v0=.tup []/\obs'=[.row none (intsD T)]/\ex=[]/\mv0=[]
abbrev tabIn:List (Nat×Contract):=[(103,dataC lessIR)]
theorem tabIn_ok:OkG Tryz.prog (tbl tabIn):=okG_cons lessI_ok okG_nil
theorem tabIn_dat(g:Nat)(C:Contract)(h:(g,C)∈tabIn):∃R,C=dataC R:=by
 simp only[tabIn,List.mem_singleton,Prod.mk.injEq]at h
 exact⟨_,h.2⟩
theorem nthI{l:List Int}{i:Nat}(h:i<l.length):D.nth (intsD l) i=.int .i64 (l.getD i 0):=D.nth_map h
theorem insSort_ok:OkF Tryz.prog 97 (lentC insR41):=by
 refine okF_lent Tryz.func97 rfl (by decide) ?_
 rintro aa obs v0 obs' ex mv0 ⟨u,T,hu,hT,rfl,rfl,rfl,rfl,rfl,rfl⟩
 refine sem_of_awp (Γ:=tbl tabIn) tabIn_ok _ _ _ ?_
 simp only[go_sem,Tryz.ntmps97]
 refine⟨inR_i64.2 (by omega),?_⟩
 refine sem_loop (fun p:Nat×List Int=>⟨slotsOf 49 [(0,.sl 0 0 u.length),(1,.dat (.int .i64 0)),(2,.dat (.int .i64 u.length)),(6,.dat (.int .i64 p.1))],[.row none (intsD p.2)],1,[]⟩)
  (fun p=>1<=p.1/\(p.1<=u.length∨p.1=1)/\p.2.Perm u/\∀a b:Nat,a<b->b<p.1->p.2.getD a 0<=p.2.getD b 0) (fun p=>u.length - p.1) (1,u) ⟨Nat.le_refl _,.inr rfl,List.Perm.refl _,fun a b h1 h2=>by simp only at h2;omega⟩ ?_ ?_
 ·exact le_slots' (by simp only[go_sem,Int.natCast_one])
 rintro ⟨i,l⟩ ⟨hi1,hi2,hp,hs⟩
 simp only at hi1 hi2 hp hs ⊢
 have hll:l.length=u.length:=hp.length_eq
 refine sem_of_awp (Γ:=tbl tabIn) tabIn_ok _ _ _ ?_
 by_cases hk:i<u.length
 ·have k1:(i:Int)<(u.length:Int):=by omega
  simp only[go_sem,k1,decide_true]
  refine sem_loop (fun p:Nat×List Int=>⟨slotsOf 49 [(0,.sl 0 0 u.length),(1,.dat (.int .i64 0)),(2,.dat (.int .i64 u.length)),(6,.dat (.int .i64 i)),(7,.dat (.int .i64 p.1))],[.row none (intsD p.2)],1,[]⟩)
   (fun p=>p.1<=i/\p.2.Perm u/\srtI i p.1 p.2) (fun p=>p.1) (i,l) ⟨Nat.le_refl _,hp,fun a b h1 h2 h3=>hs a b h1 (by omega)⟩ ?_ ?_
  ·exact le_slots' (by simp only[go_sem])
  rintro ⟨j,m⟩ ⟨hj,hp2,hs2⟩
  simp only at hj hp2 hs2 ⊢
  have hml:m.length=u.length:=hp2.length_eq
  have stop:(j=0∨¬m.getD j 0<m.getD (j - 1) 0)->∀a b:Nat,a<b->b<i+1->m.getD a 0<=m.getD b 0:=fun h a b h1 h2=>srtI_stop hs2 h a b h1 (by omega)
  refine sem_of_awp (Γ:=tbl tabIn) tabIn_ok _ _ _ ?_
  refine sem_drawU [] [] (pf:=[103]) (mf:=[]) mixed tabIn_ok (pure_of fun g C h _=>tabIn_dat g C h) (grow_of fun g C h _=>tabIn_dat g C h) noMk (ones [0,1,2,3,4,5,6,7,8,9,10,11,12,13,14]) (by kernel_rfl) ?_
  by_cases hj0:j=0
  ·subst hj0
   have z:¬(0:Int)<((0:Nat):Int):=by omega
   simp only[go_sem,z,decide_false]
   refine⟨inR_i64.2 (by omega),(i+1,m),⟨by show 1<=i+1;omega,.inl (by show i+1<=_;omega),hp2,stop (.inl rfl)⟩,by show u.length - (i+1)<_;omega,?_⟩
   exact le_slots' (by simp only[go_sem,Int.natCast_add,Int.cast_ofNat_Int])
  ·have z:(0:Int)<(j:Int):=by omega
   simp only[go_sem,z,decide_true]
   have hjn:((j:Int) - 1).toNat=j - 1:=by omega
   have n1:=nthI (l:=m) (i:=j) (by omega)
   have n2:=nthI (l:=m) (i:=j - 1) (by omega)
   refine⟨by omega,by omega,inR_i64.2 (by omega),by omega,by omega,by omega,?_⟩
   rw[hjn,n1,n2]
   refine call_data lessIR (mem_ix 0 rfl) [.int .i64 (m.getD j 0),.int .i64 (m.getD (j - 1) 0)] _ rfl ⟨_,_,rfl,rfl⟩ (.inl rfl) ?_
   by_cases hlt:m.getD j 0<m.getD (j - 1) 0
   ·simp only[go_sem,eq_true hlt,decide_true]
    refine sem_drawU [] [] (pf:=[]) (mf:=[]) mixed tabIn_ok pureNo growNo noMk (ones [0,1,2,3,4,5,6,7,8,9,10,11,12,13,14,15,16,17]) (by kernel_rfl) ?_
    simp only[go_sem,hjn,n1,n2]
    have hsw:(intsD m).set j (.int .i64 (m.getD (j - 1) 0))=intsD (m.set j (m.getD (j - 1) 0)):=by simp[intsD,List.map_set]
    have hsw2:(intsD (m.set j (m.getD (j - 1) 0))).set (j - 1) (.int .i64 (m.getD j 0))=intsD (swapI m j):=by simp[intsD,swapI,List.map_set]
    refine⟨inR_i64.2 (by omega),inR_i64.2 (by omega),by omega,by omega,by omega,by omega,by omega,by omega,by omega,by omega,by omega,by omega,inR_i64.2 (by omega),(j - 1,swapI m j),⟨by show j - 1<=i;omega,(swapI_perm (by omega) (by omega)).trans hp2,srtI_swap hs2 (by omega) (by omega) hj hlt⟩,by show j - 1<j;omega,?_⟩
    rw[hsw,hsw2]
    have e1:((j - 1:Nat):Int)=(j:Int) - 1:=by omega
    exact le_slots' (by simp only[go_sem,e1])
   ·simp only[go_sem,eq_false hlt,decide_false]
    refine⟨inR_i64.2 (by omega),(i+1,m),⟨by show 1<=i+1;omega,.inl (by show i+1<=_;omega),hp2,stop (.inr hlt)⟩,by show u.length - (i+1)<_;omega,?_⟩
    exact le_slots' (by simp only[go_sem,Int.natCast_add,Int.cast_ofNat_Int])
 ·have k1:¬(i:Int)<(u.length:Int):=by omega
  simp only[go_sem,k1,decide_false]
  have hT2:l=T:=hT l hp (srt_pairwise fun a b h1 h2=>hs a b h1 (by rcases hi2 with h|h <;> omega))
  subst hT2
  refine post_resO (mv':=[]) (.inr rfl) [] rfl (fun _ h=>h) ?_
  simp only[go_sem]
  exact Le.refl _
theorem namesP:Names Tryz.prog:=by
 have h : (Tryz.prog.funcs.toList.all fun f => decide (f.name ≠ "runtime.NumGoroutine")) = true := by kernel_rfl
 intro g fn hf
 have:=List.all_eq_true.1 h fn (List.mem_of_getElem? (by simpa using hf))
 simpa using this
abbrev lenK:List (List D×AV):=[([.int .u64 0],.dat (.int .i64 0)),([.int .u64 1],.dat (.int .i64 1)),([.int .u64 2],.dat (.int .i64 2)),([.int .u64 3],.dat (.int .i64 2)),([.int .u64 4],.dat (.int .i64 3)),([.int .u64 5],.dat (.int .i64 3)),([.int .u64 6],.dat (.int .i64 3)),([.int .u64 7],.dat (.int .i64 3)),([.int .u64 8],.dat (.int .i64 4)),([.int .u64 9],.dat (.int .i64 4)),([.int .u64 10],.dat (.int .i64 4)),([.int .u64 11],.dat (.int .i64 4)),([.int .u64 12],.dat (.int .i64 4))]
theorem len_ok:OkF Tryz.prog 87 (dataC fun ds v=>(ds,v)∈lenK):=okF_eval mixed namesP 100 _ (fun x hx=>by
 simp only[lenK,List.mem_cons,List.not_mem_nil,or_false]at hx
 rcases hx with rfl|rfl|rfl|rfl|rfl|rfl|rfl|rfl|rfl|rfl|rfl|rfl|rfl <;> kernel_rfl)
theorem lenK_at{n:Nat}(h:n<=12):∃k:Int,([D.int .u64 (n:Int)],AV.dat (.int .i64 k))∈lenK:=by
 have h:n=0∨n=1∨n=2∨n=3∨n=4∨n=5∨n=6∨n=7∨n=8∨n=9∨n=10∨n=11∨n=12:=by omega
 rcases h with rfl|rfl|rfl|rfl|rfl|rfl|rfl|rfl|rfl|rfl|rfl|rfl|rfl
 ·exact⟨0,by simp[lenK]⟩
 ·exact⟨1,by simp[lenK]⟩
 ·exact⟨2,by simp[lenK]⟩
 ·exact⟨2,by simp[lenK]⟩
 ·exact⟨3,by simp[lenK]⟩
 ·exact⟨3,by simp[lenK]⟩
 ·exact⟨3,by simp[lenK]⟩
 ·exact⟨3,by simp[lenK]⟩
 ·exact⟨4,by simp[lenK]⟩
 ·exact⟨4,by simp[lenK]⟩
 ·exact⟨4,by simp[lenK]⟩
 ·exact⟨4,by simp[lenK]⟩
 ·exact⟨4,by simp[lenK]⟩
def pdqR(aa:List AV)(obs:List Obj)(v0:AV)(obs' ex:List Obj)(mv0:List Nat):Prop:=∃(u T:List Int) (k:Int),u.length<=12/\sortsTo u T/\aa=[.sl 0 0 u.length,.dat (.int .i64 0),.dat (.int .i64 u.length),.dat (.int .i64 k)]/\obs=[.row none (intsD u)]/\v0=.tup []/\obs'=[.row none (intsD T)]/\ex=[]/\mv0=[]
abbrev tabPd:List (Nat×Contract):=[(97,lentC insR41)]
theorem tabPd_ok:OkG Tryz.prog (tbl tabPd):=okG_cons insSort_ok okG_nil
theorem pdq_ok:OkF Tryz.prog 86 (lentC pdqR):=by
 refine okF_lent Tryz.func86 rfl (by decide) ?_
 rintro aa obs v0 obs' ex mv0 ⟨u,T,k,hu,hT,rfl,rfl,rfl,rfl,rfl,rfl⟩
 refine sem_of_awp (Γ:=tbl tabPd) tabPd_ok _ _ _ ?_
 simp only[go_sem,Tryz.ntmps86]
 refine sem_rounds 1 (rounds_go ?_)
 refine sem_of_awp (Γ:=tbl tabPd) tabPd_ok _ _ _ ?_
 have c1:(u.length:Int) - 0<=12:=by omega
 simp only[go_sem,c1,decide_true]
 refine⟨inR_i64.2 (by omega),?_⟩
 refine call_lent insR41 (mem_ix 0 rfl) [0] ⟨u,T,hu,hT,rfl,rfl,rfl,rfl,rfl,rfl⟩ (by decide) (by simp) rfl rfl rfl (by simp[AV.unders,AV.under]) (by simp[Obj.under]) (fun j hj=>by
  obtain rfl:j=0:=by simp at hj;exact hj
  rfl) ?_
 simp only[go_sem]
 refine post_resO (mv':=[]) (.inl rfl) [] rfl (fun _ h=>h) ?_
 simp only[go_sem]
 exact Le.refl _
noncomputable def T117:Ty:=(tyOf Tryz.prog 117).getD ⟨false,0,0,none,.bool⟩
@[go_sem] theorem ty117:tyOf Tryz.prog 117=some T117:=eqk (by kernel_rfl)
@[go_sem] theorem T117_agg:T117.agg=false:=eqk (by kernel_rfl)
@[go_sem] theorem T117_size:T117.size=1:=eqk (by kernel_rfl)
@[go_sem] theorem T117_bytes:T117.bytes=8:=eqk (by kernel_rfl)
@[go_sem] theorem T117_want:T117.want=none:=eqk (by kernel_rfl)
@[go_sem] theorem T117_desc:T117.desc=.int .u64:=eqk (by kernel_rfl)
@[go_sem] theorem T117_arr:T117.arr=none:=eqk (by kernel_rfl)
@[go_sem] theorem T117_zero:T117.zero=some (.int .u64 0):=eqk (by kernel_rfl)
@[go_sem] theorem T117_zeroD:zeroD T117=some (.int .u64 0):=eqk (by kernel_rfl)
@[go_sem] theorem T117_zeroElem:zeroElem T117=some (.int .u64 0):=eqk (by kernel_rfl)
@[go_sem ↓] theorem T117_zs:(∃z,T117.zero=some z/\z.cells.size=T117.size)=True:=by
 refine eq_true ⟨_,T117_zero,?_⟩
 kernel_rfl
def sortR41(aa:List AV)(obs:List Obj)(v0:AV)(obs' ex:List Obj)(mv0:List Nat):Prop:=∃(u T:List Int),u.length<=12/\sortsTo u T/\aa=[.sl 0 0 u.length]/\obs=[.row none (intsD u)]/\v0=.tup []/\obs'=[.row none (intsD T)]/\ex=[]/\mv0=[]
abbrev tabSo:List (Nat×Contract):=[(86,lentC pdqR),(87,dataC fun ds v=>(ds,v)∈lenK)]
theorem tabSo_ok:OkG Tryz.prog (tbl tabSo):=okG_cons pdq_ok (okG_cons len_ok okG_nil)
theorem sortI_ok:OkF Tryz.prog 61 (lentC sortR41):=by
 refine okF_lent Tryz.func61 rfl (by decide) ?_
 rintro aa obs v0 obs' ex mv0 ⟨u,T,hu,hT,rfl,rfl,rfl,rfl,rfl,rfl⟩
 refine sem_of_awp (Γ:=tbl tabSo) tabSo_ok _ _ _ ?_
 simp only[go_sem,Tryz.ntmps61]
 have hwr:IntKind.u64.wrap (u.length:Int)=(u.length:Int):=by
  simp[IntKind.wrap,IntKind.signed,IntKind.bits]
  omega
 rw[hwr]
 obtain⟨k,hk⟩:=lenK_at hu
 refine call_data (fun ds v=>(ds,v)∈lenK) (mem_ix 1 rfl) [.int .u64 (u.length:Int)] _ rfl hk (.inl rfl) ?_
 simp only[go_sem]
 refine call_lent pdqR (mem_ix 0 rfl) [0] ⟨u,T,k,hu,hT,rfl,rfl,rfl,rfl,rfl,rfl⟩ (by decide) (by simp) rfl rfl rfl (by simp[AV.unders,AV.under]) (by simp[Obj.under]) (fun j hj=>by
  obtain rfl:j=0:=by simp at hj;exact hj
  rfl) ?_
 simp only[go_sem]
 refine post_resO (mv':=[]) (.inr rfl) [] rfl (fun _ h=>h) ?_
 simp only[go_sem]
 exact Le.refl _
end Go.AM
namespace Go.AM
open Go Go.Proofs
def contIZ(ds:List D)(v:AV):Prop:=∃(l:List Int) (x:Int),ds=[.sl none (intsD l),.int .i64 x]/\l.length<=10000/\v=.dat (.bool (decide (x∈l)))
abbrev tabCz:List (Nat×Contract):=[(85,dataC idxIR)]
theorem tabCz_ok:OkG Tryz.prog (tbl tabCz):=okG_cons idxI_ok okG_nil
theorem contZ_ok:OkF Tryz.prog 60 (dataC contIZ):=by
 refine okF_data Tryz.func60 rfl (by decide) ?_
 rintro ds v ⟨l,x,rfl,hl,rfl⟩
 refine sem_of_awp (Γ:=tbl tabCz) tabCz_ok _ _ _ ?_
 simp only[go_sem,Tryz.ntmps60]
 refine call_data idxIR (mem_ix 0 rfl) [.sl none (intsD l),.int .i64 x] _ rfl ⟨l,x,rfl,by omega,rfl⟩ (.inl rfl) ?_
 have e:decide (0<=idxG x 0 l)=decide (x∈l):=by simp only[idxG_mem]
 simp only[go_sem,e]
 exact post_data (.inl rfl) [4] rfl trivial rfl
def callsV(s:PSys)(c:Int):List Int×Int:=if checkE s≠0 then ([],checkE s) else if c<0∨(s.classes.length:Int)<=c then ([],2) else (callsL s.classes.length (s.classes.getD c.toNat default).steps,0)
def callsR41(ds:List D)(v:AV):Prop:=∃(s:PSys) (c:Int),ds=[sysD s,.int .i64 c]/\v=.tup [.dat (.sl none (intsD (callsV s c).1)),.dat (.int .i64 (callsV s c).2)]
abbrev tabCl:List (Nat×Contract):=[(15,dataC chkAR),(60,peekC contIZ),(61,lentC sortR41)]
theorem tabCl_ok:OkG Tryz.prog (tbl tabCl):=okG_cons checkA_ok (okG_cons (okF_peek contZ_ok) (okG_cons sortI_ok okG_nil))
theorem callsD_snoc(l:List PStep)(x:PStep):callsD (l++[x])=callsS (callsD l) x:=by unfold callsD;rw[List.foldl_append];rfl
theorem on_ok{s:PSys}{l:List PStep}(h:∀x∈l,preE s x=0):∀x∈l,x.kind=5->0<=x.on/\x.on<s.classes.length:=fun x hx h5=>by
 obtain⟨_,⟨h1,h2⟩,_⟩:=preE_0 (h x hx)
 unfold mostE at h2
 rw[h5]at h2
 simp at h2
 exact⟨h1,h2⟩
theorem callsD_take{n:Nat}{l:List PStep}(hl:∀x∈l,x.kind=5->0<=x.on/\x.on<n)(k:Nat):(callsD (l.take k)).length<=k:=by
 have:=callsD_len (n:=n) (l:=l.take k) fun x hx=>hl x (List.mem_of_mem_take hx)
 have h2:(l.take k).length<=k:=by rw[List.length_take];omega
 omega
theorem calls_len{n:Nat}{l:List PStep}(hl:∀x∈l,x.kind=5->0<=x.on/\x.on<n):(callsL n l).length=(callsD l).length:=by
 have h1:=List.mergeSort_perm (callsD l) (fun a b=>decide (a<=b))
 have h2:=List.pairwise_mergeSort (le:=fun a b:Int=>decide (a<=b)) (fun a b c h1 h2=>by simp at h1 h2 ⊢;omega) (fun a b=>by simp;omega) (callsD l)
 rw[← calls_sorted h1 (h2.imp fun h=>by simpa using h) hl]
 exact h1.length_eq
theorem calls41_ok:OkF Tryz.prog 24 (dataC callsR41):=by
 refine okF_data Tryz.func24 rfl (by decide) ?_
 rintro ds v ⟨s,c,rfl,rfl⟩
 refine sem_of_awpK [7] (Γ:=tbl tabCl) tabCl_ok _ _ _ ?_
 simp only[go_sem,Tryz.ntmps24,sysD]
 refine call_data chkAR (mem_ix 0 rfl) [sysD s] _ rfl ⟨s,rfl,rfl⟩ (.inl rfl) ?_
 unfold callsV
 by_cases hc:checkE s=0
 ·rw[if_neg (fun h=>h hc)]
  have g:=goodS_of hc
  have gnc:=g.nc
  simp only[go_sem,hc,eq_self,decide_true,Bool.not_true]
  by_cases h1:c<0
  ·rw[if_pos (.inl h1)]
   simp only[go_sem,h1,decide_true]
   refine post_resO (mv':=[]) (.inl rfl) [.tmp 4,.tmp 5] rfl (fun _ h=>h) ?_
   simp only[go_sem]
   exact Le.trans (le_tupnil none) (le_fin (by rfl) (by simp only[AV.under,AV.unders,and_self]))
  by_cases h2:(s.classes.length:Int)<=c
  ·rw[if_pos (.inr h2)]
   simp only[go_sem,h1,h2,decide_true,decide_false,List.length_map]
   refine post_resO (mv':=[]) (.inl rfl) [.tmp 4,.tmp 5] rfl (fun _ h=>h) ?_
   simp only[go_sem]
   exact Le.trans (le_tupnil none) (le_fin (by rfl) (by simp only[AV.under,AV.unders,and_self]))
  rw[if_neg (by omega)]
  obtain⟨n,rfl⟩:∃n:Nat,c=n:=⟨c.toNat,by omega⟩
  have hn:n<s.classes.length:=by omega
  have hnI:(n:Int)<(s.classes.length:Int):=by omega
  have hx:D.nth (s.classes.map clsD) n=clsD (s.classes.getD n default):=D.nth_map hn
  have hcm:s.classes.getD n default∈s.classes:=getD_mem hn
  have hst:=g.st _ hcm
  have hns:=g.ns _ hcm
  rw[Int.toNat_natCast]
  generalize s.classes.getD n default=cl at *
  obtain⟨name,workers,server,steps⟩:=cl
  simp only at hst hns ⊢
  have hon:=on_ok hst
  simp only[go_sem,h1,h2,decide_false,List.length_map]
  refine sem_le (le_addnil 7 none rfl (Nat.zero_le _)) ?_
  refine sem_of_awp (Γ:=tbl tabCl) tabCl_ok _ _ _ ?_
  simp only[go_sem,hnI,hx,clsD,stepsD,List.length_map,Int.toNat_natCast,List.cons_append,List.nil_append,List.length_cons,List.length_nil]
  refine sem_loop (fun k:Nat=>⟨slotsOf 54 [(7,.sl 1 0 (callsD (steps.take k)).length),(29,.dat (.sl (some 4) (steps.map stepD))),(30,.dat (.int .i64 steps.length)),(31,.dat (.int .i64 k))],[.dead,.row none (intsD (callsD (steps.take k)))],0,[]⟩)
   (fun k=>k<=steps.length) (fun k=>steps.length - k) 0 (Nat.zero_le _) ?_ ?_
  ·refine Le.trans (le_dead 0) ?_
   simp only[go_sem]
   exact le_slots' (by simp only[go_sem,Int.natCast_zero,List.take_zero,callsD,List.foldl_nil,List.length_nil])
  rintro k hk
  refine sem_of_awp (Γ:=tbl tabCl) tabCl_ok _ _ _ ?_
  have hlk:=callsD_take hon k
  cases hd:steps.drop k with
  | nil =>
   have hke:=end_of_drop hd hk
   have k1:¬(k:Int)<(steps.length:Int):=by omega
   have hall:steps.take k=steps:=by rw[hke];exact List.take_length
   rw[hall]at hlk ⊢
   simp only[go_sem,k1,decide_false]
   refine call_lent sortR41 (mem_ix 2 rfl) [1] ⟨callsD steps,callsL s.classes.length steps,by omega,fun u' hp hs=>calls_sorted hp hs hon,rfl,rfl,rfl,rfl,rfl,rfl⟩ (by decide) (by simp) rfl rfl rfl (by simp[AV.unders,AV.under]) (by simp[Obj.under]) (fun j hj=>by
    obtain rfl:j=0:=by simp at hj;exact hj
    rfl) ?_
   have hlen:(callsL s.classes.length steps).length=(callsD steps).length:=calls_len hon
   simp only[go_sem]
   refine post_resO (mv':=[]) (.inl rfl) [.tmp 4,.tmp 5] rfl (fun _ h=>h) ?_
   have tkT:(intsD (callsL s.classes.length steps)).take (callsD steps).length=intsD (callsL s.classes.length steps):=List.take_of_length_le (by simp[hlen])
   have hle:(callsD steps).length<=(callsL s.classes.length steps).length:=by omega
   simp only[go_sem]
   refine Le.trans (le_freeze 1 (ag:=none) rfl (Nat.zero_le _)) ?_
   simp only[go_sem,tkT,List.length_map,hlen]
   exact le_fin (by rfl) (by simp only[AV.under,AV.unders,and_self])
  | cons x r =>
   have hlt:=lt_of_drop hd
   have k1:(k:Int)<(steps.length:Int):=by omega
   have hk0:(0:Int)<=(k:Int):=by omega
   have hy:D.nth (steps.map stepD) k=stepD x:=nth_of_drop hd
   have hsn:callsD (steps.take (k+1))=callsS (callsD (steps.take k)) x:=by rw[take_of_drop hd,callsD_snoc]
   simp only[go_sem,k1,hk0,decide_true,List.length_map,Int.toNat_natCast,hy,stepD]
   by_cases h5:x.kind=5
   ·have hpk:Peek [.dead,.row none (intsD (callsD (steps.take k))),.box [.dat (.int .i64 x.kind),.dat (.int .i64 x.on),.dat (.int .i64 x.cnt),.dat (.bool x.deep)]] (.sl 1 0 (callsD (steps.take k)).length) (.sl none (intsD (callsD (steps.take k)))):=by
     have:=peek_row0 (own:=[.dead,.row none (intsD (callsD (steps.take k))),.box [.dat (.int .i64 x.kind),.dat (.int .i64 x.on),.dat (.int .i64 x.cnt),.dat (.bool x.deep)]]) (o:=1) (ag:=none) (xs:=intsD (callsD (steps.take k))) rfl
     rwa [List.length_map]at this
    have h5b:decide (x.kind=5)=true:=decide_eq_true h5
    have tkD:(intsD (callsD (steps.take k))).take (callsD (steps.take k)).length=intsD (callsD (steps.take k)):=List.take_of_length_le (by simp)
    simp only[go_sem,h5b]
    refine call_peek contIZ (mem_ix 1 rfl) [.sl none (intsD (callsD (steps.take k))),.int .i64 x.on] (.dat (.bool (decide (x.on∈callsD (steps.take k))))) ⟨hpk,peek_dat,trivial⟩ ⟨_,_,rfl,by omega,rfl⟩ rfl ?_
    by_cases hin:x.on∈callsD (steps.take k)
    ·have e:callsD (steps.take (k+1))=callsD (steps.take k):=by rw[hsn];unfold callsS;rw[if_neg (fun h=>h.2 hin)]
     simp only[go_sem,eq_true hin,decide_true,Bool.not_true]
     refine⟨inR_i64.2 (by omega),k+1,by omega,by omega,?_⟩
     rw[e]
     refine le_end (own:=[_,_]) (ex:=[_]) (Nat.zero_le _) ?_ ?_ ?_
     ·simp only[go_sem,Int.natCast_add,Int.cast_ofNat_Int]
     ·simp only[go_sem]
     ·simp only[go_sem,AV.unders,AV.under,List.length_cons,List.length_nil]
    ·have e:callsD (steps.take (k+1))=callsD (steps.take k)++[x.on]:=by rw[hsn];unfold callsS;rw[if_pos ⟨h5,hin⟩]
     simp only[go_sem,eq_false hin,decide_false,Bool.not_false,tkD,List.length_map]
     refine⟨by omega,by omega,inR_i64.2 (by omega),k+1,by omega,by omega,?_⟩
     simp only[e,List.map_append,List.map_cons,List.map_nil,List.length_append,List.length_cons,List.length_nil]
     refine le_end (own:=[_,_]) (ex:=[_,_]) (Nat.zero_le _) ?_ ?_ ?_
     ·simp only[go_sem,Int.natCast_add,Int.cast_ofNat_Int]
     ·simp only[go_sem]
     ·simp only[go_sem,AV.unders,AV.under,List.length_cons,List.length_nil]
   ·have e:callsD (steps.take (k+1))=callsD (steps.take k):=by rw[hsn];unfold callsS;rw[if_neg (fun h=>h5 h.1)]
    have h5b:decide (x.kind=5)=false:=decide_eq_false h5
    simp only[go_sem,h5b]
    refine⟨inR_i64.2 (by omega),k+1,by omega,by omega,?_⟩
    rw[e]
    refine le_end (own:=[_,_]) (ex:=[_]) (Nat.zero_le _) ?_ ?_ ?_
    ·simp only[go_sem,Int.natCast_add,Int.cast_ofNat_Int]
    ·simp only[go_sem]
    ·simp only[go_sem,AV.unders,AV.under,List.length_cons,List.length_nil]
 ·rw[if_pos hc]
  simp only[go_sem,hc,decide_false,Bool.not_false]
  refine post_resO (mv':=[]) (.inl rfl) [.tmp 4,.tmp 5] rfl (fun _ h=>h) ?_
  simp only[go_sem]
  exact Le.trans (le_tupnil none) (le_fin (by rfl) (by simp only[AV.under,AV.unders,and_self]))
end Go.AM

