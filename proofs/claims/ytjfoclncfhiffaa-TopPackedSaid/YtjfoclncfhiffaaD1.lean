/- Own work over the model of the kit. -/
import GoSem.Claim
import GoSem.ClaimData
import Derived.Orders
import Derived.Laws.Rows
import Derived.Laws.CopyRow
import Derived.Tactics2
import Derived.Laws.Entries
import Derived.DeepKeys3
import Derived.Laws.StructEq
import Derived.Laws.Strings
import Derived.Laws.BytesArg
import Derived.Laws.MakeOwn
import Derived.Laws.AppendOwn
import Derived.Laws.CopyOwn
set_option linter.unnecessarySimpa false
set_option linter.unusedSimpArgs false
set_option linter.unusedVariables false
namespace Go.AM
open Go
def es:Option Nat->Nat
 | none=>1
 | some k=>k
inductive D where
 | int (k:IntKind) (n:Int)
 | bool (b:Bool)
 | str (s:List UInt8)
 | sl (ag:Option Nat) (xs:List D)
 | agg (ds:List D)
deriving Inhabited
def D.isAgg:D->Bool
 | .agg _=>true
 | _=>false
mutual
def D.C(F:Nat->Prop)(w:World):D->List Value->Prop
 | .int k n,cs=>cs=[.int k n]/\(Lit.int k n).wf=true
 | .bool b,cs=>cs=[.bool b]
 | .str s,cs=>cs=[.string ⟨s.toArray⟩]/\s.length<=maxLen
 | .sl ag xs,cs=>∃a cap,cs=[.slice a xs.length cap]/\xs.length<=cap/\cap<=maxLen /\
   (xs=[]∨∃b off,a=some ⟨b,off,none⟩/\F b/\D.Cr F w ag b off xs)
 | .agg ds,cs=>D.Cs F w ds cs
def D.Cs(F:Nat->Prop)(w:World):List D->List Value->Prop
 | [],cs=>cs=[]
 | d :: ds,cs=>∃c cs',cs=c :: cs'/\d.isAgg=false/\D.C F w d [c]/\D.Cs F w ds cs'
def D.Cr(F:Nat->Prop)(w:World)(ag:Option Nat)(b:Nat):Nat->List D->Prop
 | _,[]=>True
 | off,d :: ds=>(∃cs,cs.length=es ag/\(∀j,j<es ag->w.cell? ⟨b,off+j,none⟩=cs[j]?)/\d.isAgg=ag.isSome/\D.C F w d cs) /\
   D.Cr F w ag b (off+es ag) ds
end
def D.R(F:Nat->Prop)(w:World):D->Value->Prop
 | .agg ds,v=>∃arr:List Value,v=.agg arr.toArray/\D.Cs F w ds arr
 | d,v=>D.C F w d [v]
def Same(F:Nat->Prop)(w w':World):Prop:=∀b,F b->w'.heap[b]?=w.heap[b]?
theorem Same.cell{F:Nat->Prop}{w w':World}(h:Same F w w'){b:Nat}(hb:F b)(o:Nat):w'.cell? ⟨b,o,none⟩=w.cell? ⟨b,o,none⟩:=by
 simp[World.cell?,h b hb]
mutual
theorem D.C_mono{F F':Nat->Prop}{w w':World}(hF:∀b,F b->F' b)(hw:Same F w w') :
  ∀(d:D) (cs:List Value),D.C F w d cs->D.C F' w' d cs
 | .int _ _,_,h=>by simpa only[D.C] using h
 | .bool _,_,h=>by simpa only[D.C] using h
 | .str _,_,h=>by simpa only[D.C] using h
 | .sl ag xs,cs,h=>by
  simp only[D.C]at h ⊢
  obtain⟨a,cap,h1,h2,h3,h4⟩:=h
  refine⟨a,cap,h1,h2,h3,?_⟩
  rcases h4 with h4|⟨b,off,ha,hb,h4⟩
  ·exact .inl h4
  ·exact .inr ⟨b,off,ha,hF b hb,D.Cr_mono hF hw ag b hb off xs h4⟩
 | .agg ds,cs,h=>by
  simp only[D.C]at h ⊢
  exact D.Cs_mono hF hw ds cs h
theorem D.Cs_mono{F F':Nat->Prop}{w w':World}(hF:∀b,F b->F' b)(hw:Same F w w') :
  ∀(ds:List D) (cs:List Value),D.Cs F w ds cs->D.Cs F' w' ds cs
 | [],_,h=>by simpa only[D.Cs] using h
 | d :: ds,cs,h=>by
  simp only[D.Cs]at h ⊢
  obtain⟨c,cs',h1,h2,h3,h4⟩:=h
  exact⟨c,cs',h1,h2,D.C_mono hF hw d _ h3,D.Cs_mono hF hw ds _ h4⟩
theorem D.Cr_mono{F F':Nat->Prop}{w w':World}(hF:∀b,F b->F' b)(hw:Same F w w')(ag:Option Nat)(b:Nat)(hb:F b) :
  ∀(off:Nat) (ds:List D),D.Cr F w ag b off ds->D.Cr F' w' ag b off ds
 | _,[],_=>by simp only[D.Cr]
 | off,d :: ds,h=>by
  simp only[D.Cr]at h ⊢
  obtain⟨⟨cs,h1,h2,h3,h4⟩,h5⟩:=h
  exact⟨⟨cs,h1,fun j hj=>(hw.cell hb _).trans (h2 j hj),h3,D.C_mono hF hw d _ h4⟩,D.Cr_mono hF hw ag b hb _ ds h5⟩
end
theorem D.R_mono{F F':Nat->Prop}{w w':World}(hF:∀b,F b->F' b)(hw:Same F w w'){d:D}{v:Value}(h:D.R F w d v):D.R F' w' d v:=by
 cases d <;> first
  | exact D.C_mono hF hw _ _ h
  | (obtain⟨arr,h1,h2⟩:=h;exact⟨arr,h1,D.Cs_mono hF hw _ _ h2⟩)
theorem D.Cr_congr{F F':Nat->Prop}{w w':World}(hF:∀b,F b->F' b)(hw:Same F w w')(ag:Option Nat)(b b':Nat) :
  ∀(off off':Nat) (ds:List D),(∀j,j<ds.length*es ag->w'.cell? ⟨b',off'+j,none⟩=w.cell? ⟨b,off+j,none⟩)->D.Cr F w ag b off ds->D.Cr F' w' ag b' off' ds
 | _,_,[],_,_=>by simp only[D.Cr]
 | off,off',d :: ds,hc,h=>by
  simp only[D.Cr]at h ⊢
  obtain⟨⟨cs,h1,h2,h3,h4⟩,h5⟩:=h
  refine⟨⟨cs,h1,fun j hj=>?_,h3,D.C_mono hF hw d _ h4⟩,D.Cr_congr hF hw ag b b' _ _ ds (fun j hj=>?_) h5⟩
  ·rw[hc j (by simp only[List.length_cons,Nat.succ_mul];omega)]
   exact h2 j hj
  ·have:=hc (es ag+j) (by simp only[List.length_cons,Nat.succ_mul];omega)
   simpa [Nat.add_assoc] using this
theorem D.Cr_get{F:Nat->Prop}{w:World}(ag:Option Nat)(b:Nat) :
  ∀(off:Nat) (ds:List D),D.Cr F w ag b off ds->∀(i:Nat) (d:D),ds[i]?=some d ->
   ∃cs,cs.length=es ag/\(∀j,j<es ag->w.cell? ⟨b,off+i*es ag+j,none⟩=cs[j]?)/\d.isAgg=ag.isSome/\D.C F w d cs
 | _,[],_,i,d,h=>by simp at h
 | off,d :: ds,h,0,d',hd=>by
  simp only[D.Cr]at h
  simp at hd
  subst hd
  simpa using h.1
 | off,d :: ds,h,i+1,d',hd=>by
  simp only[D.Cr]at h
  have:=D.Cr_get ag b (off+es ag) ds h.2 i d' (by simpa using hd)
  simpa [Nat.succ_mul,Nat.add_assoc,Nat.add_comm (es ag)] using this
theorem D.Cr_of_get{F:Nat->Prop}{w:World}(ag:Option Nat)(b:Nat) :
  ∀(off:Nat) (ds:List D),(∀(i:Nat) (d:D),ds[i]?=some d ->
   ∃cs,cs.length=es ag/\(∀j,j<es ag->w.cell? ⟨b,off+i*es ag+j,none⟩=cs[j]?)/\d.isAgg=ag.isSome/\D.C F w d cs)->D.Cr F w ag b off ds
 | _,[],_=>by simp only[D.Cr]
 | off,d :: ds,h=>by
  simp only[D.Cr]
  refine⟨by simpa using h 0 d rfl,D.Cr_of_get ag b _ ds fun i d' hd=>?_⟩
  have:=h (i+1) d' (by simpa using hd)
  simpa [Nat.succ_mul,Nat.add_assoc,Nat.add_comm (es ag)] using this
theorem D.Cr_iff{F:Nat->Prop}{w:World}{ag:Option Nat}{b off:Nat}{ds:List D}:D.Cr F w ag b off ds↔∀(i:Nat) (d:D),ds[i]?=some d ->
   ∃cs,cs.length=es ag/\(∀j,j<es ag->w.cell? ⟨b,off+i*es ag+j,none⟩=cs[j]?)/\d.isAgg=ag.isSome/\D.C F w d cs :=
 ⟨fun h i d hd=>D.Cr_get ag b off ds h i d hd,D.Cr_of_get ag b off ds⟩
theorem D.Cs_length{F:Nat->Prop}{w:World}:∀(ds:List D) (cs:List Value),D.Cs F w ds cs->cs.length=ds.length
 | [],cs,h=>by simp only[D.Cs]at h;simp[h]
 | d :: ds,cs,h=>by
  simp only[D.Cs]at h
  obtain⟨c,cs',rfl,_,_,h4⟩:=h
  simp[D.Cs_length ds cs' h4]
theorem D.Cs_iff{F:Nat->Prop}{w:World}{ds:List D}:∀{cs:List Value},D.Cs F w ds cs↔cs.length=ds.length/\∀(i:Nat) (d:D) (c:Value),ds[i]?=some d->cs[i]?=some c->d.isAgg=false/\D.C F w d [c]:=by
 induction ds with
 | nil=>intro cs;simp[D.Cs]
 | cons d ds ih =>
  intro cs
  cases cs with
  | nil=>simp[D.Cs]
  | cons c cs =>
   simp only[D.Cs]
   constructor
   ·rintro ⟨c',cs',h,h1,h2,h5⟩
    obtain⟨h3,h4⟩:=ih.1 h5
    simp only[List.cons.injEq]at h
    obtain⟨rfl,rfl⟩:=h
    refine⟨by simp[h3],fun i d' c' hd hc=>?_⟩
    cases i with
    | zero=>simp at hd hc;subst hd;subst hc;exact⟨h1,h2⟩
    | succ i=>exact h4 i d' c' (by simpa using hd) (by simpa using hc)
   ·rintro ⟨h3,h4⟩
    exact⟨c,cs,rfl,(h4 0 d c rfl rfl).1,(h4 0 d c rfl rfl).2,ih.2 ⟨by simpa using h3,fun i d' c' hd hc=>h4 (i+1) d' c' (by simpa using hd) (by simpa using hc)⟩⟩
theorem D.C_one{F:Nat->Prop}{w:World}{d:D}{c:Value}(ha:d.isAgg=false)(h:D.C F w d [c]):c.oneCell'=true:=by
 cases d with
 | agg ds=>simp[D.isAgg]at ha
 | int k n=>simp only[D.C]at h;obtain⟨h,_⟩:=h;simp at h;subst h;rfl
 | bool b=>simp only[D.C]at h;simp at h;subst h;rfl
 | str s=>simp only[D.C]at h;obtain⟨h,_⟩:=h;simp at h;subst h;rfl
 | sl ag xs=>simp only[D.C]at h;obtain⟨a,cap,h,_⟩:=h;simp at h;subst h;rfl
theorem D.C_single{F:Nat->Prop}{w:World}{d:D}{cs:List Value}(ha:d.isAgg=false)(h:D.C F w d cs):∃c,cs=[c]:=by
 cases d with
 | agg ds=>simp[D.isAgg]at ha
 | int k n=>simp only[D.C]at h;exact⟨_,h.1⟩
 | bool b=>simp only[D.C]at h;exact⟨_,h⟩
 | str s=>simp only[D.C]at h;exact⟨_,h.1⟩
 | sl ag xs=>simp only[D.C]at h;obtain⟨a,cap,h,_⟩:=h;exact⟨_,h⟩
theorem D.R_cells{F:Nat->Prop}{w:World}{d:D}{v:Value}(h:D.R F w d v):D.C F w d v.cells.toList/\(d.isAgg=false->v.cells.toList=[v]/\v.oneCell'=true):=by
 cases d with
 | agg ds =>
  obtain⟨arr,rfl,h2⟩:=h
  simp only[D.C,Value.cells,D.isAgg]
  exact⟨by simpa using h2,by simp⟩
 | _ =>
  have h1:v.oneCell'=true:=D.C_one rfl h
  have h2:v.cells=#[v]:=by cases v <;> first|rfl|simp[Value.oneCell']at h1
  rw[h2]
  exact⟨h,fun _=>⟨rfl,h1⟩⟩
theorem D.R_plain{F:Nat->Prop}{w:World}{d:D}{v:Value}(ha:d.isAgg=false):D.R F w d v↔D.C F w d [v]:=by
 cases d <;> first|(simp[D.isAgg]at ha;done)|rfl
theorem D.R_of_C_agg{F:Nat->Prop}{w:World}{d:D}{cs:List Value}(ha:d.isAgg=true)(h:D.C F w d cs):D.R F w d (.agg cs.toArray):=by
 cases d <;> first|(simp[D.isAgg]at ha;done)|(simp only[D.C]at h;exact⟨cs,rfl,h⟩)
def globs:Nat->Option (Option Nat×D):=fun _=>none
structure Loc where
 nil:Bool
 b:Nat
 base:Nat
 n:Nat
 sz:Nat
inductive AV where
 | dat (d:D)
 | nils
 | nilm
 | sl (o off len:Nat)
 | ptr (o i j:Nat)
 | rptr (ag:Option Nat) (d:D)
 | agg (vs:List AV)
 | tup (vs:List AV)
 | map (o:Nat)
 | yld (o:Nat)
 | fn (f:Nat) (caps:List AV)
 | top
deriving Inhabited
inductive Obj where
 | row (ag:Option Nat) (xs:List D)
 | vec (cs:List AV)
 | tab (k:Nat) (cs:List AV)
 | box (cs:List AV)
 | lp (r:Loop) (cs:List AV)
 | bld (T:TypeId) (u:Bool) (cs:List AV)
 | brow (e:TypeId) (bs:List UInt8)
 | map (m:List (D×D))
 | dead
deriving Inhabited
mutual
def AV.R(F:Nat->Prop)(φ:Nat->Option Loc)(w:World):AV->Value->Prop
 | .dat d,v=>D.R F w d v
 | .nils,v=>v=.slice none 0 0
 | .nilm,v=>v=.map none
 | .sl o off len,v=>∃L,φ o=some L/\((L.nil=true/\off=0/\len=0/\v=.slice none 0 0) ∨
   (L.nil=false/\∃c cap,v=.slice (some ⟨L.b,c,none⟩) len cap/\len<=cap/\cap<=maxLen/\(cap=0∨c=L.base+off*L.sz)/\L.base+(off+cap)*L.sz<=L.n))
 | .ptr o i j,v=>∃L,φ o=some L/\L.nil=false/\v=.pointer (some ⟨L.b,L.base+i*L.sz+j,none⟩)
 | .rptr ag d,v=>∃b off cs,v=.pointer (some ⟨b,off,none⟩)/\F b/\cs.length=es ag/\(∀j,j<es ag->w.cell? ⟨b,off+j,none⟩=cs[j]?)/\d.isAgg=ag.isSome/\D.C F w d cs
 | .agg vs,v=>∃arr:List Value,v=.agg arr.toArray/\AV.Ra F φ w vs arr
 | .tup vs,v=>∃arr:List Value,v=.tuple arr.toArray/\AV.Rs F φ w vs arr
 | .map o,v=>∃L,φ o=some L/\L.nil=false/\v=.map (some L.b)
 | .yld o,v=>∃L,φ o=some L/\L.nil=false/\v=.func (.yield L.b) #[] #[]
 | .fn f caps,v=>∃arr:List Value,v=.func (.func f) #[] arr.toArray/\AV.Rs F φ w caps arr
 | .top,_=>True
def AV.Rs(F:Nat->Prop)(φ:Nat->Option Loc)(w:World):List AV->List Value->Prop
 | [],vs=>vs=[]
 | a :: as,vs=>∃v vs',vs=v :: vs'/\AV.R F φ w a v/\AV.Rs F φ w as vs'
def AV.Ra(F:Nat->Prop)(φ:Nat->Option Loc)(w:World):List AV->List Value->Prop
 | [],vs=>vs=[]
 | a :: as,vs=>∃v vs',vs=v :: vs'/\v.oneCell'=true/\AV.R F φ w a v/\AV.Ra F φ w as vs'
end
mutual
def AV.kill(o:Nat):AV->AV
 | .sl o' i j=>if o'=o then .top else .sl o' i j
 | .ptr o' i j=>if o'=o then .top else .ptr o' i j
 | .map o'=>if o'=o then .top else .map o'
 | .yld o'=>if o'=o then .top else .yld o'
 | .agg vs=>.agg (AV.kills o vs)
 | .tup vs=>.tup (AV.kills o vs)
 | .fn f vs=>.fn f (AV.kills o vs)
 | .dat d=>.dat d
 | .nils=>.nils
 | .nilm=>.nilm
 | .rptr ag d=>.rptr ag d
 | .top=>.top
def AV.kills(o:Nat):List AV->List AV
 | []=>[]
 | a :: as=>a.kill o :: AV.kills o as
end
def Obj.kill(o:Nat):Obj->Obj
 | .box cs=>.box (AV.kills o cs)
 | .lp r cs=>.lp r (AV.kills o cs)
 | .bld T u cs=>.bld T u (AV.kills o cs)
 | .vec cs=>.vec (AV.kills o cs)
 | .tab k cs=>.tab k (AV.kills o cs)
 | x=>x
mutual
theorem AV.R_kill{F F':Nat->Prop}{φ φ':Nat->Option Loc}{w w':World}{o:Nat}(hF:∀b,F b->F' b)(hw:Same F w w')
  (hφ:∀o' L,o'≠o->φ o'=some L->φ' o'=some L):∀(a:AV) (v:Value),AV.R F φ w a v->AV.R F' φ' w' (a.kill o) v
 | .dat d,v,h=>by
  simp only[AV.kill,AV.R]at h ⊢
  exact D.R_mono hF hw h
 | .nils,_,h=>by simpa only[AV.kill,AV.R] using h
 | .nilm,_,h=>by simpa only[AV.kill,AV.R] using h
 | .sl o' i j,v,h=>by
  simp only[AV.kill]
  split
  ·simp only[AV.R]
  ·rename_i hne
   simp only[AV.R]at h ⊢
   obtain⟨L,h1,h2⟩:=h
   exact⟨L,hφ o' L hne h1,h2⟩
 | .ptr o' i j,v,h=>by
  simp only[AV.kill]
  split
  ·simp only[AV.R]
  ·rename_i hne
   simp only[AV.R]at h ⊢
   obtain⟨L,h1,h2⟩:=h
   exact⟨L,hφ o' L hne h1,h2⟩
 | .rptr ag d,v,h=>by
  simp only[AV.kill,AV.R]at h ⊢
  obtain⟨b,off,cs,h1,h2,h5,h3,h6,h4⟩:=h
  exact⟨b,off,cs,h1,hF b h2,h5,fun j hj=>(hw.cell h2 _).trans (h3 j hj),h6,D.C_mono hF hw _ _ h4⟩
 | .agg vs,v,h=>by
  simp only[AV.kill,AV.R]at h ⊢
  obtain⟨arr,h1,h2⟩:=h
  exact⟨arr,h1,AV.Ra_kill hF hw hφ vs arr h2⟩
 | .tup vs,v,h=>by
  simp only[AV.kill,AV.R]at h ⊢
  obtain⟨arr,h1,h2⟩:=h
  exact⟨arr,h1,AV.Rs_kill hF hw hφ vs arr h2⟩
 | .map o',v,h=>by
  simp only[AV.kill]
  split
  ·simp only[AV.R]
  ·rename_i hne
   simp only[AV.R]at h ⊢
   obtain⟨L,h1,h2⟩:=h
   exact⟨L,hφ o' L hne h1,h2⟩
 | .yld o',v,h=>by
  simp only[AV.kill]
  split
  ·simp only[AV.R]
  ·rename_i hne
   simp only[AV.R]at h ⊢
   obtain⟨L,h1,h2⟩:=h
   exact⟨L,hφ o' L hne h1,h2⟩
 | .fn f vs,v,h=>by
  simp only[AV.kill,AV.R]at h ⊢
  obtain⟨arr,h1,h2⟩:=h
  exact⟨arr,h1,AV.Rs_kill hF hw hφ vs arr h2⟩
 | .top,_,_=>by simp only[AV.kill,AV.R]
theorem AV.Rs_kill{F F':Nat->Prop}{φ φ':Nat->Option Loc}{w w':World}{o:Nat}(hF:∀b,F b->F' b)(hw:Same F w w')
  (hφ:∀o' L,o'≠o->φ o'=some L->φ' o'=some L):∀(as:List AV) (vs:List Value),AV.Rs F φ w as vs->AV.Rs F' φ' w' (AV.kills o as) vs
 | [],_,h=>by simpa only[AV.kills,AV.Rs] using h
 | a :: as,vs,h=>by
  simp only[AV.kills,AV.Rs]at h ⊢
  obtain⟨v,vs',h1,h2,h3⟩:=h
  exact⟨v,vs',h1,AV.R_kill hF hw hφ a v h2,AV.Rs_kill hF hw hφ as vs' h3⟩
theorem AV.Ra_kill{F F':Nat->Prop}{φ φ':Nat->Option Loc}{w w':World}{o:Nat}(hF:∀b,F b->F' b)(hw:Same F w w')
  (hφ:∀o' L,o'≠o->φ o'=some L->φ' o'=some L):∀(as:List AV) (vs:List Value),AV.Ra F φ w as vs->AV.Ra F' φ' w' (AV.kills o as) vs
 | [],_,h=>by simpa only[AV.kills,AV.Ra] using h
 | a :: as,vs,h=>by
  simp only[AV.kills,AV.Ra]at h ⊢
  obtain⟨v,vs',h1,h0,h2,h3⟩:=h
  exact⟨v,vs',h1,h0,AV.R_kill hF hw hφ a v h2,AV.Ra_kill hF hw hφ as vs' h3⟩
end
mutual
theorem AV.R_mono{F F':Nat->Prop}{φ φ':Nat->Option Loc}{w w':World}(hF:∀b,F b->F' b)(hw:Same F w w')
  (hφ:∀o' L,φ o'=some L->φ' o'=some L):∀(a:AV) (v:Value),AV.R F φ w a v->AV.R F' φ' w' a v
 | .dat d,v,h=>by
  simp only[AV.R]at h ⊢
  exact D.R_mono hF hw h
 | .nils,_,h=>by simpa only[AV.R] using h
 | .nilm,_,h=>by simpa only[AV.R] using h
 | .sl o' i j,v,h=>by
  simp only[AV.R]at h ⊢
  obtain⟨L,h1,h2⟩:=h
  exact⟨L,hφ o' L h1,h2⟩
 | .ptr o' i j,v,h=>by
  simp only[AV.R]at h ⊢
  obtain⟨L,h1,h2⟩:=h
  exact⟨L,hφ o' L h1,h2⟩
 | .rptr ag d,v,h=>by
  simp only[AV.R]at h ⊢
  obtain⟨b,off,cs,h1,h2,h5,h3,h6,h4⟩:=h
  exact⟨b,off,cs,h1,hF b h2,h5,fun j hj=>(hw.cell h2 _).trans (h3 j hj),h6,D.C_mono hF hw _ _ h4⟩
 | .agg vs,v,h=>by
  simp only[AV.R]at h ⊢
  obtain⟨arr,h1,h2⟩:=h
  exact⟨arr,h1,AV.Ra_mono hF hw hφ vs arr h2⟩
 | .tup vs,v,h=>by
  simp only[AV.R]at h ⊢
  obtain⟨arr,h1,h2⟩:=h
  exact⟨arr,h1,AV.Rs_mono hF hw hφ vs arr h2⟩
 | .map o',v,h=>by
  simp only[AV.R]at h ⊢
  obtain⟨L,h1,h2⟩:=h
  exact⟨L,hφ o' L h1,h2⟩
 | .yld o',v,h=>by
  simp only[AV.R]at h ⊢
  obtain⟨L,h1,h2⟩:=h
  exact⟨L,hφ o' L h1,h2⟩
 | .fn f vs,v,h=>by
  simp only[AV.R]at h ⊢
  obtain⟨arr,h1,h2⟩:=h
  exact⟨arr,h1,AV.Rs_mono hF hw hφ vs arr h2⟩
 | .top,_,_=>by simp only[AV.R]
theorem AV.Rs_mono{F F':Nat->Prop}{φ φ':Nat->Option Loc}{w w':World}(hF:∀b,F b->F' b)(hw:Same F w w')
  (hφ:∀o' L,φ o'=some L->φ' o'=some L):∀(as:List AV) (vs:List Value),AV.Rs F φ w as vs->AV.Rs F' φ' w' as vs
 | [],_,h=>by simpa only[AV.Rs] using h
 | a :: as,vs,h=>by
  simp only[AV.Rs]at h ⊢
  obtain⟨v,vs',h1,h2,h3⟩:=h
  exact⟨v,vs',h1,AV.R_mono hF hw hφ a v h2,AV.Rs_mono hF hw hφ as vs' h3⟩
theorem AV.Ra_mono{F F':Nat->Prop}{φ φ':Nat->Option Loc}{w w':World}(hF:∀b,F b->F' b)(hw:Same F w w')
  (hφ:∀o' L,φ o'=some L->φ' o'=some L):∀(as:List AV) (vs:List Value),AV.Ra F φ w as vs->AV.Ra F' φ' w' as vs
 | [],_,h=>by simpa only[AV.Ra] using h
 | a :: as,vs,h=>by
  simp only[AV.Ra]at h ⊢
  obtain⟨v,vs',h1,h0,h2,h3⟩:=h
  exact⟨v,vs',h1,h0,AV.R_mono hF hw hφ a v h2,AV.Ra_mono hF hw hφ as vs' h3⟩
end
section
variable {F:Nat->Prop} {φ:Nat->Option Loc} {w:World}
theorem AV.Rs_length:∀{as:List AV} {vs:List Value},AV.Rs F φ w as vs->vs.length=as.length
 | [],vs,h=>by simp only[AV.Rs]at h;simp[h]
 | a :: as,vs,h=>by
  simp only[AV.Rs]at h
  obtain⟨v,vs',rfl,_,h3⟩:=h
  simp[AV.Rs_length h3]
theorem AV.Rs_get:∀{as:List AV} {vs:List Value},AV.Rs F φ w as vs->∀i,AV.R F φ w (as.getD i .top) (vs.getD i undef)
 | [],vs,h,i=>by simp[AV.R]
 | a :: as,vs,h,i=>by
  simp only[AV.Rs]at h
  obtain⟨v,vs',rfl,h2,h3⟩:=h
  cases i with
  | zero=>simpa using h2
  | succ i=>simpa using AV.Rs_get h3 i
theorem AV.Rs_set:∀{as:List AV} {vs:List Value},AV.Rs F φ w as vs->∀(i:Nat) (a:AV) (v:Value),AV.R F φ w a v->AV.Rs F φ w (as.set i a) (vs.set i v)
 | [],vs,h,i,a,v,_=>by simp only[AV.Rs]at h;subst h;simp[AV.Rs]
 | a' :: as,vs,h,i,a,v,hv=>by
  simp only[AV.Rs]at h
  obtain⟨v',vs',rfl,h2,h3⟩:=h
  cases i with
  | zero=>simp only[List.set_cons_zero,AV.Rs];exact⟨v,vs',rfl,hv,h3⟩
  | succ i=>simp only[List.set_cons_succ,AV.Rs];exact⟨v',_,rfl,h2,AV.Rs_set h3 i a v hv⟩
theorem AV.Ra_iff{as:List AV}:∀{vs:List Value},AV.Ra F φ w as vs↔AV.Rs F φ w as vs/\∀v∈vs,v.oneCell'=true:=by
 induction as with
 | nil=>intro vs;simp only[AV.Ra,AV.Rs];constructor <;> (intro h;first|(subst h;simp)|exact h.1)
 | cons a as ih =>
  intro vs
  simp only[AV.Ra,AV.Rs]
  constructor
  ·rintro ⟨v,vs',rfl,h0,h1,h2⟩
   obtain⟨h3,h4⟩:=ih.1 h2
   exact⟨⟨v,vs',rfl,h1,h3⟩,fun u hu=>by rcases List.mem_cons.1 hu with rfl|hu <;> first|exact h0|exact h4 u hu⟩
  ·rintro ⟨⟨v,vs',rfl,h1,h3⟩,h4⟩
   exact⟨v,vs',rfl,h4 v (by simp),h1,ih.2 ⟨h3,fun u hu=>h4 u (by simp[hu])⟩⟩
theorem AV.Rs_append:∀{as bs:List AV} {vs us:List Value},AV.Rs F φ w as vs->AV.Rs F φ w bs us->AV.Rs F φ w (as++bs) (vs++us)
 | [],bs,vs,us,h,k=>by simp only[AV.Rs]at h;subst h;simpa using k
 | a :: as,bs,vs,us,h,k=>by
  simp only[AV.Rs]at h
  obtain⟨v,vs',rfl,h2,h3⟩:=h
  simp only[List.cons_append,AV.Rs]
  exact⟨v,_,rfl,h2,AV.Rs_append h3 k⟩
theorem AV.Rs_tops(n:Nat):∀{vs:List Value},vs.length=n->AV.Rs F φ w (List.replicate n .top) vs:=by
 induction n with
 | zero=>intro vs h;simpa [AV.Rs] using h
 | succ n ih =>
  intro vs h
  cases vs with
  | nil=>simp at h
  | cons v vs=>simp only[List.replicate_succ,AV.Rs];exact⟨v,vs,rfl,by simp only[AV.R],ih (by simpa using h)⟩
end
def mapR(F:Nat->Prop)(w:World):List (D×D)->List MapEntry->Prop
 | [],es=>es=[]
 | x :: m,es=>∃e es',es=e :: es'/\D.R F w x.1 e.key/\D.R F w x.2 e.val/\mapR F w m es'
theorem mapR_mono{F F':Nat->Prop}{w w':World}(hF:∀b,F b->F' b)(hw:Same F w w'):∀(m:List (D×D)) (es:List MapEntry),mapR F w m es->mapR F' w' m es
 | [],_,h=>by simpa only[mapR] using h
 | x :: m,es,h=>by
  simp only[mapR]at h ⊢
  obtain⟨e,es',h1,h2,h3,h4⟩:=h
  exact⟨e,es',h1,D.R_mono hF hw h2,D.R_mono hF hw h3,mapR_mono hF hw m es' h4⟩
def bldP(L:Loc)(u:Bool):Value:=if u then .pointer (some ⟨L.b,0,none⟩) else .pointer none
def ObjR(F:Nat->Prop)(φ:Nat->Option Loc)(w:World):Option Loc->Obj->Prop
 | some L,.row ag xs=>L.sz=es ag/\((L.nil=true/\xs=[])∨(L.nil=false/\(∃arr ty,w.heap[L.b]?=some (.cells arr ty (0,0))/\arr.size=L.n) /\
   L.base+xs.length*L.sz<=L.n/\D.Cr F w ag L.b L.base xs))
 | some L,.vec cs=>L.sz=1/\((L.nil=true/\cs=[])∨(L.nil=false/\∃arr ty,w.heap[L.b]?=some (.cells arr ty (0,0))/\arr.size=L.n/\L.base+cs.length<=L.n /\
   ∃vs,AV.Ra F φ w cs vs/\∀j,j<cs.length->arr[L.base+j]?=vs[j]?))
 | some L,.tab k cs=>L.sz=k/\((L.nil=true/\cs=[])∨(L.nil=false/\∃arr ty,w.heap[L.b]?=some (.cells arr ty (0,0))/\arr.size=L.n/\L.base+cs.length<=L.n /\
   ∃vs,AV.Ra F φ w cs vs/\∀j,j<cs.length->arr[L.base+j]?=vs[j]?))
 | some L,.box cs=>L.nil=false/\L.base=0/\∃(arr:List Value) (ty:TypeId),w.heap[L.b]?=some (.cells arr.toArray ty (0,0))/\arr.length=L.n/\AV.Ra F φ w cs arr
 | some L,.lp r cs=>L.nil=false/\L.base=0/\∃(arr:List Value) (ty:Unit),w.heap[L.b]?=some (.loop { r with tmps:=arr.toArray })/\True/\AV.Rs F φ w cs arr
 | some L,.bld T u cs=>L.nil=false/\L.base=0/\∃(arr:List Value) (ty:Unit),w.heap[L.b]?=some (.cells (bldP L u :: arr).toArray T (0,0))/\arr.length=1/\AV.Rs F φ w cs arr
 | some L,.brow e bs=>L.sz=1/\((L.nil=true/\bs=[])∨(L.nil=false/\∃arr:Array Value,w.heap[L.b]?=some (.cells arr e (0,0))/\arr.size=L.n/\L.base=0/\bs.length<=L.n/\∀j,j<bs.length->arr[j]?=(bs[j]?).map fun b=>Value.int .u8 (b.toNat:Int)))
 | some L,.map m=>L.nil=false/\∃es clock,w.heap[L.b]?=some (.map es clock)/\mapR F w m es.toList
 | _,.dead=>True
 | none,_=>False
def GlobOk(F:Nat->Prop)(w:World):Prop:=∀g ag d,globs g=some (ag,d)->∃cs:List Value,F g/\cs.length=es ag/\(∀j,j<es ag->w.cell? ⟨g,0+j,none⟩=cs[j]?)/\d.isAgg=ag.isSome/\D.C F w d cs/\∃ty fr,w.heap[g]?=some (.cells cs.toArray ty fr)
theorem GlobOk.mono{F F':Nat->Prop}{w w':World}(hF:∀b,F b->F' b)(hw:Same F w w')(h:GlobOk F w):GlobOk F' w':=fun g ag d hg=>by
 obtain⟨cs,h1,h2,h3,h4,h5,ty,fr,h6⟩:=h g ag d hg
 exact⟨cs,hF g h1,h2,fun j hj=>by rw[hw.cell h1];exact h3 j hj,h4,D.C_mono hF hw _ _ h5,ty,fr,(hw g h1).trans h6⟩
structure Conc (F:Nat->Prop) (φ:Nat->Option Loc) (own:List Obj) (w:World):Prop where
 fb:∀b,F b->b<w.heap.size
 live:∀o L,φ o=some L->L.nil=false->¬F L.b/\L.b<w.heap.size
 inj:∀o o' L L',φ o=some L->φ o'=some L'->L.nil=false->L'.nil=false->o≠o'->L.b≠L'.b
 rep:∀o obj,own[o]?=some obj->ObjR F φ w (φ o) obj
 out:∀o,own.length<=o->φ o=none
 glob:GlobOk F w
structure Ext (F:Nat->Prop) (w w':World):Prop where
 os:w'.os=w.os
 tape:w'.tape=w.tape
 output:w'.output=w.output
 size:w.heap.size<=w'.heap.size
 same:Same F w w'
 drn:w.drawn<=w'.drawn
theorem Same.refl(F:Nat->Prop)(w:World):Same F w w:=fun _ _=>rfl
theorem Same.trans{F:Nat->Prop}{a b c:World}(h:Same F a b)(k:Same F b c):Same F a c:=fun i hi=>(k i hi).trans (h i hi)
theorem Same.mono{F F':Nat->Prop}{a b:World}(h:Same F a b)(hF:∀i,F' i->F i):Same F' a b:=fun i hi=>h i (hF i hi)
theorem Ext.refl(F:Nat->Prop)(w:World):Ext F w w:=⟨rfl,rfl,rfl,Nat.le_refl _,Same.refl F w,Nat.le_refl _⟩
theorem Ext.trans{F:Nat->Prop}{a b c:World}(h:Ext F a b)(k:Ext F b c):Ext F a c :=
 ⟨k.os.trans h.os,k.tape.trans h.tape,k.output.trans h.output,Nat.le_trans h.size k.size,h.same.trans k.same,Nat.le_trans h.drn k.drn⟩
theorem Ext.mono{F F':Nat->Prop}{a b:World}(h:Ext F a b)(hF:∀i,F' i->F i):Ext F' a b :=
 ⟨h.os,h.tape,h.output,h.size,h.same.mono hF,h.drn⟩
theorem D.Cr_own{F:Nat->Prop}{w w':World}{ag:Option Nat}{b off:Nat}{ds:List D}(hw:Same F w w')(hb:w'.heap[b]?=w.heap[b]?)(h:D.Cr F w ag b off ds):D.Cr F w' ag b off ds :=
 D.Cr_congr (fun _ h=>h) hw ag b b off off ds (fun j _=>by simp[World.cell?,hb]) h
theorem ObjR.same{F:Nat->Prop}{φ φ':Nat->Option Loc}{w w':World}{l:Option Loc}{obj:Obj}(hw:Same F w w')(hφ:∀o' L,φ o'=some L->φ' o'=some L)
  (hb:∀L,l=some L->L.nil=false->w'.heap[L.b]?=w.heap[L.b]?) (h:ObjR F φ w l obj):ObjR F φ' w' l obj:=by
 cases l with
 | none=>cases obj <;> simp only[ObjR]at h ⊢
 | some L =>
  cases obj with
  | row ag xs =>
   simp only[ObjR]at h ⊢
   obtain⟨h1,h2⟩:=h
   refine⟨h1,?_⟩
   rcases h2 with h2|⟨h2,⟨arr,ty,h3,h4⟩,h5,h6⟩
   ·exact .inl h2
   ·exact .inr ⟨h2,⟨arr,ty,(hb L rfl h2).trans h3,h4⟩,h5,D.Cr_own hw (hb L rfl h2) h6⟩
  | vec cs =>
   simp only[ObjR]at h ⊢
   obtain⟨h1,h2⟩:=h
   refine⟨h1,?_⟩
   rcases h2 with h2|⟨h2,arr,ty,h3,h4,h5,vs,h6,h7⟩
   ·exact .inl h2
   ·exact .inr ⟨h2,arr,ty,(hb L rfl h2).trans h3,h4,h5,vs,AV.Ra_mono (fun _ h=>h) hw hφ _ _ h6,h7⟩
  | tab k0 cs =>
   simp only[ObjR]at h ⊢
   obtain⟨h1,h2⟩:=h
   refine⟨h1,?_⟩
   rcases h2 with h2|⟨h2,arr,ty,h3,h4,h5,vs,h6,h7⟩
   ·exact .inl h2
   ·exact .inr ⟨h2,arr,ty,(hb L rfl h2).trans h3,h4,h5,vs,AV.Ra_mono (fun _ h=>h) hw hφ _ _ h6,h7⟩
  | box cs =>
   simp only[ObjR]at h ⊢
   obtain⟨h1,h2,arr,ty,h3,h4,h5⟩:=h
   exact⟨h1,h2,arr,ty,(hb L rfl h1).trans h3,h4,AV.Ra_mono (fun _ h=>h) hw hφ _ _ h5⟩
  | lp r0 cs =>
   simp only[ObjR]at h ⊢
   obtain⟨h1,h2,arr,ty,h3,h4,h5⟩:=h
   exact⟨h1,h2,arr,ty,(hb L rfl h1).trans h3,h4,AV.Rs_mono (fun _ h=>h) hw hφ _ _ h5⟩
  | bld T0 u0 cs =>
   simp only[ObjR]at h ⊢
   obtain⟨h1,h2,arr,ty,h3,h4,h5⟩:=h
   exact⟨h1,h2,arr,ty,(hb L rfl h1).trans h3,h4,AV.Rs_mono (fun _ h=>h) hw hφ _ _ h5⟩
  | brow e0 bs0 =>
   simp only[ObjR]at h ⊢
   obtain⟨h1,h2⟩:=h
   refine⟨h1,?_⟩
   rcases h2 with h2|⟨h2,arr,h3,h4⟩
   ·exact .inl h2
   ·exact .inr ⟨h2,arr,(hb L rfl h2).trans h3,h4⟩
  | map m =>
   simp only[ObjR]at h ⊢
   obtain⟨h1,es,clock,h3,h4⟩:=h
   exact⟨h1,es,clock,(hb L rfl h1).trans h3,mapR_mono (fun _ h=>h) hw _ _ h4⟩
  | dead=>simp only[ObjR]
section
variable {F:Nat->Prop} {φ:Nat->Option Loc} {own:List Obj} {w w':World}
theorem Conc.same(h:Conc F φ own w)(hs:w.heap.size<=w'.heap.size)(hw:∀b,b<w.heap.size->w'.heap[b]?=w.heap[b]?):Conc F φ own w' where
 fb b hb:=Nat.lt_of_lt_of_le (h.fb b hb) hs
 live o L ho hn:=⟨(h.live o L ho hn).1,Nat.lt_of_lt_of_le (h.live o L ho hn).2 hs⟩
 inj:=h.inj
 rep o obj ho:=(h.rep o obj ho).same (fun b hb=>hw b (h.fb b hb)) (fun _ _ h=>h) (fun L hL hn=>hw _ (h.live o L hL hn).2)
 out:=h.out
 glob:=h.glob.mono (fun _ h=>h) (fun b hb=>hw b (h.fb b hb))
theorem Conc.sameF(h:Conc F φ own w)(hw:∀b,b<w.heap.size->w'.heap[b]?=w.heap[b]?):Same F w w':=fun b hb=>hw b (h.fb b hb)
theorem Conc.update(h:Conc F φ own w){o:Nat}{L:Loc}{obj:Obj}(ho:φ o=some L)(hn:L.nil=false)(hs:w'.heap.size=w.heap.size)
  (hw:∀b,b≠L.b->w'.heap[b]?=w.heap[b]?) (hnew:ObjR F φ w' (some L) obj):Conc F φ (own.set o obj) w' where
 fb b hb:=by rw[hs];exact h.fb b hb
 live o L ho hn:=by rw[hs];exact h.live o L ho hn
 inj:=h.inj
 rep o' obj' ho':=by
  rw[List.getElem?_set]at ho'
  have hF:Same F w w':=fun b hb=>hw b (fun e=>(h.live o L ho hn).1 (e ▸ hb))
  by_cases e:o=o'
  ·subst e
   by_cases hlt:o<own.length
   ·simp only[if_true,hlt]at ho'
    cases ho'
    rw[ho];exact hnew
   ·simp[hlt]at ho'
  ·simp only[e,if_false]at ho'
   refine(h.rep o' obj' ho').same hF (fun _ _ h=>h) (fun L' hL' hn'=>hw _ (h.inj o' o L' L hL' ho hn' hn (fun e'=>e e'.symm)))
 out o' ho':=h.out o' (by simpa using ho')
 glob:=h.glob.mono (fun _ h=>h) (fun b hb=>hw b (fun e=>(h.live o L ho hn).1 (e ▸ hb)))
theorem Conc.sameOf(h:Conc F φ own w){o:Nat}{L:Loc}(ho:φ o=some L)(hn:L.nil=false)(hw:∀b,b≠L.b->w'.heap[b]?=w.heap[b]?):Same F w w' :=
 fun b hb=>hw b (fun e=>(h.live o L ho hn).1 (e ▸ hb))
def ext(φ:Nat->Option Loc)(o:Nat)(L:Loc):Nat->Option Loc:=fun i=>if i=o then some L else φ i
theorem ext_old{φ:Nat->Option Loc}{own:List Obj}{F:Nat->Prop}{w:World}(h:Conc F φ own w)(L:Loc):∀o' L',φ o'=some L'->ext φ own.length L o'=some L':=by
 intro o' L' ho
 unfold ext
 rw[if_neg ?_];· exact ho
 intro e
 subst e
 rw[h.out _ (Nat.le_refl _)]at ho
 cases ho
theorem Conc.new(h:Conc F φ own w){L:Loc}{obj:Obj}(hs:w.heap.size<=w'.heap.size)(hw:∀b,b<w.heap.size->w'.heap[b]?=w.heap[b]?)
  (hL:L.nil=false->w.heap.size<=L.b/\L.b<w'.heap.size) (hnew:ObjR F (ext φ own.length L) w' (some L) obj):Conc F (ext φ own.length L) (own++[obj]) w' where
 fb b hb:=Nat.lt_of_lt_of_le (h.fb b hb) hs
 live o L' ho hn:=by
  unfold ext at ho
  split at ho
  ·cases ho
   exact⟨fun hF=>by have:=h.fb _ hF;have:=(hL hn).1;omega,(hL hn).2⟩
  ·exact⟨(h.live o L' ho hn).1,Nat.lt_of_lt_of_le (h.live o L' ho hn).2 hs⟩
 inj o o' L1 L2 h1 h2 n1 n2 hne:=by
  unfold ext at h1 h2
  split at h1 <;> split at h2
  ·omega
  ·cases h1
   have a:=(h.live o' L2 h2 n2).2
   have b:=(hL n1).1
   omega
  ·cases h2
   have a:=(h.live o L1 h1 n1).2
   have b:=(hL n2).1
   omega
  ·exact h.inj o o' L1 L2 h1 h2 n1 n2 hne
 rep o obj' ho:=by
  by_cases hlt:o<own.length
  ·rw[List.getElem?_append_left hlt]at ho
   have e:ext φ own.length L o=φ o:=by unfold ext;rw[if_neg (by omega)]
   rw[e]
   exact(h.rep o obj' ho).same (fun b hb=>hw b (h.fb b hb)) (ext_old h L) (fun L' hL' hn=>hw _ (h.live o L' hL' hn).2)
  ·rw[List.getElem?_append_right (by omega)]at ho
   have e:o=own.length:=by
    rcases Nat.lt_or_ge (o - own.length) 1 with h1|h1
    ·omega
    ·rw[List.getElem?_eq_none (by simpa using h1)]at ho;cases ho
   subst e
   simp at ho
   subst ho
   have e:ext φ own.length L own.length=some L:=by simp[ext]
   rw[e]
   exact hnew
 out o ho:=by
  simp at ho
  unfold ext
  rw[if_neg (by omega)]
  exact h.out o (by omega)
 glob:=h.glob.mono (fun _ h=>h) (fun b hb=>hw b (h.fb b hb))
end
end Go.AM
namespace Go.AM
open Go
structure Ty where
 agg:Bool
 size:Nat
 bytes:Nat
 zero:Option Value
 desc:TypeDesc
def TypeDesc.isAggD:TypeDesc->Bool
 | .struct _|.array _ _=>true
 | _=>false
def tyOf(P:Program)(t:TypeId):Option Ty :=
 match P.underlying t,P.info? t with
 | some d,some i=>some { agg:=TypeDesc.isAggD d,size:=i.size,bytes:=i.bytes,zero:=i.zero,desc:=d }
 | _,_=>none
theorem tyOf_spec{P:Program}{t:TypeId}{τ:Ty}(h:tyOf P t=some τ) :
  P.underlying t=some τ.desc/\τ.agg=TypeDesc.isAggD τ.desc/\∃i,P.info? t=some i/\i.size=τ.size/\i.bytes=τ.bytes/\i.zero=τ.zero:=by
 unfold tyOf at h
 split at h
 ·rename_i d i hd hi
  cases h
  exact⟨hd,rfl,i,hi,rfl,rfl,rfl⟩
 ·cases h
section
variable {P:Program} {t:TypeId} {τ:Ty} (w:World)
theorem run_und(h:tyOf P t=some τ):(underlying t).run P w=.ok τ.desc w:=run_underlying (tyOf_spec h).1 w
theorem run_info(h:tyOf P t=some τ):∃i:TypeInfo,(typeInfo t).run P w=.ok i w/\i.size=τ.size/\i.bytes=τ.bytes/\i.zero=τ.zero:=by
 obtain⟨_,_,i,hi,h1,h2,h3⟩:=tyOf_spec h
 exact⟨i,by simp[typeInfo,hi],h1,h2,h3⟩
theorem run_size(h:tyOf P t=some τ):(sizeOf t).run P w=.ok τ.size w:=by
 obtain⟨_,_,i,hi,h1,_⟩:=tyOf_spec h
 simp[sizeOf,typeInfo,hi,h1]
theorem run_agg(h:tyOf P t=some τ):(isAgg t).run P w=.ok τ.agg w:=by
 unfold isAgg
 rw[Sem.run_bind,run_und w h,(tyOf_spec h).2.1]
 simp only[Result.andThen_ok,TypeDesc.isAggD]
 cases τ.desc <;> rfl
theorem run_zero(h:tyOf P t=some τ){z:Value}(hz:τ.zero=some z):(zeroValue t).run P w=.ok z w:=by
 obtain⟨_,_,i,hi,_,_,h3⟩:=tyOf_spec h
 simp[zeroValue,typeInfo,hi,h3,hz]
end
def Ty.want(τ:Ty):Option Nat:=if τ.agg then some τ.size else none
def D.nth(xs:List D)(i:Nat):D:=xs.getD i default
def D.part(ag:Option Nat)(d:D)(j:Nat)(want:Option Nat):D :=
 if ag=want then d else
 match d,want with
 | .agg ds,none=>ds.getD j default
 | .agg ds,some m=>.agg ((ds.drop j).take m)
 | d,_=>d
def partOk(ag:Option Nat)(j:Nat)(want:Option Nat):Prop :=
 match ag,want with
 | none,none=>j=0
 | some k,none=>j<k
 | some k,some m=>j+m<=k/\0<m
 | none,some _=>False
theorem D.C_part{F:Nat->Prop}{w:World}{ag want:Option Nat}{d:D}{cs:List Value}{j:Nat}(hp:partOk ag j want)(hl:cs.length=es ag)(ha:d.isAgg=ag.isSome)
  (h:D.C F w d cs):(D.part ag d j want).isAgg=want.isSome/\D.C F w (D.part ag d j want) ((cs.drop j).take (es want)):=by
 unfold D.part
 split
 ·rename_i e
  subst e
  have hj:j=0:=by
   cases ag with
   | none=>exact hp
   | some k=>simp only[partOk]at hp;omega
  subst hj
  refine⟨ha,?_⟩
  rw[List.drop_zero,List.take_of_length_le (by omega)]
  exact h
 ·rename_i hne
  cases ag with
  | none=>cases want <;> simp_all [partOk]
  | some k =>
   cases d <;> simp[D.isAgg]at ha
   rename_i ds
   simp only[D.C]at h
   obtain⟨h1,h2⟩:=D.Cs_iff.1 h
   simp only[es]at hl
   cases want with
   | none =>
    simp only[partOk]at hp
    have hj:j<ds.length:=by omega
    have e1:ds[j]?=some (ds.getD j default):=by simp[List.getElem?_eq_getElem hj]
    have e2:cs[j]?=some cs[j]:=List.getElem?_eq_getElem (by omega)
    obtain⟨g1,g2⟩:=h2 j _ _ e1 e2
    refine⟨by simpa using g1,?_⟩
    have:(cs.drop j).take (es none)=[cs[j]]:=by
     simp only[es]
     rw[List.drop_eq_getElem_cons (by omega:j<cs.length),List.take_succ_cons,List.take_zero]
    rw[this]
    exact g2
   | some m =>
    simp only[partOk]at hp
    refine⟨rfl,?_⟩
    simp only[D.C,es]
    refine D.Cs_iff.2 ⟨by simp;omega,fun i d c hd hc=>?_⟩
    simp only[List.getElem?_take,List.getElem?_drop]at hd hc
    split at hd
    ·rename_i hi
     rw[if_pos hi]at hc
     exact h2 _ _ _ hd hc
    ·cases hd
theorem maxLen_big:1000000<=maxLen:=by unfold maxLen;omega
def constAV0:Value->AV
 | .bool b=>.dat (.bool b)
 | .int k n=>if (Lit.int k n).wf=true then .dat (.int k n) else .top
 | .string s=>if s.size<=1000000 then .dat (.str s.data.toList) else .top
 | .slice none 0 0=>.nils
 | .map none=>.nilm
 | _=>.top
def constAV:Value->AV
 | .agg cs=>if cs.toList.all (·.oneCell') then .agg (cs.toList.map constAV0) else .top
 | v=>constAV0 v
theorem constAV0_R{F:Nat->Prop}{φ:Nat->Option Loc}{w:World}(v:Value):AV.R F φ w (constAV0 v) v:=by
 unfold constAV0
 split
 ·simp only[AV.R,D.R,D.C]
 ·split
  ·rename_i h;simp only[AV.R,D.R,D.C];exact⟨trivial,h⟩
  ·simp only[AV.R]
 ·split
  ·rename_i s h
   simp only[AV.R,D.R,D.C]
   have:s.data.toList.length=s.size:=Array.length_toList
   exact⟨trivial,by rw[this];exact Nat.le_trans h maxLen_big⟩
  ·simp only[AV.R]
 ·simp only[AV.R]
 ·simp only[AV.R]
 ·simp only[AV.R]
theorem constAV_R{F:Nat->Prop}{φ:Nat->Option Loc}{w:World}(v:Value):AV.R F φ w (constAV v) v:=by
 unfold constAV
 split
 ·rename_i cs
  split
  ·rename_i h
   simp only[AV.R]
   refine⟨cs.toList,by simp,?_⟩
   rw[AV.Ra_iff]
   refine⟨?_,fun v hv=>List.all_eq_true.1 h v hv⟩
   clear h
   generalize cs.toList=l
   induction l with
   | nil=>simp[AV.Rs]
   | cons x l ih=>simp only[List.map_cons,AV.Rs];exact⟨x,l,rfl,constAV0_R x,ih⟩
  ·simp only[AV.R]
 ·exact constAV0_R v
def globAV(g:Nat):AV:=match globs g with|some (ag,d)=>.rptr ag d|none=>.top
def ev(slots:List AV):Operand->AV
 | .tmp t=>slots.getD t .top
 | .const v=>constAV v
 | .func f=>.fn f []
 | .global g=>globAV g
theorem ev_R{F:Nat->Prop}{φ:Nat->Option Loc}{w:World}{slots:List AV}{a:Act}(hg:GlobOk F w)(h:AV.Rs F φ w slots a.tmps.toList)(x:Operand):AV.R F φ w (ev slots x) (a.eval x):=by
 cases x with
 | tmp t =>
  have:=AV.Rs_get h t
  simpa [ev,Act.eval] using this
 | const v=>exact constAV_R v
 | global g =>
  simp only[ev,globAV,Act.eval]
  split
  ·rename_i ag d he
   obtain⟨cs,h1,h2,h3,h4,h5,_⟩:=hg g ag d he
   simp only[AV.R]
   exact⟨g,0,cs,rfl,h1,h2,h3,h4,h5⟩
  ·simp only[AV.R]
 | func f=>simp only[ev,AV.R,Act.eval];exact⟨[],rfl,by simp[AV.Rs]⟩
def inR(k:IntKind)(n:Int):Prop:=(Lit.int k n).wf=true
theorem inR_i64{n:Int}:inR .i64 n↔-9223372036854775808<=n/\n<=9223372036854775807:=by
 simp[inR,Lit.wf,IntKind.min,IntKind.max,IntKind.signed,IntKind.bits]
theorem inR_u64{n:Int}:inR .u64 n↔0<=n/\n<=18446744073709551615:=by
 simp[inR,Lit.wf,IntKind.min,IntKind.max,IntKind.signed,IntKind.bits]
theorem inR_u8{n:Int}:inR .u8 n↔0<=n/\n<=255:=by
 simp[inR,Lit.wf,IntKind.min,IntKind.max,IntKind.signed,IntKind.bits]
theorem wrap_inR(k:IntKind)(n:Int):inR k (k.wrap n):=by
 unfold inR Lit.wf IntKind.wrap IntKind.min IntKind.max
 cases k <;> simp only[IntKind.signed,IntKind.bits,Bool.true_and,Bool.false_and,Bool.false_eq_true,if_false,if_true,Bool.and_eq_true,decide_eq_true_eq,Nat.reduceSub,Int.reducePow,Int.reduceNeg,Int.reduceSub,ge_iff_le,↓reduceIte] <;> (try split) <;> omega
theorem wrap_of_inR{k:IntKind}{n:Int}(h:inR k n):k.wrap n=n:=by
 unfold inR Lit.wf IntKind.min IntKind.max at h
 unfold IntKind.wrap
 cases k <;> simp only[IntKind.signed,IntKind.bits,Bool.true_and,Bool.false_and,Bool.false_eq_true,if_false,if_true,Bool.and_eq_true,decide_eq_true_eq,Nat.reduceSub,Int.reducePow,Int.reduceNeg,Int.reduceSub,ge_iff_le,↓reduceIte]at*<;> (try split) <;> omega
def bitsV(op:BinOp)(k:IntKind)(x y:Int):Int :=
 let a:=BitVec.ofInt k.bits x
 let b:=BitVec.ofInt k.bits y
 match op with
 | .and=>k.wrap (a &&& b).toNat
 | .or=>k.wrap (a ||| b).toNat
 | .xor=>k.wrap (a ^^^ b).toNat
 | _=>k.wrap (a &&& ~~~b).toNat
def shlV(k:IntKind)(x y:Int):Int:=k.wrap (x*2 ^ (min y.toNat k.bits))
def shrV(k:IntKind)(x y:Int):Int:=x.fdiv (2 ^ (min y.toNat k.bits))
def isSigned:IntKind->Bool
 | .i64=>true
 | .i32=>true
 | _=>false
def fitw(k:IntKind)(n:Int)(K:AV->Prop):Prop :=
 if isSigned k then inR k n/\K (.dat (.int k n)) else K (.dat (.int k (k.wrap n)))
def intw(op:BinOp)(k:IntKind)(a b:Int)(K:AV->Prop):Prop :=
 match op with
 | .add=>fitw k (a+b) K
 | .sub=>fitw k (a - b) K
 | .mul=>fitw k (a*b) K
 | .quo=>b≠0/\fitw k (a.tdiv b) K
 | .rem=>b≠0/\inR k (a.tmod b)/\K (.dat (.int k (a.tmod b)))
 | .and=>K (.dat (.int k (bitsV .and k a b)))
 | .or=>K (.dat (.int k (bitsV .or k a b)))
 | .xor=>K (.dat (.int k (bitsV .xor k a b)))
 | .andNot=>K (.dat (.int k (bitsV .andNot k a b)))
 | .eql=>K (.dat (.bool (decide (a=b))))
 | .neq=>K (.dat (.bool (!decide (a=b))))
 | .lss=>K (.dat (.bool (decide (a<b))))
 | .leq=>K (.dat (.bool (decide (a<=b))))
 | .gtr=>K (.dat (.bool (decide (b<a))))
 | .geq=>K (.dat (.bool (decide (b<=a))))
 | _=>False
section
variable {P:Program} {F:Nat->Prop} {w:World}
def D.flat:D->Bool
 | .int _ _=>true
 | .bool _=>true
 | .str _=>true
 | _=>false
def D.flats:List D->Bool
 | []=>true
 | d :: ds=>d.flat && D.flats ds
def D.val:D->Value
 | .int k n=>.int k n
 | .bool b=>.bool b
 | .str s=>.string ⟨s.toArray⟩
 | _=>.bool false
def D.flatEq:D->D->Bool
 | .int k a,.int k' b=>decide (k=k') && decide (a=b)
 | .bool a,.bool b=>decide (a=b)
 | .str a,.str b=>decide (a=b)
 | _,_=>false
def D.flatEqs:List D->List D->Bool
 | [],[]=>true
 | a :: as,b :: bs=>D.flatEq a b && D.flatEqs as bs
 | _,_=>false
theorem Cs_flat:∀{ds:List D} {arr:List Value},D.flats ds=true->D.Cs F w ds arr->arr=ds.map D.val
 | [],arr,_,h=>by simpa only[D.Cs,List.map_nil] using h
 | d :: ds,arr,hf,h=>by
  simp only[D.flats,Bool.and_eq_true]at hf
  simp only[D.Cs]at h
  obtain⟨c,cs',rfl,h0,h1,h2⟩:=h
  rw[Cs_flat hf.2 h2,List.map_cons]
  have hf1:=hf.1
  congr 1
  cases d with
  | int k n=>simp only[D.C,List.cons.injEq,and_true]at h1;exact h1.1
  | bool b=>simp only[D.C,List.cons.injEq,and_true]at h1;exact h1
  | str s=>simp only[D.C,List.cons.injEq,and_true]at h1;exact h1.1
  | sl ag xs=>cases hf1
  | agg ds=>cases hf1
theorem flatEqs_iff:∀{as bs:List D},D.flats as=true->D.flats bs=true->(D.flatEqs as bs=true↔as.map D.val=bs.map D.val)
 | [],[],_,_=>by simp[D.flatEqs]
 | [],b :: bs,_,_=>by simp[D.flatEqs]
 | a :: as,[],_,_=>by simp[D.flatEqs]
 | a :: as,b :: bs,ha,hb=>by
  simp only[D.flats,Bool.and_eq_true]at ha hb
  simp only[D.flatEqs,Bool.and_eq_true,List.map_cons,List.cons.injEq,flatEqs_iff ha.2 hb.2]
  refine and_congr_left fun _=>?_
  cases a <;> simp only[D.flat,Bool.false_eq_true,false_and]at ha <;> cases b <;> simp only[D.flat,Bool.false_eq_true,false_and]at hb <;> simp[D.flatEq,D.val]
def wideB(P:Program)(t:TypeId):Bool:=P.keyTypeAt 8 t && P.tiled 8 t && (match P.underlying t with|some (.array _ _)|some (.struct _)=>true|_=>false)
end
def binw(op:BinOp)(x y:AV)(K:AV->Prop):Prop :=
 match x,y with
 | .dat (.int k a),.dat (.int k' b) =>
  match op with
  | .shl=>0<=b/\K (.dat (.int k (shlV k a b)))
  | .shr=>0<=b/\inR k (shrV k a b)/\K (.dat (.int k (shrV k a b)))
  | op=>k=k'/\intw op k a b K
 | .dat (.str a),.dat (.str b) =>
  match op with
  | .add=>a.length+b.length<=maxLen/\K (.dat (.str (a++b)))
  | .eql=>K (.dat (.bool (decide (a=b))))
  | .neq=>K (.dat (.bool (!decide (a=b))))
  | _=>False
 | .dat (.bool a),.dat (.bool b) =>
  match op with
  | .eql=>K (.dat (.bool (a == b)))
  | .neq=>K (.dat (.bool (!(a == b))))
  | _=>False
 | .nils,.nils =>
  match op with
  | .eql=>K (.dat (.bool true))
  | .neq=>K (.dat (.bool false))
  | _=>False
 | .dat (.sl _ xs),.nils =>
  match op with
  | .eql=>xs≠[]/\K (.dat (.bool false))
  | .neq=>xs≠[]/\K (.dat (.bool true))
  | _=>False
 | .sl _ _ len,.nils =>
  match op with
  | .eql=>0<len/\K (.dat (.bool false))
  | .neq=>0<len/\K (.dat (.bool true))
  | _=>False
 | .dat (.agg as),.dat (.agg bs) =>
  match op with
  | .eql=>K (.dat (.bool (D.flatEqs as bs)))
  | .neq=>K (.dat (.bool (!D.flatEqs as bs)))
  | _=>False
 | _,_=>False
def eqTy(τ:Option Ty)(x:AV):Bool :=
 match x with
 | .dat (.bool _)=>(match τ with|some τ=>(match τ.desc with|.bool=>true|_=>false)|none=>false)
 | .nils|.sl _ _ _|.dat (.sl _ _)=>(match τ with|some τ=>(match τ.desc with|.slice _=>true|_=>false)|none=>false)
 | _=>true
def eqOk(P:Program)(t:TypeId)(x y:AV):Bool :=
 match x,y with
 | .dat (.agg as),.dat (.agg bs)=>wideB P t && (D.flats as && (D.flats bs && ((keyOf P t (.agg (as.map D.val).toArray)).isSome && ((keyOf P t (.agg (bs.map D.val).toArray)).isSome && !P.eqGuardType P.depth t))))
 | x,_=>eqTy (tyOf P t) x
end Go.AM
namespace Go.AM
open Go
section
variable {P:Program} {F:Nat->Prop} {φ:Nat->Option Loc} {own:List Obj} {w:World}
def Yields(P:Program)(F:Nat->Prop)(φ:Nat->Option Loc)(w:World)(s:Sem Value)(K:AV->Prop):Prop :=
 ∃v c,s.run P w=.ok c w/\AV.R F φ w v c/\K v
theorem R_int{k:IntKind}{n:Int}{c:Value}:AV.R F φ w (.dat (.int k n)) c↔c=.int k n/\inR k n:=by
 simp only[AV.R,D.R,D.C,inR,List.cons.injEq,and_true]
theorem R_bool{b:Bool}{c:Value}:AV.R F φ w (.dat (.bool b)) c↔c=.bool b:=by
 simp only[AV.R,D.R,D.C,List.cons.injEq,and_true]
theorem R_str{s:List UInt8}{c:Value}:AV.R F φ w (.dat (.str s)) c↔c=.string ⟨s.toArray⟩/\s.length<=maxLen:=by
 simp only[AV.R,D.R,D.C,List.cons.injEq,and_true]
theorem R_nils{c:Value}:AV.R F φ w .nils c↔c=.slice none 0 0:=by simp only[AV.R]
theorem R_sl{ag:Option Nat}{xs:List D}{c:Value}:AV.R F φ w (.dat (.sl ag xs)) c↔∃a cap,c=.slice a xs.length cap/\xs.length<=cap/\cap<=maxLen /\
   (xs=[]∨∃b off,a=some ⟨b,off,none⟩/\F b/\D.Cr F w ag b off xs):=by
 simp only[AV.R,D.R,D.C,List.cons.injEq,and_true]
theorem fitw_sound{k:IntKind}{n:Int}{K:AV->Prop}(h:fitw k n K):Yields P F φ w (pure (.int k (k.wrap n))) K:=by
 unfold fitw at h
 split at h
 ·refine⟨_,_,rfl,?_,h.2⟩
  rw[R_int,wrap_of_inR h.1]
  exact⟨rfl,h.1⟩
 ·exact⟨_,_,rfl,R_int.2 ⟨rfl,wrap_inR k n⟩,h⟩
theorem intw_sound{op:BinOp}{k:IntKind}{a b:Int}{K:AV->Prop}(ha:inR k a)(hb:inR k b)(h:intw op k a b K)(h1:op≠.shl)(h2:op≠.shr)(t:TypeId) :
  Yields P F φ w (binOp op t (.int k a) (.int k b)) K:=by
 cases op <;> simp only[intw]at h <;> simp only[binOp,ne_eq,not_true_eq_false,if_false,Op.intArith,Op.intDiv,Op.intBits,Op.intCmp]
 case add=>exact fitw_sound h
 case sub=>exact fitw_sound h
 case mul=>exact fitw_sound h
 case quo=>rw[if_neg h.1];exact fitw_sound h.2
 case rem=>rw[if_neg h.1];exact⟨_,_,rfl,R_int.2 ⟨rfl,h.2.1⟩,h.2.2⟩
 case and=>exact⟨_,_,rfl,R_int.2 ⟨rfl,wrap_inR _ _⟩,h⟩
 case or=>exact⟨_,_,rfl,R_int.2 ⟨rfl,wrap_inR _ _⟩,h⟩
 case xor=>exact⟨_,_,rfl,R_int.2 ⟨rfl,wrap_inR _ _⟩,h⟩
 case andNot=>exact⟨_,_,rfl,R_int.2 ⟨rfl,wrap_inR _ _⟩,h⟩
 case eql=>exact⟨_,_,rfl,R_bool.2 (by simp;rfl),h⟩
 case neq=>exact⟨_,_,rfl,R_bool.2 (by simp[bne];rfl),h⟩
 case lss=>exact⟨_,_,rfl,R_bool.2 rfl,h⟩
 case leq=>exact⟨_,_,rfl,R_bool.2 rfl,h⟩
 case gtr=>exact⟨_,_,rfl,R_bool.2 rfl,h⟩
 case geq=>exact⟨_,_,rfl,R_bool.2 rfl,h⟩
def calmV:Value->Bool
 | .nilIface=>false
 | .agg _=>false
 | _=>true
theorem run_eqGuard{op:BinOp}{t:TypeId}{x y:Operand}{a b:Value}(h:calmV a=true) :
  (eqGuard op t x y a b).run P w=.ok () w:=by
 unfold eqGuard
 cases op <;> simp only[Bool.not_true,Bool.not_false,Bool.false_eq_true,if_false,if_true,↓reduceIte] <;> first|rfl|(cases a <;> simp[calmV]at h <;> cases b <;> rfl)
theorem equalIn_bool(d:Nat){t:TypeId}(h:P.underlying t=some .bool)(a b:Bool):(Op.equalIn (d+1) t (.bool a) (.bool b)).run P w=.ok (a == b) w:=by
 simp only[Op.equalIn,Sem.run_bind,run_underlying h,Result.andThen_ok,Sem.run_pure]
theorem equal_bool{t:TypeId}(h:P.underlying t=some .bool)(a b:Bool):(Op.equal t (.bool a) (.bool b)).run P w=.ok (a == b) w:=equalIn_bool 9999 h a b
theorem equalIn_slice_nil(d:Nat){t e:TypeId}(h:P.underlying t=some (.slice e))(a:Option Addr)(l c:Nat):(Op.equalIn (d+1) t (.slice a l c) (.slice none 0 0)).run P w=.ok a.isNone w:=by
 cases a <;> simp only[Op.equalIn,Sem.run_bind,run_underlying h,Result.andThen_ok,Sem.run_pure] <;> rfl
theorem equal_slice_nil{t e:TypeId}(h:P.underlying t=some (.slice e))(a:Option Addr)(l c:Nat):(Op.equal t (.slice a l c) (.slice none 0 0)).run P w=.ok a.isNone w:=equalIn_slice_nil 9999 h a l c
theorem toList_mk(l:List UInt8):(⟨l.toArray⟩:ByteArray).toList=l:=by
 rw[ByteArray.toList_eq]
theorem stringEq(a b:List UInt8):((⟨a.toArray⟩:ByteArray).toList == (⟨b.toArray⟩:ByteArray).toList)=decide (a=b):=by
 rw[toList_mk,toList_mk]
 by_cases h:a=b <;> simp[h]
def binTop(P:Program)(op:BinOp)(t:TypeId)(x y:AV)(K:AV->Prop):Prop:=eqOk P t x y=true/\binw op x y K
theorem nilq{xs:List D}{c:Value}(hne:xs≠[]){ag:Option Nat}(h:AV.R F φ w (.dat (.sl ag xs)) c):∃a cap,c=.slice (some a) xs.length cap:=by
 obtain⟨a,cap,rfl,_,_,h⟩:=R_sl.1 h
 rcases h with h|⟨b,off,rfl,_⟩
 ·exact(hne h).elim
 ·exact⟨_,_,rfl⟩
theorem tyOf_und{t:TypeId}{τ:Ty}(h:tyOf P t=some τ):P.underlying t=some τ.desc:=(tyOf_spec h).1
theorem eqTy_bool{t:TypeId}{b:Bool}(h:eqTy (tyOf P t) (.dat (.bool b))=true):P.underlying t=some .bool:=by
 simp only[eqTy]at h
 split at h
 ·rename_i τ hτ
  rw[tyOf_und hτ]
  split at h
  ·rename_i hd;rw[hd]
  ·cases h
 ·cases h
theorem eqTy_slice{t:TypeId}{x:AV}(hx:(match x with|.nils=>true|.sl _ _ _=>true|.dat (.sl _ _)=>true|_=>false)=true)(h:eqTy (tyOf P t) x=true):∃e,P.underlying t=some (.slice e):=by
 have h':(match tyOf P t with|some τ=>(match τ.desc with|.slice _=>true|_=>false)|none=>false)=true:=by
  cases x <;> first|exact h|(simp at hx;done)|skip
  rename_i d
  cases d <;> first|exact h|(simp at hx;done)
 split at h'
 ·rename_i τ hτ
  rw[tyOf_und hτ]
  split at h'
  ·rename_i e hd;rw[hd];exact⟨e,rfl⟩
  ·cases h'
 ·cases h'
theorem binTop_sound{op:BinOp}{t:TypeId}{ox oy:Operand}{x y:AV}{cx cy:Value}{K:AV->Prop}(hx:AV.R F φ w x cx)(hy:AV.R F φ w y cy)(h:binTop P op t x y K) :
  Yields P F φ w (do eqGuard op t ox oy cx cy;binOp op t cx cy) K:=by
 obtain⟨ht,h⟩:=h
 have pass:∀s:Sem Value,calmV cx=true->Yields P F φ w s K->Yields P F φ w (do eqGuard op t ox oy cx cy;s) K:=by
  rintro s hg ⟨v,c,h1,h2,h3⟩
  exact⟨v,c,by rw[Sem.run_bind,run_eqGuard hg];exact h1,h2,h3⟩
 unfold binw at h
 split at h
 ·
  rename_i k a k' b
  obtain⟨rfl,ha⟩:=R_int.1 hx
  obtain⟨rfl,hb⟩:=R_int.1 hy
  refine pass _ rfl ?_
  split at h
  ·refine⟨_,.int k (shlV k a b),?_,R_int.2 ⟨rfl,wrap_inR _ _⟩,h.2⟩
   simp only[binOp,Op.shift,if_neg (Int.not_lt.2 h.1)]
   rfl
  ·refine⟨_,.int k (shrV k a b),?_,R_int.2 ⟨rfl,h.2.1⟩,h.2.2⟩
   simp only[binOp,Op.shift,if_neg (Int.not_lt.2 h.1)]
   rfl
  ·rename_i h1 h2
   obtain⟨rfl,h⟩:=h
   exact intw_sound ha hb h (fun e=>h1 e) (fun e=>h2 e) t
 ·
  rename_i a b
  obtain⟨rfl,ha⟩:=R_str.1 hx
  obtain⟨rfl,hb⟩:=R_str.1 hy
  refine pass _ rfl ?_
  split at h
  ·refine⟨_,.string ⟨(a++b).toArray⟩,?_,R_str.2 ⟨rfl,?_⟩,h.2⟩
   ·simp only[binOp,Op.stringOp]
    rw[if_neg ?_]
    ·simp only[Sem.run_pure]
     congr 2
    ·have:(⟨a.toArray⟩:ByteArray).size+(⟨b.toArray⟩:ByteArray).size=a.length+b.length:=rfl
     rw[this]
     have h1:=h.1
     simp only[maxLen]at h1
     simp only[IntKind.max,IntKind.signed,IntKind.bits,↓reduceIte,Int.not_lt,Nat.reduceSub,gt_iff_lt]
     have:((a.length+b.length:Nat):Int)<=9223372036854775807:=by omega
     exact this
   ·simpa using h.1
  ·exact⟨_,_,by simp only[binOp,Op.stringOp,stringEq];rfl,R_bool.2 rfl,h⟩
  ·exact⟨_,_,by simp only[binOp,Op.stringOp,stringEq];rfl,R_bool.2 rfl,h⟩
  ·exact h.elim
 ·
  rename_i a b
  simp only[eqOk]at ht
  have ea:=R_bool.1 hx
  have eb:=R_bool.1 hy
  have hu:=eqTy_bool ht
  subst ea;subst eb
  refine pass _ rfl ?_
  split at h
  ·exact⟨_,_,by simp only[binOp,Sem.run_bind,equal_bool hu,Result.andThen_ok];rfl,R_bool.2 rfl,h⟩
  ·exact⟨_,_,by simp only[binOp,Sem.run_bind,equal_bool hu,Result.andThen_ok];rfl,R_bool.2 rfl,h⟩
  ·exact h.elim
 ·
  simp only[eqOk]at ht
  have ea:=R_nils.1 hx
  have eb:=R_nils.1 hy
  obtain⟨e,hu⟩:=eqTy_slice rfl ht
  subst ea;subst eb
  refine pass _ rfl ?_
  split at h
  ·exact⟨_,_,by simp only[binOp,Sem.run_bind,equal_slice_nil hu,Result.andThen_ok];rfl,R_bool.2 rfl,h⟩
  ·exact⟨_,_,by simp only[binOp,Sem.run_bind,equal_slice_nil hu,Result.andThen_ok];rfl,R_bool.2 rfl,h⟩
  ·exact h.elim
 ·
  rename_i ag xs
  simp only[eqOk]at ht
  have eb:=R_nils.1 hy
  obtain⟨e,hu⟩:=eqTy_slice rfl ht
  split at h
  ·obtain⟨a,cap,rfl⟩:=nilq h.1 hx
   subst eb
   refine pass _ rfl ?_
   exact⟨_,_,by simp only[binOp,Sem.run_bind,equal_slice_nil hu,Result.andThen_ok];rfl,R_bool.2 rfl,h.2⟩
  ·obtain⟨a,cap,rfl⟩:=nilq h.1 hx
   subst eb
   refine pass _ rfl ?_
   exact⟨_,_,by simp only[binOp,Sem.run_bind,equal_slice_nil hu,Result.andThen_ok];rfl,R_bool.2 rfl,h.2⟩
  ·exact h.elim
 ·
  rename_i o off len
  simp only[eqOk]at ht
  have eb:=R_nils.1 hy
  obtain⟨e,hu⟩:=eqTy_slice rfl ht
  have hsl:0<len->∃a cap,cx=.slice (some a) len cap:=by
   intro hl
   simp only[AV.R]at hx
   obtain⟨L,_,h1|h1⟩:=hx
   ·omega
   ·obtain⟨_,c,cap,h1,_⟩:=h1;exact⟨_,_,h1⟩
  split at h
  ·obtain⟨a,cap,rfl⟩:=hsl h.1
   subst eb
   refine pass _ rfl ?_
   exact⟨_,_,by simp only[binOp,Sem.run_bind,equal_slice_nil hu,Result.andThen_ok];rfl,R_bool.2 rfl,h.2⟩
  ·obtain⟨a,cap,rfl⟩:=hsl h.1
   subst eb
   refine pass _ rfl ?_
   exact⟨_,_,by simp only[binOp,Sem.run_bind,equal_slice_nil hu,Result.andThen_ok];rfl,R_bool.2 rfl,h.2⟩
  ·exact h.elim
 ·
  rename_i as bs
  simp only[eqOk,wideB,Bool.and_eq_true,Bool.not_eq_true']at ht
  obtain⟨⟨⟨t1,t2⟩,t3⟩,f1,f2,k1,k2,t4⟩:=ht
  simp only[AV.R,D.R]at hx hy
  obtain⟨xs,rfl,hx⟩:=hx
  obtain⟨ys,rfl,hy⟩:=hy
  rw[Cs_flat f1 hx,Cs_flat f2 hy]
  obtain⟨l1,e1⟩:=Option.isSome_iff_exists.1 k1
  obtain⟨l2,e2⟩:=Option.isSome_iff_exists.1 k2
  obtain⟨r,hr,hiff⟩:=run_equal_deep w (by omega) t1 t3 e1 e2
  have hre:r=D.flatEqs as bs:=by
   have:r=true↔D.flatEqs as bs=true:=by
    rw[hiff,flatEqs_iff f1 f2]
    constructor
    ·intro e;subst e
     have e3:=keyOf_inj_deep t2 t3 e1 e2
     simpa using e3
    ·intro e;rw[e]at e1;rw[e1]at e2;cases e2;rfl
   cases r <;> cases hb:D.flatEqs as bs <;> simp_all
  subst hre
  have hg:(eqGuard op t ox oy (.agg (as.map D.val).toArray) (.agg (bs.map D.val).toArray)).run P w=.ok () w:=Go.run_eqGuard_agg w op t ox oy _ _ t4
  split at h
  ·exact⟨_,.bool (D.flatEqs as bs),by rw[Sem.run_bind,hg];simp only[binOp,Sem.run_bind,hr,Result.andThen_ok];rfl,R_bool.2 rfl,h⟩
  ·exact⟨_,.bool (!D.flatEqs as bs),by rw[Sem.run_bind,hg];simp only[binOp,Sem.run_bind,hr,Result.andThen_ok];rfl,R_bool.2 rfl,h⟩
  ·exact h.elim
 ·exact h.elim
end
end Go.AM
namespace Go.AM
open Go
section
variable {P:Program} {F:Nat->Prop} {φ:Nat->Option Loc} {own:List Obj} {w:World}
theorem Addr.add_mk(b o n:Nat):(⟨b,o,none⟩:Addr).add n=⟨b,o+n,none⟩:=by
 unfold Addr.add
 split
 ·rename_i h;subst h;rfl
 ·rfl
def loadObj(τ:Ty)(obj:Obj)(i j:Nat)(K:AV->Prop):Prop :=
 match obj with
 | .row none xs=>if τ.agg then i=0/\j=0/\xs.length=τ.size/\K (.dat (.agg xs)) else j=0/\i<xs.length/\K (.dat (D.nth xs i))
 | .row (some k) xs=>partOk (some k) j τ.want/\i<xs.length/\K (.dat (D.part (some k) (D.nth xs i) j τ.want))
 | .vec cs=>τ.agg=false/\j=0/\i<cs.length/\K (cs.getD i .top)
 | .tab k cs=>if τ.agg then i*k+j+τ.size<=cs.length/\K (.agg ((cs.drop (i*k+j)).take τ.size)) else i*k+j<cs.length/\K (cs.getD (i*k+j) .top)
 | .bld _ _ cs=>τ.agg=false/\i=0/\j=1/\cs.length=1/\K (cs.getD 0 .top)
 | .box cs=>i=0/\(if τ.agg then j+τ.size<=cs.length/\K (.agg ((cs.drop j).take τ.size)) else j<cs.length/\K (cs.getD j .top))
 | _=>False
def loadw(τ:Option Ty)(own:List Obj)(x:AV)(K:AV->Prop):Prop :=
 match τ,x with
 | some τ,.ptr o i j=>loadObj τ (own.getD o .dead) i j K
 | some τ,.rptr ag d=>ag=τ.want/\K (.dat d)
 | _,_=>False
theorem run_loadVar_agg{t:TypeId}{τ:Ty}(ht:tyOf P t=some τ)(ha:τ.agg=true){b off:Nat}{cs:List Value}(hl:cs.length=τ.size)(hc:∀j,j<cs.length->w.cell? ⟨b,off+j,none⟩=cs[j]?) :
  (loadVar t ⟨b,off,none⟩).run P w=.ok (.agg cs.toArray) w:=by
 have hr:=run_loadCells_list (P:=P) w ⟨b,off,none⟩ cs (fun j v hv=>by
  rw[Addr.add_mk]
  have hj:j<cs.length:=by
   rcases Nat.lt_or_ge j cs.length with h|h
   ·exact h
   ·rw[List.getElem?_eq_none h]at hv;cases hv
  rw[hc j hj];exact hv)
 rw[hl]at hr
 simp only[loadVar,Sem.run_bind,run_agg w ht,Result.andThen_ok,ha,if_true,run_size w ht,hr,Sem.run_pure]
theorem run_loadVar_plain{t:TypeId}{τ:Ty}(ht:tyOf P t=some τ)(ha:τ.agg=false){a:Addr}{v:Value}(hc:w.cell? a=some v) :
  (loadVar t a).run P w=.ok v w:=by
 simp only[loadVar,Sem.run_bind,run_agg w ht,Result.andThen_ok,ha,Bool.false_eq_true,if_false,run_load,hc]
theorem run_load_D{t:TypeId}{τ:Ty}(ht:tyOf P t=some τ){b off:Nat}{cs:List Value}{d:D}(hl:cs.length=es τ.want)(hc:∀j,j<es τ.want->w.cell? ⟨b,off+j,none⟩=cs[j]?)
  (ha:d.isAgg=τ.want.isSome) (hd:D.C F w d cs):∃c,(loadVar t ⟨b,off,none⟩).run P w=.ok c w/\AV.R F φ w (.dat d) c:=by
 cases hagg:τ.agg with
 | true =>
  have hw:τ.want=some τ.size:=by simp[Ty.want,hagg]
  rw[hw]at hl hc ha
  simp only[es]at hl hc
  refine⟨_,run_loadVar_agg ht hagg hl (fun j hj=>hc j (by omega)),?_⟩
  simp only[AV.R]
  exact D.R_of_C_agg ha hd
 | false =>
  have hw:τ.want=none:=by simp[Ty.want,hagg]
  rw[hw]at hl hc ha
  obtain⟨c,rfl⟩:=D.C_single (by simpa using ha) hd
  refine⟨c,run_loadVar_plain ht hagg (by simpa using hc 0 (by simp[es])),?_⟩
  simp only[AV.R]
  exact(D.R_plain (by simpa using ha)).2 hd
theorem AV.Ra_get{as:List AV}:∀{vs:List Value},AV.Ra F φ w as vs->∀i,i<as.length->∃v,vs[i]?=some v/\v.oneCell'=true/\AV.R F φ w (as.getD i .top) v:=by
 induction as with
 | nil=>intro vs _ i hi;simp at hi
 | cons a as ih =>
  intro vs h i hi
  simp only[AV.Ra]at h
  obtain⟨v,vs',rfl,h0,h2,h3⟩:=h
  cases i with
  | zero=>exact⟨v,rfl,h0,by simpa using h2⟩
  | succ i =>
   obtain⟨u,hu,hu'⟩:=ih h3 i (by simpa using hi)
   exact⟨u,by simpa using hu,by simpa using hu'⟩
theorem AV.Ra_length{as:List AV}{vs:List Value}(h:AV.Ra F φ w as vs):vs.length=as.length:=AV.Rs_length (AV.Ra_iff.1 h).1
theorem AV.Ra_drop{as:List AV}:∀{vs:List Value} (n:Nat),AV.Ra F φ w as vs->AV.Ra F φ w (as.drop n) (vs.drop n):=by
 induction as with
 | nil=>intro vs n h;simp only[AV.Ra]at h;subst h;simp[AV.Ra]
 | cons a as ih =>
  intro vs n h
  cases n with
  | zero=>exact h
  | succ n =>
   simp only[AV.Ra]at h
   obtain⟨v,vs',rfl,h0,h2,h3⟩:=h
   exact ih n h3
theorem AV.Ra_take{as:List AV}:∀{vs:List Value} (n:Nat),AV.Ra F φ w as vs->AV.Ra F φ w (as.take n) (vs.take n):=by
 induction as with
 | nil=>intro vs n h;simp only[AV.Ra]at h;subst h;simp[AV.Ra]
 | cons a as ih =>
  intro vs n h
  cases n with
  | zero=>simp[AV.Ra]
  | succ n =>
   simp only[AV.Ra]at h
   obtain⟨v,vs',rfl,h0,h2,h3⟩:=h
   simp only[List.take_succ_cons,AV.Ra]
   exact⟨v,_,rfl,h0,h2,ih n h3⟩
theorem nth_get{xs:List D}{i:Nat}(h:i<xs.length):xs[i]?=some (D.nth xs i):=by
 simp[D.nth,List.getElem?_eq_getElem h]
theorem getObj_rep(hc:Conc F φ own w){o:Nat}{L:Loc}(ho:φ o=some L):ObjR F φ w (some L) (own.getD o .dead):=by
 rcases Nat.lt_or_ge o own.length with h|h
 ·have e:own[o]?=some (own.getD o .dead):=by simp[List.getElem?_eq_getElem h]
  have:=hc.rep o _ e
  rwa [ho]at this
 ·rw[hc.out o h]at ho;cases ho
theorem loadObj_sound(hc:Conc F φ own w){t:TypeId}{τ:Ty}(ht:tyOf P t=some τ){o:Nat}{L:Loc}(ho:φ o=some L)(hn:L.nil=false){i j:Nat}{K:AV->Prop}(h:loadObj τ (own.getD o .dead) i j K) :
  Yields P F φ w (loadVar t ⟨L.b,L.base+i*L.sz+j,none⟩) K:=by
 have hr:=getObj_rep hc ho
 unfold loadObj at h
 split at h
 ·
  rename_i xs hobj
  rw[hobj]at hr
  simp only[ObjR]at hr
  obtain⟨hsz,hr⟩:=hr
  rcases hr with⟨hnil,_⟩|⟨_,⟨arr,ty,hh,hsize⟩,hfit,hrow⟩
  ·rw[hn]at hnil;cases hnil
  simp only[es]at hsz
  cases hagg:τ.agg with
  | true =>
   rw[hagg]at h
   simp only[if_true]at h
   obtain⟨rfl,rfl,hlen,hK⟩:=h
   have hcell:∀j,j<xs.length->∃c,w.cell? ⟨L.b,L.base+j,none⟩=some c/\(D.nth xs j).isAgg=false/\D.C F w (D.nth xs j) [c]:=by
    intro j hj
    obtain⟨cs,h1,h2,h3,h4⟩:=D.Cr_iff.1 hrow j _ (nth_get hj)
    obtain⟨c,rfl⟩:=D.C_single (by simpa using h3) h4
    refine⟨c,?_,by simpa using h3,h4⟩
    have:=h2 0 (by simp[es])
    simpa [es] using this
   let f:Nat->Value:=fun j=>(w.cell? ⟨L.b,L.base+j,none⟩).getD undef
   have hf:∀j,j<xs.length->w.cell? ⟨L.b,L.base+j,none⟩=some (f j):=by
    intro j hj
    obtain⟨c,h1,_⟩:=hcell j hj
    simp[f,h1]
   have hl:((List.range xs.length).map f).length=τ.size:=by simp[hlen]
   refine⟨_,.agg ((List.range xs.length).map f).toArray,?_,?_,hK⟩
   ·simp only[Nat.zero_mul,Nat.add_zero]
    refine run_loadVar_agg ht hagg hl (fun j hj=>?_)
    have hj':j<xs.length:=by simpa using hj
    rw[hf j hj']
    simp[hj']
   ·simp only[AV.R,D.R]
    refine⟨_,rfl,D.Cs_iff.2 ⟨by simp,fun j d c hd hcc=>?_⟩⟩
    have hj:j<xs.length:=by
     rcases Nat.lt_or_ge j xs.length with h|h
     ·exact h
     ·rw[List.getElem?_eq_none h]at hd;cases hd
    obtain⟨c',h1,h2,h3⟩:=hcell j hj
    rw[nth_get hj]at hd
    cases hd
    have hc':f j=c':=by simp[f,h1]
    simp only[List.getElem?_map,List.getElem?_range hj,Option.map_some,Option.some.injEq]at hcc
    rw[hc']at hcc
    subst hcc
    exact⟨h2,h3⟩
  | false =>
   rw[hagg]at h
   simp only[Bool.false_eq_true,if_false]at h
   obtain⟨rfl,hi,hK⟩:=h
   obtain⟨cs,h1,h2,h3,h4⟩:=D.Cr_iff.1 hrow i _ (nth_get hi)
   have hw:τ.want=none:=by simp[Ty.want,hagg]
   obtain⟨c,hrun,hR⟩:=run_load_D (φ:=φ) ht (b:=L.b) (off:=L.base+i*L.sz+0) (cs:=cs) (d:=D.nth xs i) (by rw[hw];exact h1) (by rw[hw];intro j hj;rw[hsz];simpa [es] using h2 j hj) (by rw[hw];exact h3) h4
   exact⟨_,c,hrun,hR,hK⟩
 ·
  rename_i k xs hobj
  rw[hobj]at hr
  simp only[ObjR]at hr
  obtain⟨hsz,hr⟩:=hr
  rcases hr with⟨hnil,_⟩|⟨_,⟨arr,ty,hh,hsize⟩,hfit,hrow⟩
  ·rw[hn]at hnil;cases hnil
  simp only[es]at hsz
  obtain⟨hp,hi,hK⟩:=h
  obtain⟨cs,h1,h2,h3,h4⟩:=D.Cr_iff.1 hrow i _ (nth_get hi)
  obtain⟨g1,g2⟩:=D.C_part hp h1 h3 h4
  have hjk:j+es τ.want<=k:=by
   cases hw:τ.want with
   | none=>rw[hw]at hp;simp only[partOk]at hp;simp only[es];omega
   | some m=>rw[hw]at hp;simp only[partOk]at hp;simp only[es];omega
  simp only[es]at h1
  obtain⟨c,hrun,hR⟩:=run_load_D (φ:=φ) ht (b:=L.b) (off:=L.base+i*L.sz+j) (cs:=(cs.drop j).take (es τ.want)) (by simp;omega)
   (fun j' hj'=>by
    have:=h2 (j+j') (by simp only[es];omega)
    rw[hsz]
    simp only[List.getElem?_take,hj',if_true,List.getElem?_drop]
    simpa [es,Nat.add_assoc] using this) g1 g2
  exact⟨_,c,hrun,hR,hK⟩
 ·
  rename_i cs hobj
  rw[hobj]at hr
  simp only[ObjR]at hr
  obtain⟨hsz,hr⟩:=hr
  obtain⟨hagg,rfl,hi,hK⟩:=h
  rcases hr with⟨hnil,_⟩|⟨_,arr,ty,hh,hsize,hfit,vs,hra,hcells⟩
  ·rw[hn]at hnil;cases hnil
  obtain⟨v,h1,h2,h3⟩:=AV.Ra_get hra i hi
  refine⟨_,v,run_loadVar_plain ht hagg ?_,h3,hK⟩
  rw[hsz,Nat.mul_one,Nat.add_zero,← h1,← hcells i hi]
  simp[World.cell?,hh]
 ·
  rename_i k cs hobj
  rw[hobj]at hr
  simp only[ObjR]at hr
  obtain⟨hsz,hr⟩:=hr
  rcases hr with⟨hnil,_⟩|⟨_,arr,ty,hh,hsize,hfit,vs,hra,hcells⟩
  ·rw[hn]at hnil;cases hnil
  have hlen:=AV.Ra_length hra
  have hcell:∀j,j<cs.length->w.cell? ⟨L.b,L.base+j,none⟩=vs[j]?:=fun j hj=>by rw[← hcells j hj];simp[World.cell?,hh]
  have e:L.base+i*L.sz+j=L.base+(i*k+j):=by rw[hsz,Nat.add_assoc]
  rw[e]
  cases hagg:τ.agg with
  | true =>
   rw[hagg]at h
   simp only[if_true]at h
   obtain⟨hj,hK⟩:=h
   refine⟨_,_,run_loadVar_agg ht hagg (cs:=(vs.drop (i*k+j)).take τ.size) (by simp;omega) (fun j' hj'=>?_),?_,hK⟩
   ·have hj1:j'<τ.size:=by simp at hj';omega
    rw[Nat.add_assoc,hcell _ (by omega)]
    simp only[List.getElem?_take,List.getElem?_drop,hj1,if_true]
   ·simp only[AV.R]
    exact⟨_,rfl,AV.Ra_take _ (AV.Ra_drop _ hra)⟩
  | false =>
   rw[hagg]at h
   simp only[Bool.false_eq_true,if_false]at h
   obtain⟨hj,hK⟩:=h
   obtain⟨v,h1,h2,h3⟩:=AV.Ra_get hra _ hj
   exact⟨_,v,run_loadVar_plain ht hagg (by rw[hcell _ hj];exact h1),h3,hK⟩
 ·
  rename_i T u cs hobj
  rw[hobj]at hr
  simp only[ObjR]at hr
  obtain⟨_,hbase,arr,_,hh,hsize,hra⟩:=hr
  obtain⟨hagg,rfl,rfl,hlen,hK⟩:=h
  obtain⟨a,rfl⟩:∃a,cs=[a]:=by
   match cs,hlen with
   | [a],_=>exact⟨a,rfl⟩
  simp only[AV.Rs]at hra
  obtain⟨v,vs',rfl,h2,rfl⟩:=hra
  refine⟨_,v,run_loadVar_plain ht hagg ?_,h2,hK⟩
  simp[hbase,World.cell?,hh]
 ·
  rename_i cs hobj
  rw[hobj]at hr
  simp only[ObjR]at hr
  obtain⟨_,hbase,arr,ty,hh,hsize,hra⟩:=hr
  obtain⟨rfl,h⟩:=h
  have hlen:=AV.Ra_length hra
  have hcell:∀j,w.cell? ⟨L.b,j,none⟩=arr[j]?:=fun j=>by simp[World.cell?,hh]
  simp only[hbase,Nat.zero_mul,Nat.add_zero,Nat.zero_add]
  cases hagg:τ.agg with
  | true =>
   rw[hagg]at h
   simp only[if_true]at h
   obtain⟨hj,hK⟩:=h
   refine⟨_,_,run_loadVar_agg ht hagg (cs:=(arr.drop j).take τ.size) (by simp;omega) (fun j' hj'=>?_),?_,hK⟩
   ·rw[hcell]
    have hj1:j'<τ.size:=by simp at hj';omega
    simp only[List.getElem?_take,List.getElem?_drop,hj1,if_true]
   ·simp only[AV.R]
    exact⟨_,rfl,AV.Ra_take _ (AV.Ra_drop _ hra)⟩
  | false =>
   rw[hagg]at h
   simp only[Bool.false_eq_true,if_false]at h
   obtain⟨hj,hK⟩:=h
   obtain⟨v,h1,h2,h3⟩:=AV.Ra_get hra j hj
   exact⟨_,v,run_loadVar_plain ht hagg (by rw[hcell];exact h1),h3,hK⟩
 ·exact h.elim
theorem loadw_sound(hc:Conc F φ own w){t:TypeId}{x:AV}{cx:Value}{K:AV->Prop}(hx:AV.R F φ w x cx)(h:loadw (tyOf P t) own x K):Yields P F φ w (Instr.loadAt t cx) K:=by
 unfold loadw at h
 split at h
 ·rename_i τ o i j hτ
  simp only[AV.R]at hx
  obtain⟨L,ho,hn,rfl⟩:=hx
  obtain⟨v,c,h1,h2,h3⟩:=loadObj_sound hc hτ ho hn h
  exact⟨v,c,by simpa [Instr.loadAt,Instr.sureAddr] using h1,h2,h3⟩
 ·rename_i τ ag d hτ
  obtain⟨rfl,hK⟩:=h
  simp only[AV.R]at hx
  obtain⟨b,off,cs,rfl,hF,hl,hcell,ha,hd⟩:=hx
  obtain⟨c,hrun,hR⟩:=run_load_D (φ:=φ) hτ hl hcell ha hd
  exact⟨_,c,by simpa [Instr.loadAt,Instr.sureAddr] using hrun,hR,hK⟩
 ·exact h.elim
end
end Go.AM
namespace Go.AM
open Go
section
variable {P:Program} {F:Nat->Prop} {φ:Nat->Option Loc} {own:List Obj} {w:World}
def idxAddrw(P:Program)(τ:Option Ty)(own:List Obj)(x i:AV)(K:AV->Prop):Prop :=
 match τ,x,i with
 | some τ,.sl o off len,.dat (.int _ n) =>
  (match τ.desc with|.slice e=>(match tyOf P e with|some τe=>0<=n/\n<len/\((∃ag xs,own.getD o .dead=.row ag xs/\es ag=τe.size)∨(∃cs,own.getD o .dead=.vec cs/\τe.size=1)∨(∃k cs,own.getD o .dead=.tab k cs/\τe.size=k))/\K (.ptr o (off+n.toNat) 0)|none=>False)|_=>False)
 | some τ,.dat (.sl ag xs),.dat (.int _ n) =>
  (match τ.desc with|.slice e=>(match tyOf P e with|some τe=>0<=n/\n<xs.length/\es ag=τe.size/\K (.rptr ag (D.nth xs n.toNat))|none=>False)|_=>False)
 | some τ,.ptr o i0 j,.dat (.int _ n) =>
  (match τ.desc with
  | .array m e=>(match tyOf P e with
    | some τe=>0<=n/\n<m/\(match own.getD o .dead with
      | .row none _=>i0=0/\j=0/\τe.size=1/\K (.ptr o n.toNat 0)
      | .row (some _) _=>K (.ptr o i0 (j+n.toNat*τe.size))
      | .box _=>K (.ptr o i0 (j+n.toNat*τe.size))
      | _=>False)
    | none=>False)
  | _=>False)
 | some τ,.rptr ag d,.dat (.int _ n) =>
  (match τ.desc with
  | .array m e=>(match tyOf P e with
    | some τe=>0<=n/\n<m/\partOk ag (n.toNat*τe.size) τe.want/\K (.rptr τe.want (D.part ag d (n.toNat*τe.size) τe.want))
    | none=>False)
  | _=>False)
 | _,_,_=>False
theorem idxAddrw_sound(hc:Conc F φ own w){t:TypeId}{x i:AV}{cx ci:Value}{K:AV->Prop}(hx:AV.R F φ w x cx)(hi:AV.R F φ w i ci)(h:idxAddrw P (tyOf P t) own x i K) :
  Yields P F φ w (Instr.indexAt t cx ci) K:=by
 unfold idxAddrw at h
 split at h
 ·
  rename_i τ o off len k n hτ
  split at h
  ·rename_i e hd
   split at h
   ·rename_i τe hτe
    obtain⟨h0,h1,hobj,hK⟩:=h
    obtain⟨rfl,_⟩:=R_int.1 hi
    simp only[AV.R]at hx
    obtain⟨L,ho,hx⟩:=hx
    have hr0:=getObj_rep hc ho
    have hr:L.sz=τe.size:=by
     rcases hobj with⟨ag,xs,hobj,hes⟩|⟨cs,hobj,hes⟩|⟨k,cs,hobj,hes⟩
     ·rw[hobj]at hr0
      simp only[ObjR]at hr0
      rw[hr0.1,hes]
     ·rw[hobj]at hr0
      simp only[ObjR]at hr0
      rw[hr0.1,hes]
     ·rw[hobj]at hr0
      simp only[ObjR]at hr0
      rw[hr0.1,hes]
    rcases hx with⟨_,_,rfl,_⟩|⟨hn,c,cap,rfl,hl1,hl2,hcc,hl3⟩
    ·simp at h1;omega
    have hcpos:cap≠0:=by omega
    have hcc':=hcc.resolve_left hcpos
    refine⟨_,.pointer (some ⟨L.b,c+n.toNat*τe.size,none⟩),?_,?_,hK⟩
    ·have hu:=run_und (P:=P) w hτ
     rw[hd]at hu
     simp only[Instr.indexAt,asIntOf,Sem.run_bind,Sem.run_pure,Result.andThen_ok,hu,h0,h1,and_self,if_true,run_size w hτe,Addr.add_mk]
    ·simp only[AV.R]
     refine⟨L,ho,hn,?_⟩
     rw[hcc',hr]
     congr 3
     simp only[Nat.add_mul,Nat.add_assoc,Nat.add_zero]
   ·exact h.elim
  ·exact h.elim
 ·
  rename_i τ ag xs k n hτ
  split at h
  ·rename_i e hd
   split at h
   ·rename_i τe hτe
    obtain⟨h0,h1,hes,hK⟩:=h
    obtain⟨rfl,_⟩:=R_int.1 hi
    obtain⟨a,cap,rfl,hl1,hl2,hx⟩:=R_sl.1 hx
    have hlt:n.toNat<xs.length:=by omega
    rcases hx with rfl|⟨b,off,rfl,hF,hrow⟩
    ·simp at hlt
    obtain⟨cs,g1,g2,g3,g4⟩:=D.Cr_iff.1 hrow _ _ (nth_get hlt)
    refine⟨_,.pointer (some ⟨b,off+n.toNat*τe.size,none⟩),?_,?_,hK⟩
    ·have hu:=run_und (P:=P) w hτ
     rw[hd]at hu
     simp only[Instr.indexAt,asIntOf,Sem.run_bind,Sem.run_pure,Result.andThen_ok,hu,h0,h1,and_self,if_true,run_size w hτe,Addr.add_mk]
    ·simp only[AV.R]
     exact⟨b,_,cs,rfl,hF,g1,by rw[← hes];exact g2,g3,g4⟩
   ·exact h.elim
  ·exact h.elim
 ·
  rename_i τ o i0 j k n hτ
  split at h
  ·rename_i m e hd
   split at h
   ·rename_i τe hτe
    obtain⟨h0,h1,h⟩:=h
    obtain⟨rfl,_⟩:=R_int.1 hi
    simp only[AV.R]at hx
    obtain⟨L,ho,hn,rfl⟩:=hx
    have hu:=run_und (P:=P) w hτ
    rw[hd]at hu
    have hrun:(Instr.indexAt t (.pointer (some ⟨L.b,L.base+i0*L.sz+j,none⟩)) (.int k n)).run P w=.ok (.pointer (some ⟨L.b,L.base+i0*L.sz+j+n.toNat*τe.size,none⟩)) w:=by
     simp only[Instr.indexAt,asIntOf,Instr.sureAddr,Sem.run_bind,Sem.run_pure,Result.andThen_ok,hu,h0,h1,and_self,if_true,run_size w hτe,Addr.add_mk]
    have hr:=getObj_rep hc ho
    split at h
    ·rename_i xs hobj
     rw[hobj]at hr
     simp only[ObjR,es]at hr
     obtain⟨rfl,rfl,hs,hK⟩:=h
     refine⟨_,_,hrun,?_,hK⟩
     simp only[AV.R]
     exact⟨L,ho,hn,by rw[hr.1,hs];simp⟩
    ·refine⟨_,_,hrun,?_,h⟩
     simp only[AV.R]
     exact⟨L,ho,hn,by simp[Nat.add_assoc]⟩
    ·refine⟨_,_,hrun,?_,h⟩
     simp only[AV.R]
     exact⟨L,ho,hn,by simp[Nat.add_assoc]⟩
    ·exact h.elim
   ·exact h.elim
  ·exact h.elim
 ·
  rename_i τ ag d k n hτ
  split at h
  ·rename_i m e hd
   split at h
   ·rename_i τe hτe
    obtain⟨h0,h1,hp,hK⟩:=h
    obtain⟨rfl,_⟩:=R_int.1 hi
    simp only[AV.R]at hx
    obtain⟨b,off,cs,rfl,hF,hl,hcell,ha,hdc⟩:=hx
    have hu:=run_und (P:=P) w hτ
    rw[hd]at hu
    obtain⟨g1,g2⟩:=D.C_part hp hl ha hdc
    have hjk:n.toNat*τe.size+es τe.want<=es ag:=by
     cases hag:ag with
     | none=>rw[hag]at hp;cases hw:τe.want <;> rw[hw]at hp <;> simp only[partOk]at hp <;> simp[es,hp]
     | some k=>cases hw:τe.want <;> rw[hag,hw]at hp <;> simp only[partOk]at hp <;> simp only[es] <;> omega
    refine⟨_,.pointer (some ⟨b,off+n.toNat*τe.size,none⟩),?_,?_,hK⟩
    ·simp only[Instr.indexAt,asIntOf,Instr.sureAddr,Sem.run_bind,Sem.run_pure,Result.andThen_ok,hu,h0,h1,and_self,if_true,run_size w hτe,Addr.add_mk]
    ·simp only[AV.R]
     refine⟨b,_,_,rfl,hF,?_,fun j hj=>?_,g1,g2⟩
     ·simp;omega
     ·simp only[List.getElem?_take,hj,if_true,List.getElem?_drop]
      have:=hcell (n.toNat*τe.size+j) (by omega)
      simpa [Nat.add_assoc] using this
   ·exact h.elim
  ·exact h.elim
 ·exact h.elim
def fieldOf(P:Program)(τ:Option Ty)(f:Nat):Option (Nat×Ty) :=
 match τ with
 | some τ=>(match τ.desc with
  | .struct fs=>(match fs[f]? with
   | some fd=>(match tyOf P fd.type with|some τf=>if τf.size=0 then none else some (fd.offset,τf)|none=>none)
   | none=>none)
  | _=>none)
 | none=>none
theorem fieldOf_spec{t:TypeId}{f off:Nat}{τf:Ty}(h:fieldOf P (tyOf P t) f=some (off,τf)) :
  ∃τ fs fd,tyOf P t=some τ/\τ.desc=.struct fs/\fs[f]?=some fd/\fd.offset=off/\tyOf P fd.type=some τf/\τf.size≠0:=by
 unfold fieldOf at h
 split at h
 ·rename_i τ hτ
  split at h
  ·rename_i fs hd
   split at h
   ·rename_i fd hfd
    split at h
    ·rename_i τf' hτf
     split at h
     ·cases h
     ·rename_i hne
      simp only[Option.some.injEq,Prod.mk.injEq]at h
      obtain⟨rfl,rfl⟩:=h
      exact⟨τ,fs,fd,hτ,hd,hfd,rfl,hτf,hne⟩
    ·cases h
   ·cases h
  ·cases h
 ·cases h
def fieldAddrw(P:Program)(τ:Option Ty)(x:AV)(f:Nat)(K:AV->Prop):Prop :=
 match fieldOf P τ f,x with
 | some (off,_),.ptr o i j=>K (.ptr o i (j+off))
 | some (off,τf),.rptr ag d=>partOk ag off τf.want/\K (.rptr τf.want (D.part ag d off τf.want))
 | _,_=>False
theorem fieldAddrw_sound{t:TypeId}{x:AV}{cx:Value}{f:Nat}{K:AV->Prop}(hx:AV.R F φ w x cx)(h:fieldAddrw P (tyOf P t) x f K) :
  Yields P F φ w (Instr.fieldAt t cx f) K:=by
 unfold fieldAddrw at h
 split at h
 ·rename_i off τf o i j hf
  obtain⟨τ,fs,fd,hτ,hd,hfd,hoff,hτf,hne⟩:=fieldOf_spec hf
  subst hoff
  simp only[AV.R]at hx
  obtain⟨L,ho,hn,rfl⟩:=hx
  have hu:=run_und (P:=P) w hτ
  rw[hd]at hu
  refine⟨_,.pointer (some ⟨L.b,L.base+i*L.sz+j+fd.offset,none⟩),?_,?_,h⟩
  ·simp only[Instr.fieldAt,Sem.run_bind,Result.andThen_ok,hu,hfd,Instr.sureAddr,Sem.run_pure,fieldPlace,run_size w hτf,hne,if_false,Addr.add_mk]
  ·simp only[AV.R]
   exact⟨L,ho,hn,by simp[Nat.add_assoc]⟩
 ·rename_i off τf ag d hf
  obtain⟨τ,fs,fd,hτ,hd,hfd,hoff,hτf,hne⟩:=fieldOf_spec hf
  subst hoff
  obtain⟨hp,hK⟩:=h
  simp only[AV.R]at hx
  obtain⟨b,off,cs,rfl,hF,hl,hcell,ha,hdc⟩:=hx
  have hu:=run_und (P:=P) w hτ
  rw[hd]at hu
  obtain⟨g1,g2⟩:=D.C_part hp hl ha hdc
  have hjk:fd.offset+es τf.want<=es ag:=by
   cases hag:ag with
   | none=>rw[hag]at hp;cases hw:τf.want <;> rw[hw]at hp <;> simp only[partOk]at hp <;> simp[es,hp]
   | some k=>cases hw:τf.want <;> rw[hag,hw]at hp <;> simp only[partOk]at hp <;> simp only[es] <;> omega
  refine⟨_,.pointer (some ⟨b,off+fd.offset,none⟩),?_,?_,hK⟩
  ·simp only[Instr.fieldAt,Sem.run_bind,Result.andThen_ok,hu,hfd,Instr.sureAddr,Sem.run_pure,fieldPlace,run_size w hτf,hne,if_false,Addr.add_mk]
  ·simp only[AV.R]
   refine⟨b,_,_,rfl,hF,?_,fun j hj=>?_,g1,g2⟩
   ·simp;omega
   ·simp only[List.getElem?_take,hj,if_true,List.getElem?_drop]
    have:=hcell (fd.offset+j) (by omega)
    simpa [Nat.add_assoc] using this
 ·exact h.elim
def AV.cellsOf:AV->Option (List AV)
 | .agg vs=>some vs
 | .dat (.agg ds)=>some (ds.map .dat)
 | _=>none
theorem AV.cellsOf_R{x:AV}{vs:List AV}{c:Value}(hx:x.cellsOf=some vs)(h:AV.R F φ w x c):∃arr:List Value,c=.agg arr.toArray/\AV.Ra F φ w vs arr:=by
 unfold AV.cellsOf at hx
 split at hx
 ·cases hx
  simpa only[AV.R] using h
 ·rename_i ds
  cases hx
  simp only[AV.R,D.R]at h
  obtain⟨arr,rfl,h⟩:=h
  refine⟨arr,rfl,?_⟩
  induction ds generalizing arr with
  | nil=>simp only[D.Cs]at h;subst h;simp[AV.Ra]
  | cons d ds ih =>
   simp only[D.Cs]at h
   obtain⟨c,cs',rfl,h1,h2,h3⟩:=h
   simp only[List.map_cons,AV.Ra]
   exact⟨c,cs',rfl,D.C_one h1 h2,by simp only[AV.R];exact(D.R_plain h1).2 h2,ih cs' h3⟩
 ·simp at hx
def partw(τ:Ty)(vs:List AV)(off:Nat)(K:AV->Prop):Prop :=
 if τ.agg then off+τ.size<=vs.length/\K (.agg ((vs.drop off).take τ.size)) else off<vs.length/\K (vs.getD off .top)
theorem extract_toArray(arr:List Value)(off n:Nat):arr.toArray.extract off (off+n)=((arr.drop off).take n).toArray:=by
 apply Array.ext'
 simp[List.take_drop]
theorem partw_sound{t:TypeId}{τ:Ty}(ht:tyOf P t=some τ){vs:List AV}{arr:List Value}{off:Nat}{K:AV->Prop}(hra:AV.Ra F φ w vs arr)(h:partw τ vs off K) :
  Yields P F φ w (part t arr.toArray off) K:=by
 unfold partw at h
 have hlen:=AV.Ra_length hra
 cases hagg:τ.agg with
 | true =>
  rw[hagg]at h
  simp only[if_true]at h
  refine⟨_,.agg ((arr.drop off).take τ.size).toArray,?_,?_,h.2⟩
  ·simp only[part,Sem.run_bind,run_agg w ht,Result.andThen_ok,hagg,if_true,run_size w ht,Sem.run_pure,extract_toArray]
  ·simp only[AV.R]
   exact⟨_,rfl,AV.Ra_take _ (AV.Ra_drop _ hra)⟩
 | false =>
  rw[hagg]at h
  simp only[Bool.false_eq_true,if_false]at h
  obtain⟨v,h1,h2,h3⟩:=AV.Ra_get hra off h.1
  refine⟨_,v,?_,h3,h.2⟩
  simp only[part,Sem.run_bind,run_agg w ht,Result.andThen_ok,hagg,Bool.false_eq_true,if_false,List.getElem?_toArray,h1,Sem.run_pure]
def fieldw(P:Program)(τ:Option Ty)(x:AV)(f:Nat)(K:AV->Prop):Prop :=
 match fieldOf P τ f,x.cellsOf with
 | some (off,τf),some vs=>partw τf vs off K
 | _,_=>False
theorem fieldw_sound{t:TypeId}{x:AV}{cx:Value}{f:Nat}{K:AV->Prop}(hx:AV.R F φ w x cx)(h:fieldw P (tyOf P t) x f K) :
  Yields P F φ w (Instr.field t cx f) K:=by
 unfold fieldw at h
 split at h
 ·rename_i off τf vs hf hv
  obtain⟨τ,fs,fd,hτ,hd,hfd,hoff,hτf,hne⟩:=fieldOf_spec hf
  subst hoff
  obtain⟨arr,rfl,hra⟩:=AV.cellsOf_R hv hx
  have hu:=run_und (P:=P) w hτ
  rw[hd]at hu
  obtain⟨v,c,h1,h2,h3⟩:=partw_sound hτf hra h
  exact⟨v,c,by simp only[Instr.field,Sem.run_bind,hu,Result.andThen_ok,hfd,asAgg,Sem.run_pure,h1],h2,h3⟩
 ·exact h.elim
def indexw(P:Program)(τ:Option Ty)(x i:AV)(K:AV->Prop):Prop :=
 match τ,i with
 | some τ,.dat (.int _ n) =>
  (match τ.desc with
  | .array m e=>(match tyOf P e,x.cellsOf with
    | some τe,some vs=>0<=n/\n<m/\partw τe vs (n.toNat*τe.size) K
    | _,_=>False)
  | .string=>(match x with
    | .dat (.str s)=>0<=n/\n<s.length/\K (.dat (.int .u8 (s.getD n.toNat 0).toNat))
    | _=>False)
  | _=>False)
 | _,_=>False
theorem inR_byte(b:UInt8):inR .u8 b.toNat:=by
 rw[inR_u8]
 have:=b.toNat_lt
 omega
theorem indexw_sound{t:TypeId}{x i:AV}{cx ci:Value}{K:AV->Prop}(hx:AV.R F φ w x cx)(hi:AV.R F φ w i ci)(h:indexw P (tyOf P t) x i K) :
  Yields P F φ w (Instr.index t cx ci) K:=by
 unfold indexw at h
 split at h
 ·rename_i τ k n hτ
  obtain⟨rfl,_⟩:=R_int.1 hi
  have hu:=run_und (P:=P) w hτ
  split at h
  ·rename_i m e hd
   rw[hd]at hu
   split at h
   ·rename_i τe vs hτe hv
    obtain⟨h0,h1,h⟩:=h
    obtain⟨arr,rfl,hra⟩:=AV.cellsOf_R hv hx
    obtain⟨v,c,g1,g2,g3⟩:=partw_sound hτe hra h
    exact⟨v,c,by simp only[Instr.index,asIntOf,Sem.run_bind,Sem.run_pure,Result.andThen_ok,hu,h0,h1,and_self,if_true,run_size w hτe,g1],g2,g3⟩
   ·exact h.elim
  ·rename_i hd
   rw[hd]at hu
   split at h
   ·rename_i s
    obtain⟨h0,h1,hK⟩:=h
    obtain⟨rfl,_⟩:=R_str.1 hx
    have hlt:n.toNat<s.length:=by omega
    refine⟨_,.int .u8 (s.getD n.toNat 0).toNat,?_,R_int.2 ⟨rfl,inR_byte _⟩,hK⟩
    have hg:(⟨s.toArray⟩:ByteArray)[n.toNat]?=some (s.getD n.toNat 0):=by
     have hsz:n.toNat<(⟨s.toArray⟩:ByteArray).size:=hlt
     rw[getElem?_pos (⟨s.toArray⟩:ByteArray) n.toNat hsz]
     simp only[List.getD_eq_getElem?_getD,List.getElem?_eq_getElem hlt,Option.getD_some]
     rfl
    simp only[Instr.index,asIntOf,Sem.run_bind,Sem.run_pure,Result.andThen_ok,hu,h0,if_true,hg]
   ·exact h.elim
  ·exact h.elim
 ·exact h.elim
end
end Go.AM
namespace Go.AM
open Go
section
variable {P:Program} {F:Nat->Prop} {φ:Nat->Option Loc} {own:List Obj} {w:World}
def optInt(x:Option AV)(d:Int):Option Int :=
 match x with
 | none=>some d
 | some (.dat (.int _ n))=>some n
 | _=>none
def slicew(P:Program)(τ:Option Ty)(own:List Obj)(x:AV)(lo hi:Option AV)(K:AV->Prop):Prop :=
 match τ,x with
 | some τ,.sl o off len =>
  (match τ.desc with
  | .slice e=>(match tyOf P e,optInt lo 0,optInt hi len with
   | some τe,some l,some h=>(∃ag xs,own.getD o .dead=.row ag xs/\es ag=τe.size)/\0<=l/\l<=h/\h<=len/\K (.sl o (off+l.toNat) (h - l).toNat)
   | _,_,_=>False)
  | _=>False)
 | some τ,.dat (.sl ag xs) =>
  (match τ.desc with
  | .slice e=>(match tyOf P e,optInt lo 0,optInt hi xs.length with
   | some τe,some l,some h=>es ag=τe.size/\0<=l/\l<=h/\h<=xs.length/\K (.dat (.sl ag ((xs.drop l.toNat).take (h - l).toNat)))
   | _,_,_=>False)
  | _=>False)
 | some τ,.nils =>
  (match τ.desc with
  | .slice e=>(match tyOf P e,optInt lo 0,optInt hi 0 with
   | some τe,some l,some h=>l=0/\h=0/\K .nils
   | _,_,_=>False)
  | _=>False)
 | some τ,.dat (.str s) =>
  (match τ.desc with
  | .string=>(match optInt lo 0,optInt hi s.length with
   | some l,some h=>0<=l/\l<=h/\h<=s.length/\K (.dat (.str ((s.drop l.toNat).take (h - l).toNat)))
   | _,_=>False)
  | _=>False)
 | _,_=>False
def Ro(F:Nat->Prop)(φ:Nat->Option Loc)(w:World):Option AV->Option Value->Prop
 | none,none=>True
 | some x,some c=>AV.R F φ w x c
 | _,_=>False
theorem optInt_cases{lo:Option AV}{cl:Option Value}{d l:Int}(h:Ro F φ w lo cl)(hl:optInt lo d=some l):(cl=none/\l=d)∨(∃k,cl=some (.int k l)):=by
 cases lo with
 | none=>cases cl <;> simp[Ro,optInt]at h hl;exact .inl ⟨rfl,hl.symm⟩
 | some x =>
  cases cl with
  | none=>simp[Ro]at h
  | some c =>
   simp only[Ro]at h
   unfold optInt at hl
   split at hl
   ·rename_i e;cases e
   ·rename_i k n e
    cases e
    cases hl
    exact .inr ⟨k,by rw[(R_int.1 h).1]⟩
   ·cases hl
theorem run_bounds{isSlice:Bool}{len cap:Nat}{cl ch:Option Value}{l h:Int}(hl:(cl=none/\l=0)∨(∃k,cl=some (.int k l)))(hh:(ch=none/\h=(len:Int))∨(∃k,ch=some (.int k h)))
  (h0:0<=l) (h1:l<=h) (h2:h<=len) (h3:len<=cap):(Instr.sliceBounds isSlice len cap cl ch none).run P w=.ok (l.toNat,h.toNat,cap) w:=by
 have a1:0<=h:=Int.le_trans h0 h1
 have a2:h<=(cap:Int):=by omega
 have a3:l<=(h.toNat:Int):=by omega
 rcases hl with⟨rfl,rfl⟩|⟨k,rfl⟩ <;> rcases hh with⟨rfl,rfl⟩|⟨k',rfl⟩ <;>
  simp[Instr.sliceBounds,Instr.sliceBound,asIntOf,a1,a2,a3,h0] <;> (intro hbad;exfalso;omega)
theorem D.Cr_drop{ag:Option Nat}{b off:Nat}{xs:List D}(n m:Nat)(h:D.Cr F w ag b off xs):D.Cr F w ag b (off+n*es ag) ((xs.drop n).take m):=by
 refine D.Cr_iff.2 fun i d hd=>?_
 simp only[List.getElem?_take,List.getElem?_drop]at hd
 split at hd
 ·obtain⟨cs,g1,g2,g3,g4⟩:=D.Cr_iff.1 h (n+i) d hd
  refine⟨cs,g1,fun j hj=>?_,g3,g4⟩
  have:=g2 j hj
  rw[Nat.add_mul]at this
  simpa [Nat.add_assoc] using this
 ·cases hd
theorem slicew_sound(hc:Conc F φ own w){t:TypeId}{x:AV}{cx:Value}{lo hi:Option AV}{cl ch:Option Value}{K:AV->Prop}(hx:AV.R F φ w x cx)(hlo:Ro F φ w lo cl)(hhi:Ro F φ w hi ch)
  (h:slicew P (tyOf P t) own x lo hi K):Yields P F φ w (Instr.sliceAt t cx cl ch none) K:=by
 unfold slicew at h
 split at h
 ·rename_i τ o off len hτ
  split at h
  ·rename_i e hd
   split at h
   ·rename_i τe l hh hτe hl hhh
    obtain⟨⟨ag,xs,hobj,hes⟩,h0,h1,h2,hK⟩:=h
    have hu:=run_und (P:=P) w hτ
    rw[hd]at hu
    simp only[AV.R]at hx
    obtain⟨L,ho,hx⟩:=hx
    have hr:=getObj_rep hc ho
    rw[hobj]at hr
    simp only[ObjR]at hr
    rcases hx with⟨hn,rfl,rfl,rfl⟩|⟨hn,c,cap,rfl,hl1,hl2,hcc,hl3⟩
    ·have hb:=run_bounds (P:=P) (w:=w) (isSlice:=true) (optInt_cases hlo hl) (optInt_cases hhi hhh) h0 h1 h2 (Nat.le_refl 0)
     have e1:l=0:=by omega
     have e2:hh=0:=by omega
     subst e1;subst e2
     refine⟨_,.slice none 0 0,?_,?_,hK⟩
     ·simp only[Instr.sliceAt,Instr.slice,Sem.run_bind,hu,Result.andThen_ok,hb,run_size w hτe,Sem.run_pure]
      rfl
     ·simp only[AV.R]
      exact⟨L,ho,.inl ⟨hn,by simp⟩⟩
    ·have hb:=run_bounds (P:=P) (w:=w) (isSlice:=true) (optInt_cases hlo hl) (optInt_cases hhi hhh) h0 h1 h2 hl1
     refine⟨_,.slice (some (if cap=l.toNat then ⟨L.b,c,none⟩ else ⟨L.b,c+l.toNat*τe.size,none⟩)) (hh.toNat - l.toNat) (cap - l.toNat),?_,?_,hK⟩
     ·simp only[Instr.sliceAt,Instr.slice,Sem.run_bind,hu,Result.andThen_ok,hb,run_size w hτe,Sem.run_pure]
      split <;> simp[Addr.add_mk]
     ·simp only[AV.R]
      refine⟨L,ho,.inr ⟨hn,if cap=l.toNat then c else c+l.toNat*τe.size,cap - l.toNat,?_,by omega,by omega,?_,?_⟩⟩
      ·have:(hh - l).toNat=hh.toNat - l.toNat:=by omega
       rw[this]
       split <;> rfl
      ·split
       ·left;omega
       ·rename_i hne
        right
        rw[hcc.resolve_left (by omega),hr.1,hes,Nat.add_mul,Nat.add_assoc]
      ·have:off+l.toNat+(cap - l.toNat)=off+cap:=by omega
       rw[this];exact hl3
   ·exact h.elim
  ·exact h.elim
 ·rename_i τ ag xs hτ
  split at h
  ·rename_i e hd
   split at h
   ·rename_i τe l hh hτe hl hhh
    obtain⟨hes,h0,h1,h2,hK⟩:=h
    have hu:=run_und (P:=P) w hτ
    rw[hd]at hu
    obtain⟨a,cap,rfl,hl1,hl2,hx⟩:=R_sl.1 hx
    have hb:=run_bounds (P:=P) (w:=w) (isSlice:=true) (optInt_cases hlo hl) (optInt_cases hhi hhh) h0 h1 h2 hl1
    have hlen:((xs.drop l.toNat).take (hh - l).toNat).length=hh.toNat - l.toNat:=by simp;omega
    refine⟨_,.slice (if cap=l.toNat then a else a.map (·.add (l.toNat*τe.size))) (hh.toNat - l.toNat) (cap - l.toNat),?_,?_,hK⟩
    ·simp only[Instr.sliceAt,Instr.slice,Sem.run_bind,hu,Result.andThen_ok,hb,run_size w hτe,Sem.run_pure]
    ·refine R_sl.2 ⟨_,_,by rw[hlen],by omega,by omega,?_⟩
     rcases hx with rfl|⟨b,off,rfl,hF,hrow⟩
     ·left;simp
     ·by_cases hm:cap=l.toNat
      ·left
       apply List.eq_nil_of_length_eq_zero
       omega
      ·right
       rw[if_neg hm]
       refine⟨b,off+l.toNat*τe.size,by simp[Addr.add_mk],hF,?_⟩
       rw[← hes]
       exact D.Cr_drop _ _ hrow
   ·exact h.elim
  ·exact h.elim
 ·rename_i τ hτ
  split at h
  ·rename_i e hd
   split at h
   ·rename_i τe l hh hτe hl hhh
    obtain⟨rfl,rfl,hK⟩:=h
    have hu:=run_und (P:=P) w hτ
    rw[hd]at hu
    have ex:=R_nils.1 hx
    subst ex
    have hb:=run_bounds (P:=P) (w:=w) (isSlice:=true) (len:=0) (cap:=0) (optInt_cases hlo hl) (optInt_cases hhi hhh) (by omega) (by omega) (by omega) (Nat.le_refl 0)
    refine⟨_,.slice none 0 0,?_,R_nils.2 rfl,hK⟩
    simp only[Instr.sliceAt,Instr.slice,Sem.run_bind,hu,Result.andThen_ok,hb,run_size w hτe,Sem.run_pure]
    rfl
   ·exact h.elim
  ·exact h.elim
 ·rename_i τ s hτ
  split at h
  ·rename_i hd
   split at h
   ·rename_i l hh hl hhh
    obtain⟨h0,h1,h2,hK⟩:=h
    have hu:=run_und (P:=P) w hτ
    rw[hd]at hu
    obtain⟨rfl,hm⟩:=R_str.1 hx
    have hsz:(⟨s.toArray⟩:ByteArray).size=s.length:=rfl
    have hb:=run_bounds (P:=P) (w:=w) (isSlice:=false) (len:=s.length) (cap:=s.length) (optInt_cases hlo hl) (optInt_cases hhi hhh) h0 h1 h2 (Nat.le_refl _)
    refine⟨_,.string ⟨((s.drop l.toNat).take (hh - l).toNat).toArray⟩,?_,R_str.2 ⟨rfl,?_⟩,hK⟩
    ·simp only[Instr.sliceAt,Instr.slice,Sem.run_bind,hu,Result.andThen_ok,Option.isSome_none,Bool.false_eq_true,if_false,Sem.run_pure,hsz,hb]
     congr 2
     have e:hh.toNat=l.toNat+(hh - l).toNat:=by omega
     apply ByteArray.ext
     rw[e]
     simp only[ByteArray.data_extract]
     apply Array.ext'
     simp[List.take_drop]
    ·simp only[List.length_take,List.length_drop];omega
   ·exact h.elim
  ·exact h.elim
 ·exact h.elim
def unw(op:UnOp)(x:AV)(K:AV->Prop):Prop :=
 match op,x with
 | .not,.dat (.bool b)=>K (.dat (.bool (!b)))
 | .neg,.dat (.int k n)=>fitw k (0 - n) K
 | .xor,.dat (.int k n)=>K (.dat (.int k (bitsV .xor k (if k.signed then -1 else k.max) n)))
 | _,_=>False
theorem unw_sound{op:UnOp}{x:AV}{cx:Value}{K:AV->Prop}(hx:AV.R F φ w x cx)(h:unw op x K):Yields P F φ w (Op.unary op cx) K:=by
 unfold unw at h
 split at h
 ·have e:=R_bool.1 hx;subst e
  exact⟨_,_,rfl,R_bool.2 rfl,h⟩
 ·obtain⟨rfl,_⟩:=R_int.1 hx
  exact fitw_sound h
 ·obtain⟨rfl,_⟩:=R_int.1 hx
  exact⟨_,_,rfl,R_int.2 ⟨rfl,wrap_inR _ _⟩,h⟩
 ·exact h.elim
def bytesD(xs:List D):List UInt8:=xs.map fun|.int _ n=>UInt8.ofNat n.toNat|_=>0
def bytesOk(xs:List D):Bool:=xs.all fun|.int .u8 _=>true|_=>false
def bytesI(xs:List D):List Int:=xs.map fun|.int _ n=>n|_=>0
theorem bytesI_D:∀xs:List D,bytesOk xs=true->(bytesI xs).map (fun n=>UInt8.ofNat n.toNat)=bytesD xs
 | [],_=>rfl
 | .int .u8 n :: r,h=>by
  have:=bytesI_D r (by simpa [bytesOk] using h)
  simp only[bytesI,bytesD,List.map_cons]at this ⊢
  rw[this]
def runeS(n:Int):List UInt8:=(Utf8.encode n).data.toList
theorem runeS_len(n:Int):(runeS n).length<=maxLen:=by
 have:(runeS n).length<=4:=by
  unfold runeS Utf8.encode
  simp only
  repeat' split
  all_goals simp
 have h:4<=maxLen:=by decide
 omega
def convw(P:Program)(τs τd:Option Ty)(x:AV)(K:AV->Prop):Prop :=
 match τs,τd,x with
 | some _,some τ,.dat (.int _ n)=>(match τ.desc with|.int k=>fitw k n K|.string=>K (.dat (.str (runeS n)))|_=>False)
 | some _,some τ,.dat (.str s)=>(match τ.desc with|.string=>K (.dat (.str s))|_=>False)
 | some σ,some τ,.dat (.sl none xs)=>(match σ.desc,τ.desc with
  | .slice e,.string=>(match tyOf P e with
   | some τe=>(match τe.desc with|.int .u8=>bytesOk xs=true/\K (.dat (.str (bytesD xs)))|_=>False)
   | none=>False)
  | _,_=>False)
 | _,_,_=>False
theorem bytes_sound{s d e:TypeId}{xs:List D}{cx:Value}(hs:P.underlying s=some (.slice e))(he:P.underlying e=some (.int .u8))(hd:P.underlying d=some .string)
  (hx:AV.R F φ w (.dat (.sl none xs)) cx) (hok:bytesOk xs=true):(convert s d cx).run P w=.ok (.string ⟨(bytesD xs).toArray⟩) w/\(bytesD xs).length<=maxLen:=by
 obtain⟨a,cap,rfl,h1,h2,h3⟩:=R_sl.1 hx
 have hlen:(bytesD xs).length=xs.length:=by simp[bytesD]
 refine⟨?_,by omega⟩
 rcases h3 with rfl|⟨b,off,rfl,_,h3⟩
 ·cases a with
  | none=>rw[run_convert_bytes_nil w s e hs he _ _ d hd];rfl
  | some ad =>
   rw[run_convert_bytes_string w s d e _ _ _ hs he hd,run_bytesToString w ad _ cap [] ?_]
   ·rfl
   ·exact run_loadCells_list (P:=P) w ad [] (fun j v hj=>by simp at hj)
 ·rw[run_convert_bytes_arg w s e hs he b off xs.length cap (bytesI xs) (by simp[bytesI]) (fun i hi=>?_) d hd]
  ·unfold strOfNums
   rw[bytesI_D xs hok]
  ·obtain⟨cs,c1,c2,_,c3⟩:=D.Cr_get none b off xs h3 i xs[i] (List.getElem?_eq_getElem hi)
   have c2:=c2 0 (by simp[es])
   simp only[es,Nat.mul_one,Nat.add_zero]at c2
   have hm:xs[i]∈xs:=List.getElem_mem _
   have hk:=List.all_eq_true.1 hok _ hm
   have hI:(bytesI xs).getD i 0=(match xs[i] with|.int _ n=>n|_=>0):=by
    simp[bytesI,List.getD_eq_getElem?_getD,hi]
   rw[c2,hI]
   generalize xs[i]=x at *
   cases x with
   | int k n =>
    cases k <;> simp at hk
    simp only[D.C]at c3
    rw[c3.1];rfl
   | bool _=>simp at hk
   | str _=>simp at hk
   | sl _ _=>simp at hk
   | agg _=>simp at hk
theorem convw_sound{s d:TypeId}{x:AV}{cx:Value}{K:AV->Prop}(hx:AV.R F φ w x cx)(h:convw P (tyOf P s) (tyOf P d) x K):Yields P F φ w (convert s d cx) K:=by
 unfold convw at h
 split at h
 ·rename_i τs τ k n hs hτ
  split at h
  ·rename_i k' hd
   obtain⟨rfl,_⟩:=R_int.1 hx
   have h1:=run_und (P:=P) w hs
   have h2:=run_und (P:=P) w hτ
   rw[hd]at h2
   obtain⟨v,c,g1,g2,g3⟩:=fitw_sound (P:=P) (F:=F) (φ:=φ) (w:=w) h
   refine⟨v,c,?_,g2,g3⟩
   simp only[convert,Sem.run_bind,h1,h2,Result.andThen_ok,Conv.intToInt]
   exact g1
  ·rename_i hd
   obtain⟨rfl,_⟩:=R_int.1 hx
   have h1:=run_und (P:=P) w hs
   have h2:=run_und (P:=P) w hτ
   rw[hd]at h2
   refine⟨_,.string (Utf8.encode n),?_,R_str.2 ⟨rfl,runeS_len n⟩,h⟩
   cases hds:τs.desc <;> (rw[hds]at h1;simp only[convert,Sem.run_bind,h1,h2,Result.andThen_ok,Conv.intToString,Sem.run_pure])
  ·exact h.elim
 ·rename_i τs τ s' hs hτ
  split at h
  ·rename_i hd
   have hx':=hx
   obtain⟨rfl,_⟩:=R_str.1 hx
   have h1:=run_und (P:=P) w hs
   have h2:=run_und (P:=P) w hτ
   rw[hd]at h2
   refine⟨_,_,?_,hx',h⟩
   simp only[convert,Sem.run_bind,h1,h2,Result.andThen_ok]
   rfl
  ·exact h.elim
 ·rename_i σ τ xs hs hτ
  split at h
  ·rename_i e h1 h2
   split at h
   ·rename_i τe he
    split at h
    ·rename_i h3
     have g1:=(tyOf_spec hs).1
     have g2:=(tyOf_spec hτ).1
     have g3:=(tyOf_spec he).1
     rw[h1]at g1;rw[h2]at g2;rw[h3]at g3
     obtain⟨r1,r2⟩:=bytes_sound (φ:=φ) g1 g3 g2 hx h.1
     exact⟨_,_,r1,R_str.2 ⟨rfl,r2⟩,h.2⟩
    ·exact h.elim
   ·exact h.elim
  ·exact h.elim
 ·exact h.elim
def lenw(P:Program)(τ:Option Ty)(own:List Obj)(x:AV)(K:AV->Prop):Prop :=
 match τ with
 | some τ=>(match τ.desc,x with
  | .string,.dat (.str s)=>K (.dat (.int .i64 s.length))
  | .slice _,.dat (.sl _ xs)=>K (.dat (.int .i64 xs.length))
  | .slice _,.sl _ _ len=>K (.dat (.int .i64 len))
  | .slice _,.nils=>K (.dat (.int .i64 0))
  | .array n _,_=>inR .i64 n/\K (.dat (.int .i64 n))
  | .map _ _,.nilm=>K (.dat (.int .i64 0))
  | .map _ _,.map o=>(match own.getD o .dead with|.map m=>inR .i64 m.length/\K (.dat (.int .i64 m.length))|_=>False)
  | _,_=>False)
 | none=>False
theorem mapR_length:∀{m:List (D×D)} {es:List MapEntry},mapR F w m es->es.length=m.length
 | [],es,h=>by simp only[mapR]at h;simp[h]
 | x :: m,es,h=>by
  simp only[mapR]at h
  obtain⟨e,es',rfl,_,_,h⟩:=h
  simp[mapR_length h]
theorem inR_len{n:Nat}(h:n<=maxLen):inR .i64 n:=by
 rw[inR_i64];simp only[maxLen]at h;omega
theorem lenw_sound(hc:Conc F φ own w){t ty:TypeId}{x:AV}{cx:Value}{K:AV->Prop}(hx:AV.R F φ w x cx)(h:lenw P (tyOf P t) own x K):Yields P F φ w (Builtin.len_ #[t] ty #[cx]) K:=by
 unfold lenw at h
 split at h
 ·rename_i τ hτ
  have hu:=run_und (P:=P) w hτ
  have go:∀d,τ.desc=d->(underlying t).run P w=.ok d w:=fun d hd=>by rw[← hd];exact hu
  split at h
  ·rename_i s hd
   obtain⟨rfl,hm⟩:=R_str.1 hx
   exact⟨_,_,by simp only[Builtin.len_,Sem.run_bind,List.getElem?_toArray,List.getElem?_cons_zero,go _ hd,Result.andThen_ok,Sem.run_pure,goInt] <;> rfl,R_int.2 ⟨rfl,inR_len hm⟩,h⟩
  ·rename_i e ag xs hd
   obtain⟨a,cap,rfl,h1,h2,_⟩:=R_sl.1 hx
   exact⟨_,_,by simp only[Builtin.len_,Sem.run_bind,List.getElem?_toArray,List.getElem?_cons_zero,go _ hd,Result.andThen_ok,Sem.run_pure,goInt] <;> rfl,R_int.2 ⟨rfl,inR_len (by omega)⟩,h⟩
  ·rename_i e o off len hd
   simp only[AV.R]at hx
   obtain⟨L,ho,hx⟩:=hx
   rcases hx with⟨_,_,rfl,rfl⟩|⟨_,c,cap,rfl,h1,h2,_⟩
   ·exact⟨_,_,by simp only[Builtin.len_,Sem.run_bind,List.getElem?_toArray,List.getElem?_cons_zero,go _ hd,Result.andThen_ok,Sem.run_pure,goInt] <;> rfl,R_int.2 ⟨rfl,inR_len (by omega)⟩,h⟩
   ·exact⟨_,_,by simp only[Builtin.len_,Sem.run_bind,List.getElem?_toArray,List.getElem?_cons_zero,go _ hd,Result.andThen_ok,Sem.run_pure,goInt] <;> rfl,R_int.2 ⟨rfl,inR_len (by omega)⟩,h⟩
  ·rename_i e hd
   have ex:=R_nils.1 hx;subst ex
   exact⟨_,_,by simp only[Builtin.len_,Sem.run_bind,List.getElem?_toArray,List.getElem?_cons_zero,go _ hd,Result.andThen_ok,Sem.run_pure,goInt] <;> rfl,R_int.2 ⟨rfl,by rw[inR_i64];omega⟩,h⟩
  ·rename_i n e y hd
   exact⟨_,_,by simp only[Builtin.len_,Sem.run_bind,List.getElem?_toArray,List.getElem?_cons_zero,go _ hd,Result.andThen_ok,Sem.run_pure,goInt] <;> rfl,R_int.2 ⟨rfl,h.1⟩,h.2⟩
  ·rename_i e1 e2 hd
   simp only[AV.R]at hx
   subst hx
   exact⟨_,_,by simp only[Builtin.len_,Sem.run_bind,List.getElem?_toArray,List.getElem?_cons_zero,go _ hd,Result.andThen_ok,Sem.run_pure,goInt] <;> rfl,R_int.2 ⟨rfl,by rw[inR_i64];omega⟩,h⟩
  ·rename_i e1 e2 o hd
   simp only[AV.R]at hx
   obtain⟨L,ho,hn,rfl⟩:=hx
   have hr:=getObj_rep hc ho
   split at h
   ·rename_i m hobj
    rw[hobj]at hr
    simp only[ObjR]at hr
    obtain⟨_,es,clock,hh,hm⟩:=hr
    have hl:=mapR_length hm
    refine⟨_,.int .i64 m.length,?_,R_int.2 ⟨rfl,h.1⟩,h.2⟩
    simp only[Builtin.len_,Sem.run_bind,List.getElem?_toArray,List.getElem?_cons_zero,go _ hd,Result.andThen_ok,Sem.run_pure,goInt,getObj,Sem.run,hh]
    simp at hl
    simp[hl]
   ·exact h.elim
  ·exact h.elim
 ·exact h.elim
def minw(isMin:Bool)(x y:AV)(K:AV->Prop):Prop :=
 match x,y with
 | .dat (.int k a),.dat (.int k' b)=>k=k'/\K (.dat (.int k (if isMin then min a b else max a b)))
 | _,_=>False
theorem minw_sound{isMin:Bool}{ts:Array TypeId}{ty:TypeId}{x y:AV}{cx cy:Value}{K:AV->Prop}(hx:AV.R F φ w x cx)(hy:AV.R F φ w y cy)(h:minw isMin x y K) :
  Yields P F φ w (if isMin then Builtin.min_ ts ty #[cx,cy] else Builtin.max_ ts ty #[cx,cy]) K:=by
 unfold minw at h
 split at h
 ·rename_i k a k' b
  obtain⟨rfl,ha⟩:=R_int.1 hx
  obtain⟨rfl,hb⟩:=R_int.1 hy
  obtain⟨rfl,h⟩:=h
  cases isMin with
  | true =>
   simp only[if_true]at h ⊢
   refine⟨_,.int k (min a b),?_,R_int.2 ⟨rfl,?_⟩,h⟩
   ·simp only[Builtin.min_,List.foldlM,Builtin.min2]
    have:(if b<a then b else a)=min a b:=by rw[Int.min_def];split <;> split <;> omega
    rw[this];rfl
   ·rw[Int.min_def];split <;> assumption
  | false =>
   simp only[Bool.false_eq_true,if_false]at h ⊢
   refine⟨_,.int k (max a b),?_,R_int.2 ⟨rfl,?_⟩,h⟩
   ·simp only[Builtin.max_,List.foldlM,Builtin.max2]
    have:(if b > a then b else a)=max a b:=by rw[Int.max_def];split <;> split <;> omega
    rw[this];rfl
   ·rw[Int.max_def];split <;> assumption
 ·exact h.elim
end
end Go.AM
namespace Go.AM
open Go
section
variable {P:Program} {F:Nat->Prop} {φ:Nat->Option Loc} {own:List Obj} {w:World}
def AV.asCells:AV->Option (List AV)
 | .agg vs=>some vs
 | .dat (.agg ds)=>some (ds.map .dat)
 | .dat (.int k n)=>some [.dat (.int k n)]
 | .dat (.bool b)=>some [.dat (.bool b)]
 | .dat (.str s)=>some [.dat (.str s)]
 | .dat (.sl ag xs)=>some [.dat (.sl ag xs)]
 | .nils=>some [.nils]
 | .nilm=>some [.nilm]
 | .sl o i j=>some [.sl o i j]
 | .ptr o i j=>some [.ptr o i j]
 | .map o=>some [.map o]
 | .fn f cs=>some [.fn f cs]
 | _=>none
theorem AV.asCells_R{x:AV}{vs:List AV}{c:Value}(hx:x.asCells=some vs)(h:AV.R F φ w x c):AV.Ra F φ w vs c.cells.toList:=by
 have one:c.oneCell'=true->c.cells.toList=[c]:=by intro h;cases c <;> first|rfl|simp[Value.oneCell']at h
 have fin:c.oneCell'=true->vs=[x]->AV.Ra F φ w vs c.cells.toList:=by
  intro h1 h2
  rw[one h1,h2]
  simp only[AV.Ra]
  exact⟨c,[],rfl,h1,h,rfl⟩
 unfold AV.asCells at hx
 split at hx <;> (try (cases hx))
 ·obtain⟨arr,rfl,hra⟩:=AV.cellsOf_R (x:=.agg vs) rfl h
  simpa [Value.cells] using hra
 ·rename_i ds
  obtain⟨arr,rfl,hra⟩:=AV.cellsOf_R (x:=.dat (.agg ds)) rfl h
  simpa [Value.cells] using hra
 ·exact fin (by rw[(R_int.1 h).1];rfl) rfl
 ·exact fin (by rw[R_bool.1 h];rfl) rfl
 ·exact fin (by rw[(R_str.1 h).1];rfl) rfl
 ·exact fin (by obtain⟨_,_,e,_⟩:=R_sl.1 h;rw[e];rfl) rfl
 ·exact fin (by rw[R_nils.1 h];rfl) rfl
 ·exact fin (by simp only[AV.R]at h;rw[h];rfl) rfl
 ·exact fin (by simp only[AV.R]at h;obtain⟨L,_,⟨_,_,_,e⟩|⟨_,_,_,e,_⟩⟩:=h <;> (rw[e];rfl)) rfl
 ·exact fin (by simp only[AV.R]at h;obtain⟨L,_,_,e⟩:=h;rw[e];rfl) rfl
 ·exact fin (by simp only[AV.R]at h;obtain⟨L,_,_,e⟩:=h;rw[e];rfl) rfl
 ·exact fin (by simp only[AV.R]at h;obtain⟨L,e,_⟩:=h;rw[e];rfl) rfl
def splice:List AV->Nat->List AV->List AV
 | cs,_,[]=>cs
 | cs,off,v :: vs=>splice (cs.set off v) (off+1) vs
def spliceV:List Value->Nat->List Value->List Value
 | cs,_,[]=>cs
 | cs,off,v :: vs=>spliceV (cs.set off v) (off+1) vs
theorem AV.Ra_set{as:List AV}:∀{vs:List Value},AV.Ra F φ w as vs->∀(i:Nat) (a:AV) (v:Value),v.oneCell'=true->AV.R F φ w a v->AV.Ra F φ w (as.set i a) (vs.set i v):=by
 induction as with
 | nil=>intro vs h i a v _ _;simp only[AV.Ra]at h;subst h;simp[AV.Ra]
 | cons a' as ih =>
  intro vs h i a v h1 hv
  simp only[AV.Ra]at h
  obtain⟨v',vs',rfl,h0,h2,h3⟩:=h
  cases i with
  | zero=>simp only[List.set_cons_zero,AV.Ra];exact⟨v,vs',rfl,h1,hv,h3⟩
  | succ i=>simp only[List.set_cons_succ,AV.Ra];exact⟨v',_,rfl,h0,h2,ih h3 i a v h1 hv⟩
theorem splice_R:∀(vs:List AV) (us:List Value) (cs:List AV) (arr:List Value) (off:Nat),AV.Ra F φ w vs us->AV.Ra F φ w cs arr->AV.Ra F φ w (splice cs off vs) (spliceV arr off us)
 | [],us,cs,arr,off,h,k=>by simp only[AV.Ra]at h;subst h;simpa [splice,spliceV] using k
 | v :: vs,us,cs,arr,off,h,k=>by
  simp only[AV.Ra]at h
  obtain⟨u,us',rfl,h0,h2,h3⟩:=h
  simp only[splice,spliceV]
  exact splice_R vs us' _ _ _ h3 (AV.Ra_set k off v u h0 h2)
theorem length_splice:∀(vs cs:List AV) (off:Nat),(splice cs off vs).length=cs.length
 | [],_,_=>rfl
 | v :: vs,cs,off=>by rw[splice,length_splice];simp
theorem foldl_splice:∀(us:List Value) (k off:Nat) (arr:Array Value),
  (us.zipIdx k).foldl (fun cs (x:Value×Nat)=>cs.setIfInBounds (off+x.2) x.1) arr=(spliceV arr.toList (off+k) us).toArray
 | [],k,off,arr=>by simp[spliceV]
 | u :: us,k,off,arr=>by
  simp only[List.zipIdx_cons,List.foldl_cons,spliceV]
  rw[foldl_splice us (k+1) off]
  simp[Nat.add_assoc]
theorem foldl_spliceA(us:Array Value)(off:Nat)(arr:Array Value) :
  us.zipIdx.foldl (fun cs (x:Value×Nat)=>cs.setIfInBounds (off+x.2) x.1) arr=(spliceV arr.toList off us.toList).toArray:=by
 rw[← Array.foldl_toList]
 have:=foldl_splice us.toList 0 off arr
 simpa using this
def fillAV(place:Nat->Option (Nat×Nat))(cells:List AV):List (Nat×AV)->Option (List AV)
 | []=>some cells
 | (i,v) :: rest =>
  match place i,v.asCells with
  | some (off,size),some vs=>if vs.length≠size∨off+vs.length > cells.length then none else fillAV place (splice cells off vs) rest
  | _,_=>none
def Rp(F:Nat->Prop)(φ:Nat->Option Loc)(w:World):List (Nat×AV)->List (Nat×Value)->Prop
 | [],ys=>ys=[]
 | x :: xs,ys=>∃c ys',ys=(x.1,c) :: ys'/\AV.R F φ w x.2 c/\Rp F φ w xs ys'
theorem hlen3{c:Value}{n:Nat}(h:c.cells.toList.length=n):c.cells.size=n:=by simpa using h
theorem fillAV_sound{place placeM:Nat->Option (Nat×Nat)}(hpm:∀i x,place i=some x->placeM i=some x):∀(parts:List (Nat×AV)) (vparts:List (Nat×Value)) (cells cells':List AV) (arr:List Value),Rp F φ w parts vparts->AV.Ra F φ w cells arr ->
  fillAV place cells parts=some cells'->∃arr',Instr.fill placeM arr.toArray vparts=some (arr'.toArray)/\AV.Ra F φ w cells' arr'
 | [],vparts,cells,cells',arr,hp,hc,h=>by
  simp only[Rp]at hp
  subst hp
  simp only[fillAV,Option.some.injEq]at h
  subst h
  exact⟨arr,rfl,hc⟩
 | (i,v) :: rest,vparts,cells,cells',arr,hp,hc,h=>by
  simp only[Rp]at hp
  obtain⟨c,ys',rfl,hv,hp⟩:=hp
  simp only[fillAV]at h
  split at h
  ·rename_i off size vs hpl hvs
   have hra:=AV.asCells_R hvs hv
   have hlen:=AV.Ra_length hra
   have hlen2:=AV.Ra_length hc
   have hlen':=hlen3 hlen
   split at h
   ·cases h
   ·rename_i hcond
    simp only[not_or,ne_eq,Decidable.not_not,Nat.not_lt,gt_iff_lt]at hcond
    obtain⟨arr',g1,g2⟩:=fillAV_sound hpm rest ys' _ _ _ hp (splice_R vs c.cells.toList cells arr off hra hc) h
    refine⟨arr',?_,g2⟩
    simp only[Instr.fill,hpm _ _ hpl]
    rw[if_neg (by simp only[List.size_toArray,Bool.or_eq_true,decide_eq_true_eq];omega),foldl_spliceA]
    simpa using g1
  ·cases h
def placesOf(P:Program)(τ:Ty):Option (List (Nat×Nat)) :=
 match τ.desc with
 | .struct fs=>if (fs.toList.all fun f=>(tyOf P f.type).isSome)=true then some (fs.toList.map fun f=>(f.offset,((tyOf P f.type).map (·.size)).getD 0)) else none
 | .array n e=>(match tyOf P e with|some τe=>some ((List.range n).map fun i=>(i*τe.size,τe.size))|none=>none)
 | _=>none
def buildw(P:Program)(τ:Option Ty)(parts:List (Nat×AV))(K:AV->Prop):Prop :=
 match τ with
 | some τ=>(match placesOf P τ,τ.zero with
  | some pl,some (.agg z) =>
   (z.toList.all (·.oneCell'))=true/\(match fillAV (fun i=>pl[i]?) (z.toList.map constAV0) parts with
   | some cells=>K (.agg cells)
   | none=>False)
  | _,_=>False)
 | none=>False
theorem consts_Ra{z:List Value}(h:(z.all (·.oneCell'))=true):AV.Ra F φ w (z.map constAV0) z:=by
 induction z with
 | nil=>simp[AV.Ra]
 | cons v z ih =>
  simp only[List.all_cons,Bool.and_eq_true]at h
  simp only[List.map_cons,AV.Ra]
  exact⟨v,z,rfl,h.1,constAV0_R v,ih h.2⟩
theorem run_mapM_places{fs:List Field}(w:World):(fs.all fun f=>(tyOf P f.type).isSome)=true ->
  (fs.mapM (fun f=>do pure (f.offset,← sizeOf f.type):Field->Sem (Nat×Nat))).run P w=.ok (fs.map fun f=>(f.offset,((tyOf P f.type).map (·.size)).getD 0)) w:=by
 induction fs with
 | nil=>intro _;rfl
 | cons f fs ih =>
  intro h
  simp only[List.all_cons,Bool.and_eq_true]at h
  obtain⟨τ,hτ⟩:=Option.isSome_iff_exists.1 h.1
  simp only[List.mapM_cons,Sem.run_bind,run_size w hτ,Result.andThen_ok,Sem.run_pure,ih h.2,hτ,List.map_cons,Option.map_some,Option.getD_some]
theorem buildw_sound{t:TypeId}{parts:List (Nat×AV)}{vparts:List (Nat×Value)}{K:AV->Prop}(hp:Rp F φ w parts vparts)(h:buildw P (tyOf P t) parts K) :
  Yields P F φ w (Instr.build t vparts.toArray) K:=by
 unfold buildw at h
 split at h
 ·rename_i τ hτ
  have hu:=run_und (P:=P) w hτ
  split at h
  ·rename_i pl z hpl hz
   obtain⟨hz1,h⟩:=h
   split at h
   ·rename_i cells hfill
    unfold placesOf at hpl
    split at hpl
    ·rename_i fs hd
     rw[hd]at hu
     split at hpl
     ·rename_i hall
      simp only[Option.some.injEq]at hpl
      subst hpl
      obtain⟨arr',g1,g2⟩:=fillAV_sound (fun i x h=>h) parts vparts _ _ _ hp (consts_Ra hz1) hfill
      refine⟨_,.agg arr'.toArray,?_,?_,h⟩
      ·have hm:=run_mapM_places (P:=P) w hall
       have hm':(fs.mapM (fun f=>do pure (f.offset,← sizeOf f.type):Field->Sem (Nat×Nat))).run P w=.ok ((fs.toList.map fun f=>(f.offset,((tyOf P f.type).map (·.size)).getD 0)).toArray) w:=by
        rw[Array.mapM_eq_mapM_toList]
        simp only[Sem.run_map,hm,Result.andThen_ok]
       have hpl:(fun i:Nat=>((fs.toList.map fun f:Field=>(f.offset,((tyOf P f.type).map (·.size)).getD 0)).toArray)[i]?)=(fun i:Nat=>(fs.toList.map fun f:Field=>(f.offset,((tyOf P f.type).map (·.size)).getD 0))[i]?):=by
        funext i
        simp only[List.getElem?_toArray]
       simp only[Instr.build,Sem.run_bind,run_zero w hτ hz,Result.andThen_ok,hu,hm',hpl,Value.cells]
       have e:z=z.toList.toArray:=by simp
       rw[e]
       simp only[g1,Sem.run_pure]
      ·simp only[AV.R]
       exact⟨arr',rfl,g2⟩
     ·cases hpl
    ·rename_i n e hd
     rw[hd]at hu
     split at hpl
     ·rename_i τe hτe
      simp only[Option.some.injEq]at hpl
      subst hpl
      obtain⟨arr',g1,g2⟩:=fillAV_sound (placeM:=fun i=>some (i*τe.size,τe.size)) (fun i x h=>by
       simp only[List.getElem?_map,Option.map_eq_some_iff]at h
       obtain⟨j,hj,rfl⟩:=h
       have:j=i:=by
        rcases Nat.lt_or_ge i n with hi|hi
        ·rw[List.getElem?_range hi]at hj;cases hj;rfl
        ·rw[List.getElem?_eq_none (by simpa using hi)]at hj;cases hj
       rw[this]) parts vparts _ _ _ hp (consts_Ra hz1) hfill
      refine⟨_,.agg arr'.toArray,?_,?_,h⟩
      ·simp only[Instr.build,Sem.run_bind,run_zero w hτ hz,Result.andThen_ok,hu,Value.cells,run_size w hτe]
       have e:z=z.toList.toArray:=by simp
       rw[e]
       simp only[g1,Sem.run_pure]
      ·simp only[AV.R]
       exact⟨arr',rfl,g2⟩
     ·cases hpl
    ·cases hpl
   ·exact h.elim
  ·exact h.elim
 ·exact h.elim
end
end Go.AM
namespace Go.AM
open Go
section
variable {P:Program} {F:Nat->Prop} {φ:Nat->Option Loc} {own:List Obj} {w:World}
def D.isKey:TypeDesc->D->Bool
 | .int k,.int k' _=>decide (k=k')
 | .string,.str _=>true
 | .bool,.bool _=>true
 | _,_=>false
def wideKey(P:Program)(t:TypeId)(k:D):Bool :=
 match k with
 | .agg ds=>wideB P t && D.flats ds && (keyOf P t (.agg (ds.map D.val).toArray)).isSome
 | _=>false
def D.isKeyP(P:Program)(t:TypeId)(d:TypeDesc)(k:D):Bool:=D.isKey d k || wideKey P t k
def D.keyEq:D->D->Bool
 | .int _ a,.int _ b=>decide (a=b)
 | .str a,.str b=>decide (a=b)
 | .bool a,.bool b=>decide (a=b)
 | .agg as,.agg bs=>D.flatEqs as bs
 | _,_=>false
def mapFindI(k:D):List (D×D)->Nat->Option (Nat×D)
 | [],_=>none
 | x :: m,i=>if D.keyEq k x.1 then some (i,x.2) else mapFindI k m (i+1)
def mapFind(k:D)(m:List (D×D)):Option D:=(mapFindI k m 0).map (·.2)
theorem byteArray_beq(a b:List UInt8):((⟨a.toArray⟩:ByteArray) == ⟨b.toArray⟩)=decide (a=b):=by
 show ((a.toArray == b.toArray):Bool)=_
 by_cases h:a=b
 ·subst h;simp
 ·simp[h]
theorem sameNow_key{d:TypeDesc}{k k':D}{c c':Value}(hk:D.isKey d k=true)(hk':D.isKey d k'=true)(h:D.R F w k c)(h':D.R F w k' c') :
  Instr.sameNow d c c'=some (D.keyEq k k'):=by
 cases d <;> cases k <;> simp only[D.isKey,Bool.false_eq_true]at hk <;> cases k' <;> simp only[D.isKey,Bool.false_eq_true]at hk'
 ·have e1:c=_:=(R_bool (F:=F) (φ:=fun _=>none) (w:=w)).1 (by simpa only[AV.R] using h)
  have e2:c'=_:=(R_bool (F:=F) (φ:=fun _=>none) (w:=w)).1 (by simpa only[AV.R] using h')
  subst e1;subst e2
  simp only[Instr.sameNow,D.keyEq]
  congr 1
 ·obtain⟨rfl,_⟩:=R_int (φ:=fun _=>none).1 (by simpa only[AV.R] using h)
  obtain⟨rfl,_⟩:=R_int (φ:=fun _=>none).1 (by simpa only[AV.R] using h')
  simp only[decide_eq_true_eq]at hk hk'
  subst hk;subst hk'
  simp only[Instr.sameNow,if_true,D.keyEq]
  congr 1
 ·obtain⟨rfl,_⟩:=R_str (φ:=fun _=>none).1 (by simpa only[AV.R] using h)
  obtain⟨rfl,_⟩:=R_str (φ:=fun _=>none).1 (by simpa only[AV.R] using h')
  simp only[Instr.sameNow,D.keyEq,byteArray_beq]
theorem sameBits_key{d:TypeDesc}{k k':D}{c c':Value}(n:Nat)(hk:D.isKey d k=true)(hk':D.isKey d k'=true)(he:D.keyEq k k'=true)(h:D.R F w k c)(h':D.R F w k' c'):Instr.sameBits n c' c=true:=by
 cases d <;> cases k <;> simp only[D.isKey,Bool.false_eq_true]at hk <;> cases k' <;> simp only[D.isKey,Bool.false_eq_true]at hk'
 ·have e1:c=_:=(R_bool (F:=F) (φ:=fun _=>none) (w:=w)).1 (by simpa only[AV.R] using h)
  have e2:c'=_:=(R_bool (F:=F) (φ:=fun _=>none) (w:=w)).1 (by simpa only[AV.R] using h')
  subst e1;subst e2
  simp only[decide_eq_true_eq,D.keyEq]at he
  subst he
  simp[Instr.sameBits]
 ·obtain⟨rfl,_⟩:=R_int (φ:=fun _=>none).1 (by simpa only[AV.R] using h)
  obtain⟨rfl,_⟩:=R_int (φ:=fun _=>none).1 (by simpa only[AV.R] using h')
  simp only[decide_eq_true_eq,D.keyEq]at hk hk' he
  subst hk;subst hk';subst he
  simp[Instr.sameBits]
 ·obtain⟨rfl,_⟩:=R_str (φ:=fun _=>none).1 (by simpa only[AV.R] using h)
  obtain⟨rfl,_⟩:=R_str (φ:=fun _=>none).1 (by simpa only[AV.R] using h')
  simp only[decide_eq_true_eq,D.keyEq]at he
  subst he
  simp only[Instr.sameBits,byteArray_beq,decide_true]
theorem findNow_key{d:TypeDesc}{k:D}{c:Value}(hk:D.isKey d k=true)(h:D.R F w k c):∀(m:List (D×D)) (es:List MapEntry) (i:Nat),(m.all fun x=>D.isKey d x.1)=true->mapR F w m es ->
  (mapFindI k m i=none/\Instr.findNow d c es i=some none)∨(∃j v cv e,mapFindI k m i=some (j,v)/\Instr.findNow d c es i=some (some (j,cv))/\D.R F w v cv/\i<=j/\es[j - i]?=some e/\∃k',D.keyEq k k'=true/\D.isKey d k'=true/\D.R F w k' e.key)
 | [],es,i,_,hm=>by
  simp only[mapR]at hm
  subst hm
  exact .inl ⟨rfl,rfl⟩
 | x :: m,es,i,ha,hm=>by
  simp only[mapR]at hm
  obtain⟨e,es',rfl,h1,h2,h3⟩:=hm
  simp only[List.all_cons,Bool.and_eq_true]at ha
  have hs:=sameNow_key hk ha.1 h h1
  simp only[mapFindI,Instr.findNow,hs]
  cases he:D.keyEq k x.1 with
  | true=>exact .inr ⟨i,x.2,e.val,e,by simp,rfl,h2,Nat.le_refl _,by simp,x.1,he,ha.1,h1⟩
  | false =>
   simp only[Bool.false_eq_true,if_false]
   rcases findNow_key hk h m es' (i+1) ha.2 h3 with g|⟨j,v,cv,e',g1,g2,g3,g4,g5,g6⟩
   ·exact .inl g
   ·refine .inr ⟨j,v,cv,e',g1,g2,g3,by omega,?_,g6⟩
    have:j - i=(j - (i+1))+1:=by omega
    rw[this];simpa using g5
theorem run_checkKey(empty:Bool)(n:Nat){kt:TypeId}{d:TypeDesc}(hu:P.underlying kt=some d){k:D}{c:Value}(hk:D.isKey d k=true)(h:D.R F w k c) :
  (Instr.checkKey empty (n+1) kt c).run P w=.ok () w:=by
 simp only[Instr.checkKey,Sem.run_bind,run_underlying hu,Result.andThen_ok]
 cases d <;> cases k <;> simp only[D.isKey,Bool.false_eq_true]at hk
 ·have e1:c=_:=(R_bool (F:=F) (φ:=fun _=>none) (w:=w)).1 (by simpa only[AV.R] using h)
  subst e1
  rfl
 ·obtain⟨rfl,_⟩:=R_int (φ:=fun _=>none).1 (by simpa only[AV.R] using h)
  rfl
 ·obtain⟨rfl,_⟩:=R_str (φ:=fun _=>none).1 (by simpa only[AV.R] using h)
  rfl
theorem wideKey_spec{t:TypeId}{k:D}{c:Value}(hk:wideKey P t k=true)(h:D.R F w k c) :
  ∃ds l,k=.agg ds/\D.flats ds=true/\c=.agg (ds.map D.val).toArray/\keyOf P t c=some l/\P.keyTypeAt 8 t=true/\P.tiled 8 t=true/\(match P.underlying t with|some (.array _ _)|some (.struct _)=>true|_=>false)=true:=by
 unfold wideKey at hk
 split at hk
 ·rename_i ds
  simp only[wideB,Bool.and_eq_true]at hk
  obtain⟨⟨⟨⟨g1,g2⟩,g3⟩,g4⟩,g5⟩:=hk
  obtain⟨arr,rfl,h2⟩:=h
  rw[Cs_flat g4 h2]
  obtain⟨l,hl⟩:=Option.isSome_iff_exists.1 g5
  exact⟨ds,l,rfl,g4,rfl,hl,g1,g2,g3⟩
 ·cases hk
theorem wide_not_plain{t:TypeId}{d:TypeDesc}(hu:P.underlying t=some d)(hw:(match P.underlying t with|some (.array _ _)|some (.struct _)=>true|_=>false)=true)(k:D):D.isKey d k=false:=by
 rw[hu]at hw
 cases d <;> simp only[Bool.false_eq_true]at hw <;> cases k <;> rfl
theorem keyEq_wide{k k':D}{c c':Value}{t:TypeId}(hk:wideKey P t k=true)(hk':wideKey P t k'=true)(h:D.R F w k c)(h':D.R F w k' c'):D.keyEq k k'=true↔c=c':=by
 obtain⟨ds,l,rfl,f1,rfl,_⟩:=wideKey_spec hk h
 obtain⟨ds',l',rfl,f2,rfl,_⟩:=wideKey_spec hk' h'
 simp only[D.keyEq,flatEqs_iff f1 f2,Value.agg.injEq]
 constructor
 ·intro e;rw[e]
 ·intro e
  have:=congrArg (fun (x:Array Value)=>x.toList) e
  simpa using this
theorem findAsking_wide{t:TypeId}{k:D}{c:Value}(hk:wideKey P t k=true)(h:D.R F w k c):∀(m:List (D×D)) (es:List MapEntry) (i:Nat),(m.all fun x=>wideKey P t x.1)=true->mapR F w m es ->
  (mapFindI k m i=none/\(Instr.findAsking t c es i).run P w=.ok none w)∨(∃j v cv e,mapFindI k m i=some (j,v)/\(Instr.findAsking t c es i).run P w=.ok (some (j,cv)) w/\D.R F w v cv/\i<=j/\es[j - i]?=some e/\∃k',D.keyEq k k'=true/\wideKey P t k'=true/\D.R F w k' e.key)
 | [],es,i,_,hm=>by
  simp only[mapR]at hm
  subst hm
  exact .inl ⟨rfl,by simp[Instr.findAsking]⟩
 | x :: m,es,i,ha,hm=>by
  simp only[mapR]at hm
  obtain⟨e,es',rfl,h1,h2,h3⟩:=hm
  simp only[List.all_cons,Bool.and_eq_true]at ha
  have heq:=keyEq_wide hk ha.1 h h1
  obtain⟨ds,l,_,_,_,hl,t1,t2,t3⟩:=wideKey_spec hk h
  obtain⟨ds',l',_,_,_,hl',_⟩:=wideKey_spec ha.1 h1
  obtain⟨r,hr,hiff⟩:=run_equal_deep w (by omega) t1 t3 hl hl'
  have hr':r=D.keyEq k x.1:=by
   have:r=true↔D.keyEq k x.1=true:=by
    rw[hiff,heq]
    constructor
    ·intro e2;subst e2;exact keyOf_inj_deep t2 t3 hl hl'
    ·intro e2;rw[e2,hl']at hl;cases hl;rfl
   cases r <;> cases hb:D.keyEq k x.1 <;> simp_all
  subst hr'
  simp only[mapFindI]
  cases he:D.keyEq k x.1 with
  | true =>
   rw[he]at hr
   exact .inr ⟨i,x.2,e.val,e,by simp,by simp[Instr.findAsking,hr],h2,Nat.le_refl _,by simp,x.1,he,ha.1,h1⟩
  | false =>
   rw[he]at hr
   simp only[Bool.false_eq_true,if_false]
   rcases findAsking_wide hk h m es' (i+1) ha.2 h3 with⟨g1,g2⟩|⟨j,v,cv,e',g1,g2,g3,g4,g5,g6⟩
   ·exact .inl ⟨g1,by simp[Instr.findAsking,hr,g2]⟩
   ·refine .inr ⟨j,v,cv,e',g1,by simp[Instr.findAsking,hr,g2],g3,by omega,?_,g6⟩
    have:j - i=(j - (i+1))+1:=by omega
    rw[this];simpa using g5
theorem findKey_ok{t:TypeId}{d:TypeDesc}(hu:P.underlying t=some d){k:D}{c:Value}(hk:D.isKeyP P t d k=true)(h:D.R F w k c)(m:List (D×D))(es:List MapEntry)(ha:(m.all fun x=>D.isKeyP P t d x.1)=true)(hm:mapR F w m es) :
  (mapFindI k m 0=none/\(Instr.findKey t c es).run P w=.ok none w)∨(∃j v cv e,mapFindI k m 0=some (j,v)/\(Instr.findKey t c es).run P w=.ok (some (j,cv)) w/\D.R F w v cv/\es[j]?=some e/\∃k',D.keyEq k k'=true/\D.isKeyP P t d k'=true/\D.R F w k' e.key /\
   ((Instr.keyThatStays e.key c).run P w=.ok c w)):=by
 cases hw:wideKey P t k with
 | false =>
  have hk':D.isKey d k=true:=by simpa [D.isKeyP,hw] using hk
  have hnw:∀x,wideKey P t x=false:=fun x=>by
   unfold wideKey
   split
   ·have:wideB P t=false:=by
     cases hb:wideB P t with
     | false=>rfl
     | true =>
      simp only[wideB,Bool.and_eq_true]at hb
      rw[wide_not_plain hu hb.2 k]at hk'
      cases hk'
    simp[this]
   ·rfl
  have ha':(m.all fun x=>D.isKey d x.1)=true:=by
   rw[List.all_eq_true]at ha ⊢
   intro x hx
   have:=ha x hx
   simpa [D.isKeyP,hnw] using this
  rcases findNow_key hk' h m es 0 ha' hm with⟨g1,g2⟩|⟨j,v,cv,e,g1,g2,g3,_,g5,k',g6,g7,g8⟩
  ·exact .inl ⟨g1,by simp[Instr.findKey,run_underlying hu,g2]⟩
  ·refine .inr ⟨j,v,cv,e,g1,by simp[Instr.findKey,run_underlying hu,g2],g3,by simpa using g5,k',g6,by simp[D.isKeyP,g7],g8,?_⟩
   simp[Instr.keyThatStays,sameBits_key 10000 hk' g7 g6 h g8]
 | true =>
  obtain⟨ds,l,_,_,_,hl,t1,t2,t3⟩:=wideKey_spec hw h
  have ha':(m.all fun x=>wideKey P t x.1)=true:=by
   rw[List.all_eq_true]at ha ⊢
   intro x hx
   have:=ha x hx
   simpa [D.isKeyP,wide_not_plain hu t3] using this
  rw[run_findKey_eq w t3]
  rcases findAsking_wide hw h m es 0 ha' hm with⟨g1,g2⟩|⟨j,v,cv,e,g1,g2,g3,_,g5,k',g6,g7,g8⟩
  ·exact .inl ⟨g1,g2⟩
  ·refine .inr ⟨j,v,cv,e,g1,g2,g3,by simpa using g5,k',g6,by simp[D.isKeyP,g7],g8,?_⟩
   rw[← (keyEq_wide hw g7 h g8).1 g6]
   exact(deep_law (m:=8) (by omega) t1 t2 t3).stays w hl
theorem checkKey_ok(empty:Bool){t:TypeId}{d:TypeDesc}(hu:P.underlying t=some d){k:D}{c:Value}(hk:D.isKeyP P t d k=true)(h:D.R F w k c):(Instr.checkKey empty 10000 t c).run P w=.ok () w:=by
 cases hw:wideKey P t k with
 | false=>exact run_checkKey empty 9999 hu (by simpa [D.isKeyP,hw] using hk) h
 | true =>
  obtain⟨ds,l,_,_,_,hl,t1,t2,t3⟩:=wideKey_spec hw h
  exact(deep_law (m:=8) (by omega) t1 t2 t3).check w empty hl
def AV.keyDs:List AV->Option (List D)
 | []=>some []
 | .dat d :: vs=>(match d.isAgg with|true=>none|false=>(AV.keyDs vs).map (d :: ·))
 | _ :: _=>none
def AV.keyD:AV->Option D
 | .dat d=>some d
 | .agg vs=>(AV.keyDs vs).map .agg
 | _=>none
theorem keyDs_R:∀{vs:List AV} {arr:List Value} {ds:List D},AV.keyDs vs=some ds->AV.Ra F φ w vs arr->D.Cs F w ds arr
 | [],arr,ds,h,hr=>by
  simp only[AV.keyDs,Option.some.injEq]at h
  subst h
  simpa only[AV.Ra,D.Cs] using hr
 | v :: vs,arr,ds,h,hr=>by
  cases v <;> simp only[AV.keyDs,reduceCtorEq]at h
  rename_i d
  split at h
  ·cases h
  ·rename_i hd
   obtain⟨ds',h1,rfl⟩:=Option.map_eq_some_iff.1 h
   simp only[AV.Ra]at hr
   obtain⟨c,arr',rfl,h0,h2,h3⟩:=hr
   simp only[D.Cs]
   refine⟨c,arr',rfl,hd,?_,keyDs_R h1 h3⟩
   simp only[AV.R]at h2
   cases d <;> first|exact h2|simp[D.isAgg]at hd
theorem keyD_R{x:AV}{d:D}{c:Value}(h:x.keyD=some d)(hr:AV.R F φ w x c):D.R F w d c:=by
 cases x <;> simp only[AV.keyD,reduceCtorEq,Option.some.injEq]at h
 ·subst h;simpa only[AV.R] using hr
 ·obtain⟨ds,h1,rfl⟩:=Option.map_eq_some_iff.1 h
  simp only[AV.R]at hr
  obtain⟨arr,rfl,h2⟩:=hr
  exact⟨arr,rfl,keyDs_R h1 h2⟩
def zeroD(τ:Ty):Option D :=
 match τ.zero with
 | some (.int k n)=>if (Lit.int k n).wf=true then some (.int k n) else none
 | some (.bool b)=>some (.bool b)
 | some (.string s)=>if s.size<=1000000 then some (.str s.data.toList) else none
 | some (.slice none 0 0)=>some (.sl none [])
 | _=>none
theorem zeroD_spec{τ:Ty}{d:D}(h:zeroD τ=some d):∃z,τ.zero=some z/\D.R F w d z/\d.isAgg=false:=by
 unfold zeroD at h
 split at h
 ·rename_i k n hz
  split at h
  ·rename_i hw;cases h;exact⟨_,hz,by simp only[D.R,D.C];exact⟨trivial,hw⟩,rfl⟩
  ·cases h
 ·rename_i b hz;cases h;exact⟨_,hz,by simp only[D.R,D.C],rfl⟩
 ·rename_i s hz
  split at h
  ·rename_i hs;cases h
   exact⟨_,hz,by simp only[D.R,D.C];exact⟨trivial,by rw[Array.length_toList];exact Nat.le_trans hs maxLen_big⟩,rfl⟩
  ·cases h
 ·rename_i hz;cases h
  exact⟨_,hz,by simp only[D.R,D.C];exact⟨none,0,rfl,Nat.le_refl _,Nat.zero_le _,.inl trivial⟩,rfl⟩
 ·cases h
def lookupw(P:Program)(τ:Option Ty)(own:List Obj)(x k:AV)(commaOk:Bool)(K:AV->Prop):Prop :=
 match τ,x,k.keyD with
 | some τ,.map o,some k=>(match τ.desc with
  | .map kt et=>(match tyOf P kt,(tyOf P et).bind zeroD,own.getD o .dead with
   | some τk,some z,.map m=>D.isKeyP P kt τk.desc k=true/\(m.all fun x=>D.isKeyP P kt τk.desc x.1)=true /\
     K (if commaOk then .tup [.dat ((mapFind k m).getD z),.dat (.bool (mapFind k m).isSome)] else .dat ((mapFind k m).getD z))
   | _,_,_=>False)
  | _=>False)
 | _,_,_=>False
theorem run_getObj_map{r:Nat}{es:Array MapEntry}{clock:Nat}(h:w.heap[r]?=some (.map es clock)):(getObj r).run P w=.ok (.map es clock) w:=by
 simp only[getObj,Sem.run,h]
theorem lookupw_sound(hc:Conc F φ own w){t:TypeId}{x k:AV}{cx ck:Value}{commaOk:Bool}{K:AV->Prop}(hx:AV.R F φ w x cx)(hk:AV.R F φ w k ck)(h:lookupw P (tyOf P t) own x k commaOk K) :
  Yields P F φ w (Instr.lookup t cx ck commaOk) K:=by
 unfold lookupw at h
 split at h
 ·rename_i τ o k hτ hkd
  split at h
  ·rename_i kt et hd
   split at h
   ·rename_i τk z m hτk hz hobj
    obtain⟨h1,h2,hK⟩:=h
    have hu:=run_und (P:=P) w hτ
    rw[hd]at hu
    replace hk:=keyD_R hkd hk
    simp only[AV.R]at hx
    obtain⟨L,ho,hn,rfl⟩:=hx
    have hr:=getObj_rep hc ho
    rw[hobj]at hr
    simp only[ObjR]at hr
    obtain⟨_,es,clock,hh,hm⟩:=hr
    obtain⟨τe,hτe,hz⟩:=Option.bind_eq_some_iff.1 hz
    obtain⟨zv,hz1,hz2,hz3⟩:=zeroD_spec (F:=F) (w:=w) hz
    have hck:(Instr.checkKey es.isEmpty 10000 kt ck).run P w=.ok () w:=checkKey_ok _ (tyOf_spec hτk).1 h1 hk
    rcases findKey_ok (tyOf_spec hτk).1 h1 hk m es.toList h2 hm with⟨g1,g2⟩|⟨j,v,cv,e',g1,g2,g3,_⟩
    ·refine⟨_,if commaOk then Value.tuple #[zv,.bool false] else zv,?_,?_,hK⟩
     ·simp only[Instr.lookup,Sem.run_bind,hu,Result.andThen_ok,run_getObj_map hh,Sem.run_pure,hck,g2,run_zero w hτe hz1]
     ·simp only[mapFind,g1,Option.map_none,Option.getD_none,Option.isSome_none]
      cases commaOk with
      | true =>
       simp only[if_true,AV.R,AV.Rs]
       exact⟨[zv,.bool false],rfl,zv,_,rfl,hz2,.bool false,_,rfl,by simp only[D.R,D.C],rfl⟩
      | false =>
       simp only[Bool.false_eq_true,if_false,AV.R]
       exact hz2
    ·refine⟨_,if commaOk then Value.tuple #[cv,.bool true] else cv,?_,?_,hK⟩
     ·simp only[Instr.lookup,Sem.run_bind,hu,Result.andThen_ok,run_getObj_map hh,Sem.run_pure,hck,g2]
     ·simp only[mapFind,g1,Option.map_some,Option.getD_some,Option.isSome_some]
      cases commaOk with
      | true =>
       simp only[if_true,AV.R,AV.Rs]
       exact⟨[cv,.bool true],rfl,cv,_,rfl,g3,.bool true,_,rfl,by simp only[D.R,D.C],rfl⟩
      | false =>
       simp only[Bool.false_eq_true,if_false,AV.R]
       exact g3
   ·exact h.elim
  ·exact h.elim
 ·exact h.elim
def extractw(x:AV)(ix:Nat)(K:AV->Prop):Prop :=
 match x with
 | .tup vs=>ix<vs.length/\K (vs.getD ix .top)
 | _=>False
theorem extractw_sound{x:AV}{cx:Value}{ix:Nat}{K:AV->Prop}(hx:AV.R F φ w x cx)(h:extractw x ix K):Yields P F φ w (Instr.extract cx ix) K:=by
 unfold extractw at h
 split at h
 ·rename_i vs
  simp only[AV.R]at hx
  obtain⟨arr,rfl,hrs⟩:=hx
  have hl:=AV.Rs_length hrs
  have:=AV.Rs_get hrs ix
  have hlt:ix<arr.length:=by omega
  refine⟨_,arr.getD ix undef,?_,this,h.2⟩
  simp[Instr.extract,List.getElem?_eq_getElem hlt]
 ·exact h.elim
def pickw(c a b:AV)(K:AV->Prop):Prop :=
 match c with
 | .dat (.bool t)=>(t=true->K a)/\(t=false->K b)
 | _=>False
theorem pickw_sound{c a b:AV}{cc ca cb:Value}{K:AV->Prop}(hc:AV.R F φ w c cc)(ha:AV.R F φ w a ca)(hb:AV.R F φ w b cb)(h:pickw c a b K) :
  Yields P F φ w (do pure (if ← asBool cc then ca else cb)) K:=by
 unfold pickw at h
 split at h
 ·rename_i t
  have e:=R_bool.1 hc;subst e
  cases t with
  | true=>exact⟨a,ca,by simp[asBool],ha,h.1 rfl⟩
  | false=>exact⟨b,cb,by simp[asBool],hb,h.2 rfl⟩
 ·exact h.elim
def nilw(x:AV)(K:AV->Prop):Prop :=
 match x with
 | .ptr o i j=>K (.ptr o i j)
 | .rptr ag d=>K (.rptr ag d)
 | .fn f cs=>K (.fn f cs)
 | _=>False
def bltw(P:Program)(own:List Obj)(slots:List AV)(f:Callee)(args:List Operand)(ts:List TypeId)(K:AV->Prop):Prop :=
 match f,args,ts with
 | .builtin .len,[x],[t]=>lenw P (tyOf P t) own (ev slots x) K
 | .builtin .min,[x,y],_=>minw true (ev slots x) (ev slots y) K
 | .builtin .max,[x,y],_=>minw false (ev slots x) (ev slots y) K
 | _,_,_=>False
def datsD:List AV->Option (List D)
 | []=>some []
 | .dat d :: vs=>(datsD vs).map (d :: ·)
 | _ :: _=>none
def aggD:AV->AV
 | .agg vs=>(match datsD vs with|some ds=>.dat (.agg ds)|none=>.agg vs)
 | x=>x
theorem datsD_R:∀(vs:List AV) (ds:List D) (arr:List Value),datsD vs=some ds->AV.Ra F φ w vs arr->D.Cs F w ds arr
 | [],ds,arr,h,hra=>by
  simp only[datsD,Option.some.injEq]at h
  subst h
  simpa only[AV.Ra,D.Cs] using hra
 | .dat d :: vs,ds,arr,h,hra=>by
  simp only[datsD,Option.map_eq_some_iff]at h
  obtain⟨ds',h1,rfl⟩:=h
  simp only[AV.Ra,AV.R]at hra
  obtain⟨v,vs',rfl,h0,h2,h3⟩:=hra
  have g1:d.isAgg=false/\D.C F w d [v]:=by
   cases d with
   | agg ds=>obtain⟨arr,rfl,_⟩:=h2;simp[Value.oneCell']at h0
   | _=>exact⟨rfl,h2⟩
  simp only[D.Cs]
  exact⟨v,vs',rfl,g1.1,g1.2,datsD_R vs ds' vs' h1 h3⟩
 | .nils :: vs,ds,arr,h,hra=>by simp[datsD]at h
 | .nilm :: vs,ds,arr,h,hra=>by simp[datsD]at h
 | .sl _ _ _ :: vs,ds,arr,h,hra=>by simp[datsD]at h
 | .ptr _ _ _ :: vs,ds,arr,h,hra=>by simp[datsD]at h
 | .rptr _ _ :: vs,ds,arr,h,hra=>by simp[datsD]at h
 | .agg _ :: vs,ds,arr,h,hra=>by simp[datsD]at h
 | .tup _ :: vs,ds,arr,h,hra=>by simp[datsD]at h
 | .map _ :: vs,ds,arr,h,hra=>by simp[datsD]at h
 | .yld _ :: vs,ds,arr,h,hra=>by simp[datsD]at h
 | .fn _ _ :: vs,ds,arr,h,hra=>by simp[datsD]at h
 | .top :: vs,ds,arr,h,hra=>by simp[datsD]at h
theorem aggD_R{y:AV}{c:Value}(h:AV.R F φ w y c):AV.R F φ w (aggD y) c:=by
 unfold aggD
 split
 ·split
  ·rename_i ds hd
   simp only[AV.R]at h ⊢
   obtain⟨arr,rfl,hra⟩:=h
   exact⟨arr,rfl,datsD_R _ _ _ hd hra⟩
  ·exact h
 ·exact h
def vop(P:Program)(own:List Obj)(slots:List AV)(op:Op)(K:AV->Prop):Prop :=
 match op with
 | .move x=>K (ev slots x)
 | .assign x=>K (ev slots x)
 | .pick c a b=>pickw (ev slots c) (ev slots a) (ev slots b) K
 | .binOp op t x y _=>binTop P op t (ev slots x) (aggD (ev slots y)) K
 | .unOp op _ x=>unw op (ev slots x) K
 | .convert s d x=>convw P (tyOf P s) (tyOf P d) (ev slots x) K
 | .load t x=>loadw (tyOf P t) own (ev slots x) K
 | .fieldAddr t x f=>fieldAddrw P (tyOf P t) (ev slots x) f K
 | .field t x f=>fieldw P (tyOf P t) (ev slots x) f K
 | .indexAddr t x i=>idxAddrw P (tyOf P t) own (ev slots x) (ev slots i) K
 | .index t x i=>indexw P (tyOf P t) (ev slots x) (ev slots i) K
 | .slice t x lo hi none=>slicew P (tyOf P t) own (ev slots x) (lo.map (ev slots)) (hi.map (ev slots)) K
 | .build t parts=>buildw P (tyOf P t) (parts.toList.map fun p=>(p.1,ev slots p.2)) K
 | .extract x i=>extractw (ev slots x) i K
 | .lookup t x k ok=>lookupw P (tyOf P t) own (ev slots x) (ev slots k) ok K
 | .nilCheck x=>nilw (ev slots x) K
 | .makeFunc (.func f) first cs=>first.toList=[]/\K (.fn f (cs.toList.map (ev slots)))
 | .call c=>bltw P own slots c.callee c.args.toList c.argTypes.toList K
 | _=>False
theorem Rp_parts{slots:List AV}{a:Act}(hg:GlobOk F w)(hs:AV.Rs F φ w slots a.tmps.toList):∀(parts:List (Nat×Operand)),Rp F φ w (parts.map fun p=>(p.1,ev slots p.2)) (parts.map fun p=>(p.1,a.eval p.2))
 | []=>by simp[Rp]
 | p :: parts=>by simp only[List.map_cons,Rp];exact⟨a.eval p.2,_,rfl,ev_R hg hs p.2,Rp_parts hg hs parts⟩
theorem Rs_map{slots:List AV}{a:Act}(hg:GlobOk F w)(hs:AV.Rs F φ w slots a.tmps.toList):∀(xs:List Operand),AV.Rs F φ w (xs.map (ev slots)) (xs.map a.eval)
 | []=>by simp[AV.Rs]
 | x :: xs=>by simp only[List.map_cons,AV.Rs];exact⟨a.eval x,_,rfl,ev_R hg hs x,Rs_map hg hs xs⟩
theorem Ro_map{slots:List AV}{a:Act}(hg:GlobOk F w)(hs:AV.Rs F φ w slots a.tmps.toList)(x:Option Operand):Ro F φ w (x.map (ev slots)) (x.map a.eval):=by
 cases x with
 | none=>trivial
 | some x=>exact ev_R hg hs x
theorem vop_sound(hc:Conc F φ own w){o:Oper}{slots:List AV}{a:Act}{K:AV->Prop}(hs:AV.Rs F φ w slots a.tmps.toList)(h:vop P own slots o.op K) :
  ∃v c,(execOp a.eval o).run P w=.ok (.value c) w/\AV.R F φ w v c/\K v:=by
 have lift:∀s:Sem Value,Yields P F φ w s K->∃v c,(do pure (Next.value (← s)):Sem Next).run P w=.ok (.value c) w/\AV.R F φ w v c/\K v:=by
  rintro s ⟨v,c,h1,h2,h3⟩
  exact⟨v,c,by simp only[Sem.run_bind,h1,Result.andThen_ok,Sem.run_pure],h2,h3⟩
 obtain⟨dst,op,ty,pos,after,guard⟩:=o
 simp only at h
 unfold vop at h
 split at h
 case h_1 x=>exact⟨_,a.eval x,rfl,ev_R hc.glob hs x,h⟩
 case h_2 x=>exact⟨_,a.eval x,rfl,ev_R hc.glob hs x,h⟩
 case h_3 c x y =>
  obtain⟨v,c',h1,h2,h3⟩:=pickw_sound (P:=P) (ev_R hc.glob hs c) (ev_R hc.glob hs x) (ev_R hc.glob hs y) h
  refine⟨v,c',?_,h2,h3⟩
  simp only[execOp,Sem.run_bind,Sem.run_pure]at h1 ⊢
  revert h1
  cases (asBool (a.eval c)).run P w with
  | ok t w'=>simp only[Result.andThen_ok];intro h1;cases h1;rfl
  | halt e w'=>simp only[Result.andThen_halt];intro h1;cases h1
 case h_4 op t x y t'=>exact lift _ (binTop_sound (ev_R hc.glob hs x) (aggD_R (ev_R hc.glob hs y)) h)
 case h_5 op t x=>exact lift _ (unw_sound (ev_R hc.glob hs x) h)
 case h_6 s d x=>exact lift _ (convw_sound (ev_R hc.glob hs x) h)
 case h_7 t x=>exact lift _ (loadw_sound hc (ev_R hc.glob hs x) h)
 case h_8 t x f=>exact lift _ (fieldAddrw_sound (ev_R hc.glob hs x) h)
 case h_9 t x f=>exact lift _ (fieldw_sound (ev_R hc.glob hs x) h)
 case h_10 t x i=>exact lift _ (idxAddrw_sound hc (ev_R hc.glob hs x) (ev_R hc.glob hs i) h)
 case h_11 t x i=>exact lift _ (indexw_sound (ev_R hc.glob hs x) (ev_R hc.glob hs i) h)
 case h_12 t x lo hi=>exact lift _ (slicew_sound hc (ev_R hc.glob hs x) (Ro_map hc.glob hs lo) (Ro_map hc.glob hs hi) h)
 case h_13 t parts =>
  have e:(parts.map fun p=>(p.1,a.eval p.2))=(parts.toList.map fun p=>(p.1,a.eval p.2)).toArray:=by
   apply Array.ext'
   simp
  have:=lift _ (buildw_sound (t:=t) (Rp_parts hc.glob hs parts.toList) h)
  rw[← e]at this
  exact this
 case h_14 x i=>exact lift _ (extractw_sound (ev_R hc.glob hs x) h)
 case h_15 t x k ok=>exact lift _ (lookupw_sound hc (ev_R hc.glob hs x) (ev_R hc.glob hs k) h)
 case h_16 x =>
  have hx:=ev_R (F:=F) (φ:=φ) (w:=w) hc.glob hs x
  unfold nilw at h
  split at h
  ·rename_i o i j hv
   have hx':=hx
   rw[hv]at hx
   simp only[AV.R]at hx
   obtain⟨L,_,_,e⟩:=hx
   refine⟨_,a.eval x,?_,by rw[← hv];exact hx',h⟩
   simp only[execOp,e]
   rfl
  ·rename_i ag d hv
   have hx':=hx
   rw[hv]at hx
   simp only[AV.R]at hx
   obtain⟨b,off,cs,e,_⟩:=hx
   refine⟨_,a.eval x,?_,by rw[← hv];exact hx',h⟩
   simp only[execOp,e]
   rfl
  ·rename_i f cs hv
   have hx':=hx
   rw[hv]at hx
   simp only[AV.R]at hx
   obtain⟨arr,e,_⟩:=hx
   refine⟨_,a.eval x,?_,by rw[← hv];exact hx',h⟩
   simp only[execOp,e]
   rfl
  ·exact h.elim
 case h_17 f first cs =>
  obtain⟨hf,h⟩:=h
  refine⟨_,.func (.func f) #[] (cs.map a.eval),?_,?_,h⟩
  ·have e:first=#[]:=Array.toList_eq_nil_iff.1 hf
   subst e
   simp only[execOp,Instr.makeFunc,Sem.run_bind,Sem.run_pure,Result.andThen_ok,List.map_toArray,List.map_nil]
  ·simp only[AV.R]
   refine⟨cs.toList.map a.eval,?_,Rs_map hc.glob hs cs.toList⟩
   congr 1
   apply Array.ext'
   simp
 case h_18 c =>
  obtain⟨callee,args,ts⟩:=c
  simp only at h
  unfold bltw at h
  split at h
  ·rename_i x t h1 h2
   have e1:args=#[x]:=by rw[← Array.toArray_toList (xs:=args),h1]
   have e2:ts=#[t]:=by rw[← Array.toArray_toList (xs:=ts),h2]
   subst e1;subst e2
   obtain⟨v,c,g1,g2,g3⟩:=lift _ (lenw_sound hc (ty:=ty) (ev_R hc.glob hs x) h)
   exact⟨v,c,by simpa only[execOp,resolve,Sem.run_bind,Sem.run_pure,Result.andThen_ok,invoke,builtin,List.map_toArray,List.map_cons,List.map_nil] using g1,g2,g3⟩
  ·rename_i x y h1
   have e1:args=#[x,y]:=by rw[← Array.toArray_toList (xs:=args),h1]
   subst e1
   obtain⟨v,c,g1,g2,g3⟩:=lift _ (minw_sound (isMin:=true) (ts:=ts) (ty:=ty) (ev_R hc.glob hs x) (ev_R hc.glob hs y) h)
   exact⟨v,c,by simpa only[execOp,resolve,Sem.run_bind,Sem.run_pure,Result.andThen_ok,invoke,builtin,List.map_toArray,List.map_cons,List.map_nil,if_true] using g1,g2,g3⟩
  ·rename_i x y h1
   have e1:args=#[x,y]:=by rw[← Array.toArray_toList (xs:=args),h1]
   subst e1
   obtain⟨v,c,g1,g2,g3⟩:=lift _ (minw_sound (isMin:=false) (ts:=ts) (ty:=ty) (ev_R hc.glob hs x) (ev_R hc.glob hs y) h)
   exact⟨v,c,by simpa only[execOp,resolve,Sem.run_bind,Sem.run_pure,Result.andThen_ok,invoke,builtin,List.map_toArray,List.map_cons,List.map_nil,Bool.false_eq_true,if_false] using g1,g2,g3⟩
  ·exact h.elim
 case h_19=>exact h.elim
end
end Go.AM
namespace Go.AM
open Go
structure After (F:Nat->Prop) (φ:Nat->Option Loc) (w:World) (F':Nat->Prop) (φ':Nat->Option Loc) (own':List Obj) (w':World) (kl:List Nat):Prop where
 sub:∀b,F b->F' b
 ext:Ext F w w'
 conc:Conc F' φ' own' w'
 keep:∀o L,o∉kl->φ o=some L->φ' o=some L
 rest:∀b,b<w.heap.size->(∀o L,φ o=some L->L.nil=false->L.b≠b)->w'.heap[b]?=w.heap[b]?
 orig:∀o L',φ' o=some L'->L'.nil=false->w.heap.size<=L'.b∨∃o' L,φ o'=some L/\L.nil=false/\L.b=L'.b
 frsh:∀b,F' b->F b∨w.heap.size<=b∨∃o L,φ o=some L/\L.nil=false/\L.b=b
section
variable {P:Program} {F:Nat->Prop} {φ:Nat->Option Loc} {own:List Obj} {w:World}
def Does(P:Program)(F:Nat->Prop)(φ:Nat->Option Loc)(w:World)(s:Sem Value)(K:AV->List Obj->List Nat->Prop):Prop :=
 ∃v c own' kl F' φ' w',s.run P w=.ok c w'/\After F φ w F' φ' own' w' kl/\AV.R F' φ' w' v c/\K v own' kl
theorem After.new(h:Conc F φ own w){w':World}{L:Loc}{obj:Obj}(hos:w'.os=w.os)(ht:w'.tape=w.tape)(hout:w'.output=w.output)(hs:w.heap.size<=w'.heap.size)
  (hw:∀b,b<w.heap.size->w'.heap[b]?=w.heap[b]?) (hL:L.nil=false->w.heap.size<=L.b/\L.b<w'.heap.size) (hnew:ObjR F (Go.AM.ext φ own.length L) w' (some L) obj) (hdr:w.drawn<=w'.drawn:=by first|exact Nat.le_refl _|exact Nat.le_succ _|exact Nat.le_add_right _ _|assumption) :
  After F φ w F (Go.AM.ext φ own.length L) (own++[obj]) w' [] where
 sub _ h:=h
 ext:=⟨hos,ht,hout,hs,h.sameF hw,hdr⟩
 conc:=h.new hs hw hL hnew
 keep o L' _ ho:=ext_old h L o L' ho
 rest b hb _:=hw b hb
 orig o L' ho hn:=by
  unfold Go.AM.ext at ho
  split at ho
  ·cases ho;exact .inl (hL hn).1
  ·exact .inr ⟨o,L',ho,hn,rfl⟩
 frsh b hb:=.inl hb
theorem ext_self(φ:Nat->Option Loc)(o:Nat)(L:Loc):ext φ o L o=some L:=by simp[ext]
theorem After.write(h:Conc F φ own w){w':World}{o:Nat}{L:Loc}{obj:Obj}(ho:φ o=some L)(hn:L.nil=false)(hos:w'.os=w.os)(ht:w'.tape=w.tape)(hout:w'.output=w.output)
  (hs:w'.heap.size=w.heap.size) (hw:∀b,b≠L.b->w'.heap[b]?=w.heap[b]?) (hnew:ObjR F φ w' (some L) obj) (hdr:w.drawn<=w'.drawn:=by first|exact Nat.le_refl _|exact Nat.le_succ _|exact Nat.le_add_right _ _|assumption):After F φ w F φ (own.set o obj) w' [] where
 sub _ h:=h
 ext:=⟨hos,ht,hout,by omega,h.sameOf ho hn hw,hdr⟩
 conc:=h.update ho hn hs hw hnew
 keep o L' _ ho:=ho
 rest b _ hb:=hw b (fun e=>hb o L ho hn e.symm)
 orig o L' ho hn:=.inr ⟨o,L',ho,hn,rfl⟩
 frsh b hb:=.inl hb
theorem After.refl(h:Conc F φ own w):After F φ w F φ own w [] where
 sub _ h:=h
 ext:=Ext.refl F w
 conc:=h
 keep _ _ _ h:=h
 rest _ _ _:=rfl
 orig o L' ho hn:=.inr ⟨o,L',ho,hn,rfl⟩
 frsh b hb:=.inl hb
def newBox(own:List Obj)(vs:List AV)(K:AV->List Obj->List Nat->Prop):Prop:=K (.ptr own.length 0 0) (own++[.box vs]) []
theorem newVar_sound(hc:Conc F φ own w){t:TypeId}{c:Value}{vs:List AV}{K:AV->List Obj->List Nat->Prop}(hra:AV.Ra F φ w vs c.cells.toList)(h:newBox own vs K) :
  Does P F φ w (do pure (.pointer (some (← newVar t c)))) K:=by
 let L:Loc:=⟨false,w.heap.size,0,c.cells.size,0⟩
 have hw:∀b,b<w.heap.size->(w.alloc (.cells c.cells t)).heap[b]?=w.heap[b]?:=fun b hb=>heap_alloc_old w _ b hb
 refine⟨.ptr own.length 0 0,.pointer (some ⟨w.heap.size,0,none⟩),own++[.box vs],[],F,ext φ own.length L,w.alloc (.cells c.cells t),?_,?_,?_,by unfold newBox at h;exact h⟩
 ·simp only[newVar,newRow,Sem.run_bind,run_newObj,Result.andThen_ok,Sem.run_pure]
  rfl
 ·refine After.new hc rfl rfl rfl (by simp) hw (fun _=>⟨Nat.le_refl _,by simp[L]⟩) ?_
  simp only[ObjR]
  refine⟨rfl,rfl,c.cells.toList,t,?_,by simp[L],AV.Ra_mono (fun _ h=>h) (hc.sameF hw) (ext_old hc L) _ _ hra⟩
  rw[Array.toArray_toList];exact heap_alloc_new w (.cells c.cells t)
 ·simp only[AV.R]
  exact⟨L,ext_self _ _ _,rfl,rfl⟩
theorem newRow_sound(hc:Conc F φ own w){e:TypeId}{ag:Option Nat}{ds:List D}{css:Array Value}{len cap:Nat}{K:AV->List Obj->List Nat->Prop}(hlen:len=ds.length)(hcap:len<=cap)(hmax:cap<=maxLen)
  (hsize:css.size=cap*es ag) (hrow:∀i d,ds[i]?=some d->∃cs,cs.length=es ag/\(∀j,j<es ag->css[i*es ag+j]?=cs[j]?)/\d.isAgg=ag.isSome/\D.C F w d cs)
  {w0:World} (hos:w0.os=w.os) (ht:w0.tape=w.tape) (hout:w0.output=w.output) (hh:w0.heap=w.heap)
  (h:K (.sl own.length 0 len) (own++[.row ag ds]) []) {s:Sem Value} (hrun:s.run P w=.ok (.slice (some ⟨w.heap.size,0,none⟩) len cap) (w0.alloc (.cells css e))) (hdr:w.drawn<=w0.drawn:=by first|exact Nat.le_refl _|exact Nat.le_succ _|exact Nat.le_add_right _ _|assumption) :
  Does P F φ w s K:=by
 let L:Loc:=⟨false,w.heap.size,0,css.size,es ag⟩
 have hw:∀b,b<w.heap.size->(w0.alloc (.cells css e)).heap[b]?=w.heap[b]?:=fun b hb=>by rw[heap_alloc_old w0 _ b (by rw[hh];exact hb),hh]
 have hsz:(w0.alloc (.cells css e)).heap.size=w.heap.size+1:=by rw[World.size_alloc,hh]
 have hnew:(w0.alloc (.cells css e)).heap[w.heap.size]?=some (.cells css e):=by have:=heap_alloc_new w0 (.cells css e);rwa [hh]at this
 refine⟨_,_,_,[],F,ext φ own.length L,_,hrun,?_,?_,h⟩
 ·refine After.new hc (by exact hos) (by exact ht) (by exact hout) (by omega) hw (fun _=>⟨Nat.le_refl _,by simp only[L];omega⟩) ?_
  simp only[ObjR]
  have hfit:ds.length*es ag<=css.size:=by rw[hsize,← hlen];exact Nat.mul_le_mul_right _ hcap
  refine⟨by simp[L],.inr ⟨rfl,⟨css,e,hnew,rfl⟩,by simpa [L] using hfit,?_⟩⟩
  refine D.Cr_iff.2 fun i d hd=>?_
  obtain⟨cs,g1,g2,g3,g4⟩:=hrow i d hd
  refine⟨cs,g1,fun j hj=>?_,g3,D.C_mono (fun _ h=>h) (hc.sameF hw) _ _ g4⟩
  have:(w0.alloc (.cells css e)).cell? ⟨w.heap.size,0+i*es ag+j,none⟩=css[0+i*es ag+j]?:=by simp[World.cell?,hnew]
  simp only[L]
  rw[this,Nat.zero_add]
  exact g2 j hj
 ·simp only[AV.R]
  refine⟨L,ext_self _ _ _,.inr ⟨rfl,0,cap,rfl,hcap,hmax,.inr (by simp[L]),?_⟩⟩
  simp only[L,Nat.zero_add]
  rw[hsize]
  exact Nat.le_refl _
theorem newVec_sound(hc:Conc F φ own w){e:TypeId}{cs:List AV}{css:Array Value}{len cap:Nat}{K:AV->List Obj->List Nat->Prop}(hlen:len=cs.length)(hcap:len<=cap)(hmax:cap<=maxLen)
  (hsize:css.size=cap) {vs:List Value} (hvs:AV.Ra F φ w cs vs) (hrow:∀j,j<cs.length->css[j]?=vs[j]?)
  {w0:World} (hos:w0.os=w.os) (ht:w0.tape=w.tape) (hout:w0.output=w.output) (hh:w0.heap=w.heap)
  (h:K (.sl own.length 0 len) (own++[.vec cs]) []) {s:Sem Value} (hrun:s.run P w=.ok (.slice (some ⟨w.heap.size,0,none⟩) len cap) (w0.alloc (.cells css e))) (hdr:w.drawn<=w0.drawn:=by first|exact Nat.le_refl _|exact Nat.le_succ _|exact Nat.le_add_right _ _|assumption) :
  Does P F φ w s K:=by
 let L:Loc:=⟨false,w.heap.size,0,css.size,1⟩
 have hw:∀b,b<w.heap.size->(w0.alloc (.cells css e)).heap[b]?=w.heap[b]?:=fun b hb=>by rw[heap_alloc_old w0 _ b (by rw[hh];exact hb),hh]
 have hsz:(w0.alloc (.cells css e)).heap.size=w.heap.size+1:=by rw[World.size_alloc,hh]
 have hnew:(w0.alloc (.cells css e)).heap[w.heap.size]?=some (.cells css e):=by have:=heap_alloc_new w0 (.cells css e);rwa [hh]at this
 refine⟨_,_,_,[],F,ext φ own.length L,_,hrun,?_,?_,h⟩
 ·refine After.new hc (by exact hos) (by exact ht) (by exact hout) (by omega) hw (fun _=>⟨Nat.le_refl _,by simp only[L];omega⟩) ?_
  simp only[ObjR]
  refine⟨by simp[L],.inr ⟨rfl,css,e,hnew,rfl,by simp only[L];omega,vs,AV.Ra_mono (fun _ h=>h) (hc.sameF hw) (ext_old hc L) _ _ hvs,fun j hj=>?_⟩⟩
  simp only[L,Nat.zero_add]
  exact hrow j hj
 ·simp only[AV.R]
  refine⟨L,ext_self _ _ _,.inr ⟨rfl,0,cap,rfl,hcap,hmax,.inr (by simp[L]),?_⟩⟩
  simp only[L,Nat.zero_add,Nat.mul_one]
  omega
theorem newTab_sound(hc:Conc F φ own w){e:TypeId}{k:Nat}{cs:List AV}{css:Array Value}{len cap:Nat}{K:AV->List Obj->List Nat->Prop}(hlen:cs.length=len*k)(hcap:len<=cap)(hmax:cap<=maxLen)
  (hsize:css.size=cap*k) {vs:List Value} (hvs:AV.Ra F φ w cs vs) (hrow:∀j,j<cs.length->css[j]?=vs[j]?)
  {w0:World} (hos:w0.os=w.os) (ht:w0.tape=w.tape) (hout:w0.output=w.output) (hh:w0.heap=w.heap)
  (h:K (.sl own.length 0 len) (own++[.tab k cs]) []) {s:Sem Value} (hrun:s.run P w=.ok (.slice (some ⟨w.heap.size,0,none⟩) len cap) (w0.alloc (.cells css e))) (hdr:w.drawn<=w0.drawn:=by first|exact Nat.le_refl _|exact Nat.le_succ _|exact Nat.le_add_right _ _|assumption) :
  Does P F φ w s K:=by
 let L:Loc:=⟨false,w.heap.size,0,css.size,k⟩
 have hle:len*k<=cap*k:=Nat.mul_le_mul_right _ hcap
 have hw:∀b,b<w.heap.size->(w0.alloc (.cells css e)).heap[b]?=w.heap[b]?:=fun b hb=>by rw[heap_alloc_old w0 _ b (by rw[hh];exact hb),hh]
 have hsz:(w0.alloc (.cells css e)).heap.size=w.heap.size+1:=by rw[World.size_alloc,hh]
 have hnew:(w0.alloc (.cells css e)).heap[w.heap.size]?=some (.cells css e):=by have:=heap_alloc_new w0 (.cells css e);rwa [hh]at this
 refine⟨_,_,_,[],F,ext φ own.length L,_,hrun,?_,?_,h⟩
 ·refine After.new hc (by exact hos) (by exact ht) (by exact hout) (by omega) hw (fun _=>⟨Nat.le_refl _,by simp only[L];omega⟩) ?_
  simp only[ObjR]
  refine⟨by simp[L],.inr ⟨rfl,css,e,hnew,rfl,by simp only[L];omega,vs,AV.Ra_mono (fun _ h=>h) (hc.sameF hw) (ext_old hc L) _ _ hvs,fun j hj=>?_⟩⟩
  simp only[L,Nat.zero_add]
  exact hrow j hj
 ·simp only[AV.R]
  refine⟨L,ext_self _ _ _,.inr ⟨rfl,0,cap,rfl,hcap,hmax,.inr (by simp[L]),?_⟩⟩
  simp only[L,Nat.zero_add]
  omega
def AV.pure:AV->Option D
 | .dat d=>some d
 | .nils=>some (.sl none [])
 | .agg vs=>(AV.pures vs).map .agg
 | _=>none
where
 AV.pures:List AV->Option (List D)
  | []=>some []
  | .dat d :: vs=>(AV.pures vs).map (d :: ·)
  | .nils :: vs=>(AV.pures vs).map (.sl none [] :: ·)
  | _ :: _=>none
theorem plain_of_one{d:D}{c:Value}(h1:c.oneCell'=true)(h:D.R F w d c):d.isAgg=false/\D.C F w d [c]:=by
 cases d with
 | agg ds=>obtain⟨arr,rfl,_⟩:=h;simp[Value.oneCell']at h1
 | _=>exact⟨rfl,h⟩
theorem nils_C:D.C F w (.sl none []) [.slice none 0 0]:=by
 simp only[D.C]
 exact⟨none,0,rfl,Nat.le_refl _,Nat.zero_le _,.inl trivial⟩
theorem pures_R:∀(vs:List AV) (ds:List D) (arr:List Value),AV.pure.AV.pures vs=some ds->AV.Ra F φ w vs arr->D.Cs F w ds arr
 | [],ds,arr,h,hra=>by
  simp only[AV.pure.AV.pures,Option.some.injEq]at h
  subst h
  simpa only[AV.Ra,D.Cs] using hra
 | .dat d :: vs,ds,arr,h,hra=>by
  simp only[AV.pure.AV.pures,Option.map_eq_some_iff]at h
  obtain⟨ds',h1,rfl⟩:=h
  simp only[AV.Ra,AV.R]at hra
  obtain⟨v,vs',rfl,h0,h2,h3⟩:=hra
  obtain⟨g1,g2⟩:=plain_of_one h0 h2
  simp only[D.Cs]
  exact⟨v,vs',rfl,g1,g2,pures_R vs ds' vs' h1 h3⟩
 | .nils :: vs,ds,arr,h,hra=>by
  simp only[AV.pure.AV.pures,Option.map_eq_some_iff]at h
  obtain⟨ds',h1,rfl⟩:=h
  simp only[AV.Ra,AV.R]at hra
  obtain⟨v,vs',rfl,h0,h2,h3⟩:=hra
  subst h2
  simp only[D.Cs]
  exact⟨_,vs',rfl,rfl,nils_C,pures_R vs ds' vs' h1 h3⟩
 | .nilm :: vs,ds,arr,h,hra=>by simp[AV.pure.AV.pures]at h
 | .sl _ _ _ :: vs,ds,arr,h,hra=>by simp[AV.pure.AV.pures]at h
 | .ptr _ _ _ :: vs,ds,arr,h,hra=>by simp[AV.pure.AV.pures]at h
 | .rptr _ _ :: vs,ds,arr,h,hra=>by simp[AV.pure.AV.pures]at h
 | .agg _ :: vs,ds,arr,h,hra=>by simp[AV.pure.AV.pures]at h
 | .tup _ :: vs,ds,arr,h,hra=>by simp[AV.pure.AV.pures]at h
 | .map _ :: vs,ds,arr,h,hra=>by simp[AV.pure.AV.pures]at h
 | .fn _ _ :: vs,ds,arr,h,hra=>by simp[AV.pure.AV.pures]at h
 | .top :: vs,ds,arr,h,hra=>by simp[AV.pure.AV.pures]at h
theorem pure_R{x:AV}{d:D}{c:Value}(hx:x.pure=some d)(h:AV.R F φ w x c):D.R F w d c:=by
 cases x <;> simp only[AV.pure,Option.some.injEq,Option.map_eq_some_iff,reduceCtorEq]at hx
 ·subst hx;simpa only[AV.R] using h
 ·subst hx
  have:=R_nils.1 h
  subst this
  exact nils_C
 ·obtain⟨ds,h1,rfl⟩:=hx
  simp only[AV.R]at h
  obtain⟨arr,rfl,hra⟩:=h
  exact⟨arr,rfl,pures_R _ _ _ h1 hra⟩
def D.size:D->Nat
 | .agg ds=>ds.length
 | _=>1
def D.fits(ag:Option Nat)(d:D):Prop:=d.isAgg=ag.isSome/\d.size=es ag
theorem D.fits_cells{d:D}{c:Value}{ag:Option Nat}(hf:d.fits ag)(h:D.R F w d c):c.cells.size=es ag/\D.C F w d c.cells.toList/\(∀u∈c.cells.toList,u.oneCell'=true):=by
 obtain⟨h1,h2⟩:=D.R_cells h
 refine⟨?_,h1,?_⟩
 ·rw[← hf.2]
  cases d with
  | agg ds=>simp only[D.C]at h1;have:=D.Cs_length _ _ h1;simpa [D.size] using this
  | _=>have:=(h2 rfl).1;simpa [D.size] using congrArg List.length this
 ·cases d with
  | agg ds =>
   simp only[D.C]at h1
   intro u hu
   obtain⟨i,hi⟩:=List.getElem?_of_mem hu
   obtain⟨hl,hg⟩:=D.Cs_iff.1 h1
   have hlt:i<ds.length:=by
    rw[← hl]
    rcases Nat.lt_or_ge i c.cells.toList.length with h|h
    ·exact h
    ·rw[List.getElem?_eq_none h]at hi;cases hi
   obtain⟨g1,g2⟩:=hg i _ u (List.getElem?_eq_getElem hlt) hi
   exact D.C_one g1 g2
  | _ =>
   intro u hu
   rw[(h2 rfl).1]at hu
   simp at hu
   rw[hu];exact(h2 rfl).2
end
end Go.AM

