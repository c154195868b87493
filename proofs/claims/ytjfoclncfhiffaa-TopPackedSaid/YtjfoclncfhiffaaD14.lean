/- Own work over the model of the kit. -/
import Derived.Test.YtjfoclncfhiffaaD8
import Derived.Shelf.Slices.Delete
import Derived.Shelf.Slices.Empties
import Derived.Shelf.Sort.Plain
import Derived.Shelf.Slices.In.SortNone
import Derived.Shelf.Slices.SearchI
import Derived.Test.YtjfoclncfhiffaaD12
import Derived.Test.YtjfoclncfhiffaaD13
import Derived.Test.YtjfoclncfhiffaaProg
import Derived.Shelf.Lays2
import Derived.Shelf.Lays
import Derived.Test.YtjfoclncfhiffaaD10
import Derived.Test.YtjfoclncfhiffaaD11
set_option linter.unnecessarySimpa false
set_option linter.unusedSimpArgs false
set_option linter.unusedVariables false
set_option maxHeartbeats 4000000
set_option maxRecDepth 100000
namespace Go.AM
open Go Go.Proofs Go.Sort Go.Shelf
def is64(l:List Int):List D:=l.map (D.int .i64)
theorem is64_len(l:List Int):(is64 l).length=l.length:=List.length_map _
def rowW(w:World)(q blk off:Nat)(zs:List Int)(os:Array Go.Obj):World:=grow (putRow (Value.int .i64) (Sort.ahead w q) blk off zs.toArray) os
theorem rw_heap{w:World}{q blk off:Nat}{zs:List Int}{os:Array Go.Obj}(b:Nat)(hb:b<w.heap.size):(rowW w q blk off zs os).heap[b]?=(w.heap[b]?).map fun o=>if b=blk then onCells (putCells (Value.int .i64) off zs.toArray) o else o:=by
 unfold rowW grow putRow mapBlock Sort.ahead
 show ((w.heap.modify blk _)++os)[b]?=_
 rw[Array.getElem?_append_left (by simpa using hb),Array.getElem?_modify]
 by_cases e:blk=b
 ·subst e
  simp
 ·rw[if_neg e]
  have e':¬b=blk:=fun h=>e h.symm
  simp[e']
theorem rw_size{w:World}{q blk off:Nat}{zs:List Int}{os:Array Go.Obj}:w.heap.size<=(rowW w q blk off zs os).heap.size:=by
 unfold rowW grow putRow mapBlock Sort.ahead
 show w.heap.size<=((w.heap.modify blk _)++os).size
 simp
theorem rw_same{F:Nat->Prop}{w:World}{q blk off:Nat}{zs:List Int}{os:Array Go.Obj}(hF:∀b,F b->b<w.heap.size)(hb:¬F blk):Same F w (rowW w q blk off zs os):=fun b hFb=>by
 rw[rw_heap b (hF b hFb)]
 have:¬b=blk:=fun e=>hb (e ▸ hFb)
 simp[this]
theorem bang_int(l:List Int)(i:Nat)(h:i<l.length):(l.toArray[i]!)=l[i]:=by
 rw[getElem!_pos l.toArray i (by simpa using h)]
 simp
theorem row_in{F:Nat->Prop}{w:World}{b base:Nat}{zs:List Int}(h:D.Cr F w none b base (is64 zs)):∀z∈zs,(Lit.int .i64 z).wf=true:=fun z hz=>by
 obtain⟨i,hi,rfl⟩:=List.mem_iff_getElem.1 hz
 obtain⟨cs,h1,h2,_,h4⟩:=D.Cr_get _ _ _ _ h i (D.int .i64 zs[i]) (by simp[is64,hi])
 simp only[D.C]at h4
 exact h4.2
theorem row_to{F:Nat->Prop}{w:World}{b base:Nat}{zs:List Int}{arr:Array Value}{ty:TypeId}(hb:w.heap[b]?=some (.cells arr ty (0,0)))(h:D.Cr F w none b base (is64 zs)):Holds (Value.int .i64) w b base zs.toArray:=by
 intro t ht
 have ht':t<zs.length:=by simpa using ht
 obtain⟨cs,h1,h2,_,h4⟩:=D.Cr_get _ _ _ _ h t (D.int .i64 zs[t]) (by simp[is64,ht'])
 simp only[D.C]at h4
 have:=h2 0 (by show 0<1;omega)
 rw[h4.1]at this
 constructor
 ·rw[bang_int zs t ht']
  simpa [es] using this
 ·simp[World.frozen?,hb]
theorem row_of{F:Nat->Prop}{w:World}{b base:Nat}{ys ts:List Int}(hin:∀z∈ys,(Lit.int .i64 z).wf=true)(h:Holds (Value.int .i64) w b base (ys++ts).toArray):D.Cr F w none b base (is64 ys):=by
 refine D.Cr_of_get _ _ _ _ fun i d hd=>?_
 unfold is64 at hd
 rw[List.getElem?_map,Option.map_eq_some_iff]at hd
 obtain⟨x,hx,rfl⟩:=hd
 have hi:i<ys.length:=(List.getElem?_eq_some_iff.1 hx).1
 have hx':ys[i]=x:=(List.getElem?_eq_some_iff.1 hx).2
 refine⟨[.int .i64 x],rfl,fun j hj=>?_,rfl,?_⟩
 ·obtain rfl:j=0:=by have:j<1:=hj;omega
  have h1:=(h i (by simp;omega)).1
  rw[bang_int _ i (by simp;omega),List.getElem_append_left hi,hx']at h1
  simpa [es] using h1
 ·simp only[D.C]
  exact⟨trivial,hin x (hx' ▸ List.getElem_mem hi)⟩
theorem row_after{F:Nat->Prop}{φ:Nat->Option Loc}{w:World}{zs ys ts:List Int}{Lc:Loc}{q:Nat}{os:Array Go.Obj}(hc:Conc F φ [.row none (is64 zs)] w)(hφ:φ 0=some Lc)(hn:Lc.nil=false)(hlen:(ys++ts).length=zs.length)(hin:∀z∈ys,(Lit.int .i64 z).wf=true) :
  After F φ w F φ ([.row none (is64 ys)]++[]) (rowW w q Lc.b Lc.base (ys++ts) os) []:=by
 have hrep:=hc.rep 0 _ rfl
 rw[hφ]at hrep
 simp only[ObjR]at hrep
 obtain⟨hsz,hrep⟩:=hrep
 rcases hrep with⟨h,_⟩|⟨_,⟨arr,ty,hheap,harr⟩,hroom2,hCr⟩
 ·rw[h]at hn;cases hn
 have hlive:=hc.live 0 Lc hφ hn
 have hH:=row_to hheap hCr
 have hsame:Same F w (rowW w q Lc.b Lc.base (ys++ts) os):=rw_same hc.fb hlive.1
 have hold:∀b,b<w.heap.size->b≠Lc.b->(rowW w q Lc.b Lc.base (ys++ts) os).heap[b]?=w.heap[b]?:=fun b hb hne=>by
  rw[rw_heap b hb]
  simp[hne]
 have hsize:w.heap.size<=(rowW w q Lc.b Lc.base (ys++ts) os).heap.size:=rw_size
 have hnew:(rowW w q Lc.b Lc.base (ys++ts) os).heap[Lc.b]?=some (.cells (putCells (Value.int .i64) Lc.base (ys++ts).toArray arr) ty (0,0)):=by
  rw[rw_heap _ hlive.2,hheap]
  simp[onCells]
 have hHT:Holds (Value.int .i64) (rowW w q Lc.b Lc.base (ys++ts) os) Lc.b Lc.base (ys++ts).toArray:=by
  unfold rowW
  refine holds_grow _ _ _ _ _ _ (by unfold putRow mapBlock Sort.ahead;simpa using hlive.2) ?_
  exact holds_putRow _ _ _ _ zs.toArray _ (holds_ahead _ _ _ _ _ _ hH) (by simpa using hlen)
 have hrow:ObjR F φ (rowW w q Lc.b Lc.base (ys++ts) os) (some Lc) (.row none (is64 ys)):=by
  simp only[ObjR]
  refine⟨hsz,.inr ⟨hn,⟨_,_,hnew,by simpa [putCells] using harr⟩,?_,row_of hin hHT⟩⟩
  have hl:ys.length<=zs.length:=by rw[← hlen,List.length_append];omega
  have:=Nat.mul_le_mul_right Lc.sz hl
  rw[is64_len]at hroom2 ⊢
  omega
 refine⟨fun _ h=>h,⟨rfl,rfl,rfl,hsize,hsame,Nat.le_add_right _ _⟩,?_,fun _ _ _ h=>h,fun b hb hall=>hold b hb (fun e=>hall 0 Lc hφ hn e.symm),fun o L' ho hn'=>.inr ⟨o,L',ho,hn',rfl⟩,fun b hb=>.inl hb⟩
 refine⟨fun b hb=>Nat.lt_of_lt_of_le (hc.fb b hb) hsize,fun o L' ho hn'=>⟨(hc.live o L' ho hn').1,Nat.lt_of_lt_of_le (hc.live o L' ho hn').2 hsize⟩,hc.inj,fun o obj ho=>?_,fun o ho=>hc.out o (by simpa using ho),hc.glob.mono (fun _ h=>h) hsame⟩
 rcases o with _|o
 ·simp only[List.append_nil,List.getElem?_cons_zero,Option.some.injEq]at ho
  subst ho
  rw[hφ]
  exact hrow
 ·simp at ho
theorem grow_nil(w:World):grow w #[]=w:=by
 cases w
 simp[grow]
def delR(aa:List AV)(obs:List Obj)(v0:AV)(obs' ex:List Obj)(mv0:List Nat):Prop:=∃(zs:List Int) (i j:Nat),i<=j/\j<=zs.length /\
 aa=[.sl 0 0 zs.length,.dat (.int .i64 (i:Int)),.dat (.int .i64 (j:Int))]/\obs=[.row none (is64 zs)]/\v0=.sl 0 0 (zs.length - (j - i))/\obs'=[.row none (is64 (zs.take i++zs.drop j))]/\ex=[]/\mv0=[]
theorem delete_ok {P : Program} {ρ : Ren} (L : Lays2.n23 P ρ) {fn : Func} {body : Code} (hf : P.funcs[ρ.f 23]? = some fn) (hb : fn.body = some body) (hname : fn.name ≠ "runtime.NumGoroutine") : OkF P (ρ.f 23) (lentC delR) := by
 refine okF_lent_raw hf hb hname ?_
 rintro aa obs v0 obs' ex mv0 ⟨zs,i,j,hij,hj,rfl,rfl,rfl,rfl,rfl,rfl⟩ F φ w vs h0 hc hs
 simp only[AV.Rs,AV.R]at hs
 obtain⟨v1,vs1,rfl,⟨Lc,hφ,hv1⟩,v2,vs2,rfl,h2,v3,vs3,rfl,h3,rfl⟩:=hs
 simp only[D.R,D.C,List.cons.injEq,and_true]at h2 h3
 obtain⟨rfl,_⟩:=h2
 obtain⟨rfl,_⟩:=h3
 have hrep:=hc.rep 0 _ rfl
 rw[hφ]at hrep
 simp only[ObjR]at hrep
 obtain⟨hsz,hrep⟩:=hrep
 by_cases hz:zs.length=0
 ·have hz0:=List.eq_nil_of_length_eq_zero hz
  subst hz0
  obtain rfl:j=0:=by simpa using hj
  obtain rfl:i=0:=by omega
  have hv:∃a c,v1=.slice a 0 c:=by
   rcases hv1 with⟨_,_,_,h⟩|⟨_,c,cap,h,_⟩
   ·exact⟨_,_,h⟩
   ·exact⟨_,_,h⟩
  obtain⟨a,c,rfl⟩:=hv
  refine(Any.slices_Delete_int_empty L a c w).mono ?_
  rintro e w' ⟨rfl,rfl⟩
  refine⟨_,F,φ,rfl,After.refl hc,?_⟩
  simp only[AV.R]
  exact⟨Lc,hφ,hv1⟩
 rcases hv1 with⟨hn,_,hlen,rfl⟩|⟨hn,c,cap,rfl,hcap,hmax,hoff,hroom⟩
 ·exact absurd hlen hz
 have hoff2:c=Lc.base:=by
  rcases hoff with h|h
  ·omega
  ·omega
 subst hoff2
 rcases hrep with⟨h,_⟩|⟨_,⟨arr,ty,hheap,harr⟩,hroom2,hCr⟩
 ·rw[h]at hn;cases hn
 have hH:=row_to hheap hCr
 refine(Any.slices_Delete_int L Lc.b Lc.base cap i j zs w hH hcap (by unfold maxLen at hmax;omega) hij hj).mono ?_
 rintro e w' ⟨rfl,q,hw⟩
 have hgr:w'=rowW w q Lc.b Lc.base ((zs.take i++zs.drop j)++List.replicate (j - i) 0) #[]:=by
  rw[hw]
  exact(grow_nil _).symm
 refine⟨_,F,φ,rfl,?_,?_⟩
 ·rw[hgr]
  refine row_after hc hφ hn (by simp;omega) fun z hz'=>row_in hCr z ?_
  rcases List.mem_append.1 hz' with h|h
  ·exact List.mem_of_mem_take h
  ·exact List.mem_of_mem_drop h
 ·simp only[AV.R]
  exact⟨Lc,hφ,.inr ⟨hn,Lc.base,cap,rfl,by omega,hmax,.inr (by simp),hroom⟩⟩
def sortIR(aa:List AV)(obs:List Obj)(v0:AV)(obs' ex:List Obj)(mv0:List Nat):Prop:=∃zs:List Int,zs.length<=1000000 /\
 aa=[.sl 0 0 zs.length]/\obs=[.row none (is64 zs)]/\v0=.tup []/\obs'=[.row none (is64 (zs.mergeSort fun x y=>decide (x<=y)))]/\ex=[]/\mv0=[]
theorem sortI_ok {P : Program} {ρ : Ren} (L : Lays.n189 P ρ) {fn : Func} {body : Code} (hf : P.funcs[ρ.f 189]? = some fn) (hb : fn.body = some body) (hname : fn.name ≠ "runtime.NumGoroutine") : OkF P (ρ.f 189) (lentC sortIR) := by
 refine okF_lent_raw hf hb hname ?_
 rintro aa obs v0 obs' ex mv0 ⟨zs,hbig,rfl,rfl,rfl,rfl,rfl,rfl⟩ F φ w vs h0 hc hs
 simp only[AV.Rs,AV.R]at hs
 obtain⟨v1,vs1,rfl,⟨Lc,hφ,hv1⟩,rfl⟩:=hs
 have hrep:=hc.rep 0 _ rfl
 rw[hφ]at hrep
 simp only[ObjR]at hrep
 obtain⟨hsz,hrep⟩:=hrep
 by_cases hz:zs.length=0
 ·have hz0:=List.eq_nil_of_length_eq_zero hz
  subst hz0
  have hv:∃a c,v1=.slice a 0 c:=by
   rcases hv1 with⟨_,_,_,h⟩|⟨_,c,cap,h,_⟩
   ·exact⟨_,_,h⟩
   ·exact⟨_,_,h⟩
  obtain⟨a,c,rfl⟩:=hv
  refine(Any.slices_Sort_int_none L a c w).mono ?_
  rintro e w' ⟨rfl,rfl⟩
  refine⟨_,F,φ,rfl,?_,by simp only[AV.R,AV.Rs];exact⟨[],rfl,rfl⟩⟩
  have e0:([]:List Int).mergeSort (fun x y=>decide (x<=y))=[]:=List.eq_nil_of_length_eq_zero (List.length_mergeSort ..)
  rw[e0]
  exact After.refl hc
 rcases hv1 with⟨hn,_,hlen,rfl⟩|⟨hn,c,cap,rfl,hcap,hmax,hoff,hroom⟩
 ·exact absurd hlen hz
 have hoff2:c=Lc.base:=by
  rcases hoff with h|h
  ·omega
  ·omega
 subst hoff2
 rcases hrep with⟨h,_⟩|⟨_,⟨arr,ty,hheap,harr⟩,hroom2,hCr⟩
 ·rw[h]at hn;cases hn
 have hlive:=hc.live 0 Lc hφ hn
 have hH:=row_to hheap hCr
 refine(Any.slices_Sort_int L Lc.b Lc.base cap zs w hH hlive.2 (by omega)).mono ?_
 rintro e w' ⟨rfl,q,os,hw⟩
 refine⟨_,F,φ,rfl,?_,by simp only[AV.R,AV.Rs];exact⟨[],rfl,rfl⟩⟩
 have hgr:w'=rowW w q Lc.b Lc.base ((zs.mergeSort fun x y=>decide (x<=y))++[]) os:=by
  rw[hw,List.append_nil]
  rfl
 rw[hgr]
 refine row_after hc hφ hn (by rw[List.append_nil,List.length_mergeSort]) fun z hz'=>row_in hCr z ?_
 exact(List.mergeSort_perm zs _).mem_iff.1 hz'
end Go.AM
namespace Go.AM
open Go Go.Proofs Go.Sort Go.Shelf
theorem okF_data_raw {P : Program} {g : Nat} {fn : Func} {body : Code} {R : List D -> AV -> Prop} (hf : P.funcs[g]? = some fn) (hb : fn.body = some body) (hname : fn.name ≠ "runtime.NumGoroutine")
  (h:∀ds v,R ds v->v.scal=true/\∀F w vs,Conc F (fun _=>none) [] w->AV.Rs F (fun _=>none) w (ds.map .dat) vs->Calls P g vs.toArray w fun e w'=>∃r,e=.returned r/\After F (fun _=>none) w F (fun _=>none) [] w' []/\AV.R F (fun _=>none) w' v r):OkF P g (dataC R):=by
 intro args own v own' mv hC
 obtain⟨ds,hds,hR,rfl,rfl,hkind⟩:=hC
 refine⟨⟨fn,body,hf,hb,hname⟩,fun F φ w vs hc hs=>?_⟩
 obtain⟨hk,hcall⟩:=h ds v hR
 have hc0:Conc (wide F φ) (fun _=>none) [] w:=⟨fun b hb=>by
   rcases hb with hb|⟨o,L,ho,hn,rfl⟩
   ·exact hc.fb b hb
   ·exact(hc.live o L ho hn).2,(fun _ _ h=>by cases h),(fun _ _ _ _ h=>by cases h),(fun _ _ h=>by simp at h),(fun _ _=>rfl),hc.glob.mono (fun _ h=>.inl h) (Same.refl F w)⟩
 refine(hcall (wide F φ) w vs hc0 (asDL_R hc _ _ _ hds hs)).mono ?_
 rintro e w' ⟨r,rfl,ha,hv⟩
 have hold:∀b,b<w.heap.size->w'.heap[b]?=w.heap[b]?:=fun b hb=>ha.rest b hb (fun _ _ h=>by cases h)
 refine⟨r,F,φ,rfl,?_,R_scal hk hv⟩
 exact { sub:=fun _ h=>h,ext:=ha.ext.mono (fun b hb=>.inl hb),conc:=hc.same ha.ext.size hold,keep:=fun _ _ _ h=>h,rest:=fun b hb _=>hold b hb,orig:=fun o L' ho hn=>.inr ⟨o,L',ho,hn,rfl⟩,frsh:=fun b hb=>.inl hb }
theorem After.drewN{F:Nat->Prop}{φ:Nat->Option Loc}{own:List Obj}{w:World}(hc:Conc F φ own w)(k:Nat):After F φ w F φ own (w.drewN k) []:=by
 have hold:∀b,b<w.heap.size->(w.drewN k).heap[b]?=w.heap[b]?:=fun b hb=>rfl
 exact⟨fun _ h=>h,⟨rfl,rfl,rfl,Nat.le_refl _,fun b hb=>rfl,Nat.le_add_right _ _⟩,hc.same (Nat.le_refl _) hold,fun _ _ _ h=>h,fun b hb _=>rfl,
  fun o L' ho hn=>.inr ⟨o,L',ho,hn,rfl⟩,fun b hb=>.inl hb⟩
def bsR(ds:List D)(v:AV):Prop:=∃(zs:List Int) (x:Int),zs.length<=1000000/\zs.Pairwise (· <= ·)/\ds=[.sl none (is64 zs),.int .i64 x]/\v=.tup [.dat (.int .i64 ((zs.countP fun y=>decide (y<x):Nat):Int)),.dat (.bool (zs.contains x))]
theorem bs_ok {P : Program} {ρ : Ren} (L : Lays2.n25 P ρ) {fn : Func} {body : Code} (hf : P.funcs[ρ.f 25]? = some fn) (hb : fn.body = some body) (hname : fn.name ≠ "runtime.NumGoroutine") : OkF P (ρ.f 25) (dataC bsR) := by
 refine okF_data_raw hf hb hname ?_
 rintro ds v ⟨zs,x,hbig,hsort,rfl,rfl⟩
 refine⟨rfl,fun F w vs hc hs=>?_⟩
 simp only[List.map_cons,List.map_nil,AV.Rs,AV.R]at hs
 obtain⟨v1,vs1,rfl,h1,v2,vs2,rfl,h2,rfl⟩:=hs
 simp only[D.R,D.C,List.cons.injEq,and_true]at h1 h2
 obtain⟨rfl,_⟩:=h2
 obtain⟨a,cap,rfl,hcap,hmax,hcells⟩:=h1
 have hlen:(zs.countP fun y=>decide (y<x))<=zs.length:=List.countP_le_length
 have hwf:∀m:Nat,m<=zs.length->(Lit.int .i64 (m:Int)).wf=true:=fun m hm=>inR_i64.2 (by omega)
 have fin:∀(z2:List Int),z2=zs->∀e w',(e=.returned (.tuple #[.int .i64 ((z2.countP (·<x):Nat):Int),.bool (z2.contains x)])/\∃q,w'=w.drewN q)->∃r,e=Ending.returned r/\After F (fun _=>none) w F (fun _=>none) [] w' []/\AV.R F (fun _=>none) w' (.tup [.dat (.int .i64 ((zs.countP fun y=>decide (y<x):Nat):Int)),.dat (.bool (zs.contains x))]) r:=by
  rintro z2 rfl e w' ⟨rfl,q,rfl⟩
  refine⟨_,rfl,After.drewN hc q,?_⟩
  simp only[AV.R,AV.Rs,D.R,D.C]
  exact⟨[_,_],rfl,_,_,rfl,⟨rfl,hwf _ hlen⟩,_,_,rfl,rfl,rfl⟩
 rw[is64_len]
 rcases hcells with h0|⟨b,off,rfl,hF,hCr⟩
 ·have hz:zs=[]:=by simpa [is64] using h0
  subst hz
  refine(Any.slices_BinarySearch_int_empty L a cap x w).mono ?_
  rintro e w' ⟨rfl,rfl⟩
  exact fin [] rfl _ _ ⟨rfl,0,rfl⟩
 ·refine(Any.slices_BinarySearch_int L b off zs.length cap zs x w (Nat.le_refl _) (by omega) ?_ (by rw[List.take_length];exact hsort)).mono ?_
  ·intro j hj
   obtain⟨cs,g1,g2,_,g4⟩:=D.Cr_get _ _ _ _ hCr j (D.int .i64 zs[j]) (by simp[is64,hj])
   simp only[D.C]at g4
   have:=g2 0 (by show 0<1;omega)
   rw[g4.1]at this
   rw[List.getD_eq_getElem?_getD,List.getElem?_eq_getElem hj]
   simpa [es] using this
  ·rintro e w' ⟨rfl,hq⟩
   exact fin (zs.take zs.length) (List.take_length) _ _ ⟨rfl,hq⟩
end Go.AM
namespace Go.AM
open Go Go.Proofs
def isN(l:List Nat):List D:=l.map fun b:Nat=>D.int .i64 (b:Int)
def zD(n:Nat)(r0 r1 r2 r3 r4:List D):D:=.agg [.int .i64 0,.int .i64 0,.int .i64 0,.int .i64 (n:Int),.int .i64 0,.sl none r0,.sl none r1,.sl none r2,.sl none r3,.sl none r4]
def rangesR(ds:List D)(v:AV):Prop:=∃(n:Nat) (r0 r1 r2 r3 r4:List D),1<=n/\n<=64/\ds=[zD n r0 r1 r2 r3 r4]/\v=.dat (.bool true)
theorem ranges_ok:OkF Try.prog 27 (dataC rangesR):=by
 refine okF_data Try.func27 rfl (by decide) ?_
 rintro ds v ⟨n,r0,r1,r2,r3,r4,h1,h2,rfl,rfl⟩
 refine sem_of_awp (Γ:=tbl []) okG_nil _ _ _ ?_
 have c1:(1:Int)<=(n:Int):=by omega
 have c2:(n:Int)<=256:=by omega
 have c3:(0:Int)<=(n:Int):=by omega
 unfold zD
 simp only[go_sem,Try.ntmps27,c1,c2,c3]
 exact⟨inR_i64.2 (by omega),post_data (.inl rfl) [2] rfl trivial rfl⟩
def insB(n f k:Nat):Bool:=decide (f % 2 ^ k=0) && decide (f+2 ^ k<=n)
def insideR(ds:List D)(v:AV):Prop:=∃(n f k:Nat) (r0 r1 r2 r3 r4:List D),1<=n/\n<=64/\f<128/\k<=4/\ds=[zD n r0 r1 r2 r3 r4,.int .i64 (f:Int),.int .i64 (k:Int)]/\v=.dat (.bool (insB n f k))
theorem inside_ok:OkF Try.prog 29 (dataC insideR):=by
 refine okF_data Try.func29 rfl (by decide) ?_
 rintro ds v ⟨n,f,k,r0,r1,r2,r3,r4,h1,h2,hf,hk,rfl,rfl⟩
 refine sem_of_awp (Γ:=tbl []) okG_nil _ _ _ ?_
 have hs:=shl_one (k:=k) (by omega)
 have c3:(0:Int)<=(k:Int):=by omega
 have c4:(0:Int)<=(f:Int):=by omega
 have hm:((f:Int)).tmod ((2 ^ k:Nat):Int)=((f % 2 ^ k:Nat):Int):=(Int.ofNat_tmod f (2 ^ k)).symm
 have hp:=two_pos k
 have hp2:2 ^ k<=16:=Nat.pow_le_pow_right (n:=2) (by decide) hk
 have hr:f % 2 ^ k<=f:=Nat.mod_le _ _
 unfold insB
 generalize 2 ^ k=s at *
 generalize f % s=r at *
 have c5:¬(s:Int)=0:=by omega
 unfold zD
 by_cases h1:r=0
 ·have e1:(r:Int)=0:=by omega
  by_cases h2:s<=n
  ·have e2:(s:Int)<=n:=by omega
   by_cases h3:f+s<=n
   ·have e3:(f:Int)<=(n:Int) - s:=by omega
    simp only[go_sem,Try.ntmps29,hs,c3,c4,hm,c5,e1,e2,h1,h3,e3,decide_true,Int.zero_add]
    exact⟨inR_i64.2 (by omega),inR_i64.2 (by omega),inR_i64.2 (by omega),post_data (.inl rfl) [6] rfl trivial rfl⟩
   ·have e3:¬(f:Int)<=(n:Int) - s:=by omega
    simp only[go_sem,Try.ntmps29,hs,c3,c4,hm,c5,e1,e2,h1,h3,e3,decide_true,decide_false,Int.zero_add]
    exact⟨inR_i64.2 (by omega),inR_i64.2 (by omega),inR_i64.2 (by omega),post_data (.inl rfl) [6] rfl trivial rfl⟩
  ·have e2:¬(s:Int)<=n:=by omega
   have h3:¬f+s<=n:=by omega
   simp only[go_sem,Try.ntmps29,hs,c3,c4,hm,c5,e1,e2,h1,h3,decide_true,decide_false,Int.zero_add]
   exact⟨inR_i64.2 (by omega),post_data (.inl rfl) [6] rfl trivial rfl⟩
 ·have e1:¬(r:Int)=0:=by omega
  simp only[go_sem,Try.ntmps29,hs,c3,c4,hm,c5,e1,h1,decide_true,decide_false,Int.zero_add]
  exact⟨inR_i64.2 (by omega),post_data (.inl rfl) [6] rfl trivial rfl⟩
end Go.AM
namespace Go.AM
open Go Go.Proofs
def b01(b:Bool):Int:=if b then 1 else 0
def cel(M:Nat->Bool)(n:Nat):List Int:=(List.range n).map fun i=>b01 (M i)
theorem cel_len(M:Nat->Bool)(n:Nat):(cel M n).length=n:=by unfold cel;simp
theorem celD_len(M:Nat->Bool)(n:Nat):(is64 (cel M n)).length=n:=by rw[is64_len,cel_len]
theorem nth_is64{zs:List Int}{i:Nat}(h:i<zs.length):D.nth (is64 zs) i=.int .i64 zs[i]:=by
 show (is64 zs).getD i default=_
 rw[List.getD_eq_getElem?_getD]
 unfold is64
 rw[List.getElem?_map,List.getElem?_eq_getElem h]
 rfl
theorem nth_cel{M:Nat->Bool}{n i:Nat}(h:i<n):D.nth (is64 (cel M n)) i=.int .i64 (b01 (M i)):=by
 rw[nth_is64 (by rw[cel_len];exact h)]
 unfold cel
 simp
def ckR(ds:List D)(v:AV):Prop:=∃zs:List Int,zs.length<=4096/\(∀z∈zs,z=0∨z=1)/\ds=[.sl none (is64 zs)]/\v=.dat (.int .i64 0)
theorem ccheck_ok:OkF Try.prog 13 (dataC ckR):=by
 refine okF_data Try.func13 rfl (by decide) ?_
 rintro ds v ⟨zs,hl,hz,rfl,rfl⟩
 refine sem_of_awp (Γ:=tbl []) okG_nil _ _ _ ?_
 have hlen:=is64_len zs
 have c1:¬(4096:Int)<zs.length:=by omega
 simp only[go_sem,Try.ntmps13,hlen,c1,decide_false]
 refine sem_loop (fun k:Nat=>⟨slotsOf 25 [(8,.dat (.sl none (is64 zs))),(9,.dat (.int .i64 zs.length)),(10,.dat (.int .i64 k))],[],0,[]⟩) (fun k=>k<=zs.length) (fun k=>zs.length - k) 0 (Nat.zero_le _) ?_ ?_
 ·exact le_slots' (by simp only[go_sem,Int.natCast_zero])
 intro k hk
 refine sem_of_awp (Γ:=tbl []) okG_nil _ _ _ ?_
 rcases Nat.lt_or_ge k zs.length with hlt|hge
 ·have k1:(k:Int)<zs.length:=by omega
  have k2:(0:Int)<=k:=by omega
  have hnx:=nth_is64 hlt
  have hx:=hz _ (List.getElem_mem hlt)
  generalize zs[k]=x at *
  rcases hx with rfl|rfl
  all_goals
   simp only[go_sem,k1,k2,hlen,hnx,hlt,Int.toNat_natCast,decide_true,decide_false]
   refine⟨inR_i64.2 (by omega),k+1,by omega,by omega,?_⟩
   exact le_slots' (by simp only[go_sem,Int.natCast_add,Int.cast_ofNat_Int])
 ·obtain rfl:k=zs.length:=by omega
  have k1:¬(zs.length:Int)<zs.length:=by omega
  simp only[go_sem,k1,decide_false]
  exact post_data (.inl rfl) [2] rfl trivial rfl
def meetV(M:Nat->Bool)(n l h:Nat):AV:=.tup [.dat (.int .i64 (loF M (n - l) l:Int)),.dat (.int .i64 ((hiF M h:Int) - 1)),.dat (.bool (decide (loF M (n - l) l+1<hiF M h)))]
def meetR(ds:List D)(v:AV):Prop:=∃(M:Nat->Bool) (n l h:Nat),n<=64/\l<=n/\h<=n/\ds=[.sl none (is64 (cel M n)),.int .i64 (l:Int),.int .i64 ((h:Int) - 1)]/\v=meetV M n l h
theorem loF_go{M:Nat->Bool}{n l:Nat}(h:l<n)(hm:M l=true):loF M (n - l) l=loF M (n - (l+1)) (l+1):=by
 rw[show n - l=(n - (l+1))+1 by omega]
 conv=>lhs;unfold loF
 rw[if_pos hm]
theorem loF_at{M:Nat->Bool}{n l:Nat}(h:l<n)(hm:M l=false):loF M (n - l) l=l:=by
 rw[show n - l=(n - (l+1))+1 by omega]
 unfold loF
 rw[if_neg (by rw[hm];decide)]
theorem loF_end{M:Nat->Bool}{n:Nat}:loF M (n - n) n=n:=by rw[Nat.sub_self];rfl
theorem meet_ok:OkF Try.prog 14 (dataC meetR):=by
 refine okF_data Try.func14 rfl (by decide) ?_
 rintro ds v ⟨M,n,l,h,hn,hl,hh,rfl,rfl⟩
 refine sem_of_awp (Γ:=tbl []) okG_nil _ _ _ ?_
 have hlen:=celD_len M n
 simp only[go_sem,Try.ntmps14,hlen]
 refine sem_loop (fun k:Nat=>⟨slotsOf 38 [(0,.dat (.sl none (is64 (cel M n)))),(1,.dat (.int .i64 k)),(2,.dat (.int .i64 ((h:Int) - 1)))],[],0,[]⟩) (fun k=>k<=n/\loF M (n - k) k=loF M (n - l) l) (fun k=>n - k) l ⟨hl,rfl⟩ ?_ ?_
 ·exact le_slots' (by simp only[go_sem])
 rintro k ⟨hk,hko⟩
 refine sem_of_awp (Γ:=tbl []) okG_nil _ _ _ ?_
 have hcase:(k<n/\M k=true)∨(k<n/\M k=false/\k=loF M (n - l) l)∨(k=n/\k=loF M (n - l) l):=by
  rcases Nat.lt_or_ge k n with hlt|hge
  ·cases hm:M k with
   | true=>exact .inl ⟨hlt,rfl⟩
   | false=>exact .inr (.inl ⟨hlt,rfl,by rw[← hko,loF_at hlt hm]⟩)
  ·obtain rfl:k=n:=by omega
   exact .inr (.inr ⟨rfl,by rw[← hko,loF_end]⟩)
 have k2:(0:Int)<=k:=by omega
 rcases hcase with⟨hlt,hm⟩|⟨hlt,hm,hk3⟩|⟨hkn,hk3⟩
 ·have k1:(k:Int)<n:=by omega
  have hnx:=nth_cel (M:=M) hlt
  rw[hm]at hnx
  simp only[go_sem,k1,k2,hlen,hnx,hlt,b01,Int.toNat_natCast,decide_true,decide_false,if_true]
  refine⟨inR_i64.2 (by omega),k+1,⟨by omega,by rw[← loF_go hlt hm];exact hko⟩,by omega,?_⟩
  exact le_slots' (by simp only[go_sem,Int.natCast_add,Int.cast_ofNat_Int])
 all_goals first
  | (
   have k1:(k:Int)<n:=by omega
   have hnx:=nth_cel (M:=M) hlt
   rw[hm]at hnx
   simp only[go_sem,k1,k2,hlen,hnx,hlt,b01,Int.toNat_natCast,decide_true,decide_false,Bool.false_eq_true,if_false])
  | (
   have k1:¬(k:Int)<n:=by omega
   simp only[go_sem,k1,hlen,decide_false])
 all_goals
  refine sem_loop (fun j:Nat=>⟨slotsOf 38 [(0,.dat (.sl none (is64 (cel M n)))),(1,.dat (.int .i64 k)),(2,.dat (.int .i64 ((j:Int) - 1)))],[],0,[]⟩) (fun j=>j<=h/\hiF M j=hiF M h) (fun j=>j) h ⟨Nat.le_refl _,rfl⟩ ?_ ?_
  ·exact le_slots' (by simp only[go_sem])
  rintro j ⟨hj,hjo⟩
  refine sem_of_awp (Γ:=tbl []) okG_nil _ _ _ ?_
  unfold meetV
  have b1:(l:Int)<=l:=Int.le_refl _
  cases j with
  | zero =>
   have h0:hiF M 0=0:=rfl
   have j1:¬(0:Int)<=((0:Nat):Int) - 1:=by omega
   have j2:¬(k:Int)<((0:Nat):Int) - 1:=by omega
   have j3:¬k+1<0:=by omega
   have j5:¬(k:Int) < -1:=by omega
   rw[← hk3,← hjo,h0]
   simp only[go_sem,hlen,j1,j2,decide_false]
   refine post_data (.inl rfl) [6,7,8] rfl (by simp only[AV.under,AV.unders,and_self]) ?_
   simp only[j3,j5,decide_false]
   rfl
  | succ j =>
   have e1:((j+1:Nat):Int) - 1=(j:Int):=by omega
   have j4:(0:Int)<=j:=by omega
   have j5:(j:Int)<n:=by omega
   have hjn:j<n:=by omega
   have hny:=nth_cel (M:=M) hjn
   cases hmj:M j with
   | true =>
    rw[hmj]at hny
    have h0:hiF M (j+1)=j+1:=by unfold hiF;rw[if_pos hmj]
    have j2:decide ((k:Int)<(j:Int))=decide (k+1<j+1):=by by_cases hx:k<j <;> simp[hx]
    rw[← hk3,← hjo,h0,e1]
    simp only[go_sem,hlen,j4,j5,hny,hjn,b01,Int.toNat_natCast,decide_true,decide_false,if_true,j2]
    exact post_data (.inl rfl) [6,7,8] rfl (by simp only[AV.under,AV.unders,and_self]) rfl
   | false =>
    rw[hmj]at hny
    rw[e1]
    simp only[go_sem,hlen,j4,j5,hny,hjn,b01,Int.toNat_natCast,decide_true,decide_false,Bool.false_eq_true,if_false]
    have h0:hiF M (j+1)=hiF M j:=by
     conv=>lhs;unfold hiF
     rw[if_neg (by rw[hmj];decide)]
    refine⟨inR_i64.2 (by omega),j,⟨by omega,by rw[← h0];exact hjo⟩,by omega,?_⟩
    exact le_slots' (by simp only[go_sem])
end Go.AM
namespace Go.AM
open Go Go.Proofs
def mvD(m:Nat×Nat):D:=.agg [.int .i64 (m.1:Int),.int .i64 (m.2:Int)]
def mvs(ms:List (Nat×Nat)):List D:=ms.map mvD
theorem mvs_len(ms:List (Nat×Nat)):(mvs ms).length=ms.length:=List.length_map _
def planR(ds:List D)(v:AV):Prop:=∃(M:Nat->Bool) (n:Nat),1<=n/\n<=64/\ds=[.sl none (is64 (cel M n))]/\v=.tup [.dat (.sl (some 2) (mvs (planF M n n 0 n))),.dat (.int .i64 0)]
theorem cel_01(M:Nat->Bool)(n:Nat):∀z∈cel M n,z=0∨z=1:=by
 intro z hz
 unfold cel at hz
 obtain⟨i,_,rfl⟩:=List.mem_map.1 hz
 cases M i <;> simp[b01]
theorem planF_stop{M:Nat->Bool}{n t l h:Nat}(hc:¬loF M (n - l) l+1<hiF M h):planF M n t l h=[]:=by
 cases t with
 | zero=>rfl
 | succ t=>unfold planF;rw[if_neg hc]
theorem planF_go{M:Nat->Bool}{n t l h:Nat}(hc:loF M (n - l) l+1<hiF M h)(ht:h<=l+t):1<=t/\planF M n t l h=(hiF M h - 1,loF M (n - l) l) :: planF M n (t - 1) (loF M (n - l) l+1) (hiF M h - 1):=by
 have h1:=(loF_spec M (n - l) l).1
 have h2:=(hiF_spec M h).1
 cases t with
 | zero=>omega
 | succ t =>
  refine⟨by omega,?_⟩
  conv=>lhs;unfold planF
  rw[if_pos hc];rfl
abbrev tabPl:List (Nat×Contract):=[(13,dataC ckR),(14,dataC meetR)]
theorem tabPl_ok:OkG Try.prog (tbl tabPl):=okG_cons ccheck_ok (okG_cons meet_ok okG_nil)
theorem plan_ok':OkF Try.prog 6 (dataC planR):=by
 refine okF_data Try.func6 rfl (by decide) ?_
 rintro ds v ⟨M,n,h1,h64,rfl,rfl⟩
 refine sem_of_awp (Γ:=tbl tabPl) tabPl_ok _ _ _ ?_
 have hlen:=celD_len M n
 simp only[go_sem,Try.ntmps6,hlen]
 refine call_data ckR (by simp) _ _ rfl ⟨cel M n,by rw[cel_len];omega,cel_01 M n,rfl,rfl⟩ (.inl rfl) ?_
 simp only[go_sem,decide_true,decide_false,Bool.not_true,hlen]
 refine⟨inR_i64.2 (by omega),?_⟩
 refine call_data meetR (by simp) _ _ rfl ⟨M,n,0,n,h64,by omega,Nat.le_refl _,rfl,rfl⟩ (.inl rfl) ?_
 simp only[go_sem,meetV]
 refine sem_le (le_addnil 5 (some 2) rfl (Nat.zero_le _)) ?_
 simp only[go_sem]
 refine sem_loop (fun x:List (Nat×Nat)×Nat×Nat×Nat=>⟨slotsOf 41 [(0,.dat (.sl none (is64 (cel M n)))),(5,.sl 0 0 x.1.length),(6,.dat (.int .i64 (loF M (n - x.2.2.1) x.2.2.1:Int))),(7,.dat (.int .i64 ((hiF M x.2.2.2:Int) - 1))),(8,.dat (.bool (decide (loF M (n - x.2.2.1) x.2.2.1+1<hiF M x.2.2.2))))],
   [.row (some 2) (mvs x.1)],0,[]⟩)
  (fun x=>x.2.2.1<=n/\x.2.2.2<=n/\x.2.2.2<=x.2.2.1+x.2.1/\x.1.length+x.2.1<=n/\planF M n n 0 n=x.1++planF M n x.2.1 x.2.2.1 x.2.2.2) (fun x=>x.2.2.2) ([],n,0,n) ⟨Nat.zero_le _,Nat.le_refl _,by simp,by simp,rfl⟩ ?_ ?_
 ·exact le_slots' (by simp only[go_sem,List.length_nil])
 rintro ⟨acc,t,l,h⟩ ⟨hl,hh,ht,hacc,hpl⟩
 simp only at hl hh ht hacc hpl ⊢
 refine sem_of_awp (Γ:=tbl tabPl) tabPl_ok _ _ _ ?_
 obtain⟨lo1,lo2,lo3,lo4⟩:=loF_spec M (n - l) l
 obtain⟨hi1,hi2,hi3⟩:=hiF_spec M h
 have stop:=planF_stop (M:=M) (n:=n) (t:=t) (l:=l) (h:=h)
 have go:=planF_go (M:=M) (n:=n) (t:=t) (l:=l) (h:=h)
 generalize loF M (n - l) l=lo at *
 generalize hiF M h=hi at *
 have hml:=mvs_len acc
 by_cases hc:lo+1<hi
 ·have hg:=go hc ht
  have c1:inR .i64 ((hi:Int) - 1):=inR_i64.2 (by omega)
  have c2:inR .i64 (lo:Int):=inR_i64.2 (by omega)
  simp only[go_sem,hc,decide_true,hml,c1,c2,List.take_of_length_le,Nat.le_refl]
  have e1:(hi:Int) - 1=((hi - 1:Nat):Int):=by omega
  have e2:mvs acc++[.agg [.int .i64 ((hi - 1:Nat):Int),.int .i64 (lo:Int)]]=mvs (acc++[(hi - 1,lo)]):=by unfold mvs;rw[List.map_append];rfl
  have e3:(lo:Int)+1=((lo+1:Nat):Int):=by omega
  have e4:acc.length+1=(acc++[(hi - 1,lo)]).length:=by simp
  refine⟨fun d hd=>by (rw[List.mem_singleton]at hd;subst hd;exact⟨rfl,rfl⟩),by omega,by omega,inR_i64.2 (by omega),inR_i64.2 (by omega),?_⟩
  refine call_data meetR (by simp) _ _ rfl ⟨M,n,lo+1,hi - 1,h64,by omega,by omega,by rw[e1,e3],rfl⟩ (.inl rfl) ?_
  have e5:planF M n n 0 n=(acc++[(hi - 1,lo)])++planF M n (t - 1) (lo+1) (hi - 1):=by rw[hpl,hg.2];simp
  rw[e1]
  generalize acc++[(hi - 1,lo)]=acc2 at *
  simp only[go_sem,meetV,e2,e4]
  refine⟨(acc2,t - 1,lo+1,hi - 1),⟨by simp only;omega,by simp only;omega,by simp only;omega,by simp only;omega,e5⟩,by simp only;omega,?_⟩
  refine le_end (own:=[_]) (ex:=[_]) (Nat.zero_le _) ?_ ?_ ?_
  ·simp only[go_sem]
  ·simp only[go_sem]
  ·simp only[go_sem,Obj.under]
 ·rw[stop hc,List.append_nil]at hpl
  simp only[go_sem,hc,decide_false]
  rw[hpl]
  refine post_res (.inl rfl) [.tmp 2,.tmp 3] rfl ?_
  simp only[go_sem]
  refine Le.trans (le_freeze 0 (ag:=some 2) (xs:=mvs acc) rfl (Nat.zero_le _)) ?_
  simp only[go_sem,hml,List.drop_zero,List.take_of_length_le,Nat.le_refl,if_true]
  exact le_fin (by simp only[go_sem]) (by simp only[go_sem])
end Go.AM
namespace Go.AM
open Go Go.Proofs Go.Shelf
def rDl:Ren where
 f:=fun x=>match x with
  | 23=>37
  | n=>n
 t:=fun x=>match x with
  | 22=>24
  | 3=>3
  | 4=>4
  | 0=>0
  | n=>n
 g:=fun x=>match x with
  | n=>n
theorem laysDl:Lays2.n23 Try.prog rDl where
 mixed:=by kernel_rfl
 f23:=Eq.trans Try.func37 (congrArg some (by kernel_rfl))
 t0:=Try.underlying0
 a0:=Try.isAgg0
 z0:=Try.sizeOf0
 v0:=Try.zeroValue0
 t3:=Try.underlying3
 a3:=Try.isAgg3
 z3:=Try.sizeOf3
 v3:=Try.zeroValue3
 t4:=Try.underlying4
 a4:=Try.isAgg4
 z4:=Try.sizeOf4
 v4:=Try.zeroValue4
 t22:=Try.underlying24
 a22:=Try.isAgg24
 z22:=Try.sizeOf24
 v22:=Try.zeroValue24
 i3:=by kernel_rfl
def rBs:Ren where
 f:=fun x=>match x with
  | 25=>25
  | 31=>33
  | 32=>34
  | 37=>48
  | n=>n
 t:=fun x=>match x with
  | 22=>24
  | 3=>3
  | 4=>4
  | 40=>66
  | 0=>0
  | n=>n
 g:=fun x=>match x with
  | n=>n
theorem laysBs:Lays2.n25 Try.prog rBs where
 mixed:=by kernel_rfl
 f25:=Eq.trans Try.func25 (congrArg some (by kernel_rfl))
 f31:=Eq.trans Try.func33 (congrArg some (by kernel_rfl))
 f32:=Eq.trans Try.func34 (congrArg some (by kernel_rfl))
 f37:=Eq.trans Try.func48 (congrArg some (by kernel_rfl))
 t0:=Try.underlying0
 a0:=Try.isAgg0
 z0:=Try.sizeOf0
 v0:=Try.zeroValue0
 t3:=Try.underlying3
 a3:=Try.isAgg3
 z3:=Try.sizeOf3
 v3:=Try.zeroValue3
 t4:=Try.underlying4
 a4:=Try.isAgg4
 z4:=Try.sizeOf4
 v4:=Try.zeroValue4
 t22:=Try.underlying24
 a22:=Try.isAgg24
 z22:=Try.sizeOf24
 v22:=Try.zeroValue24
 t40:=Try.underlying66
 a40:=Try.isAgg66
 z40:=Try.sizeOf66
 v40:=Try.zeroValue66
def rSt:Ren where
 f:=fun x=>match x with
  | 189=>20
  | 125=>31
  | 257=>30
  | 128=>46
  | 129=>47
  | 294=>38
  | 295=>39
  | 296=>40
  | 297=>41
  | 298=>42
  | 299=>43
  | 216=>33
  | 300=>44
  | 301=>45
  | 328=>50
  | 329=>51
  | 330=>52
  | 331=>53
  | 332=>54
  | 215=>48
  | 343=>56
  | n=>n
 t:=fun x=>match x with
  | 28=>24
  | 3=>3
  | 46=>66
  | 0=>0
  | 51=>81
  | 53=>83
  | 4=>4
  | 183=>75
  | 182=>74
  | 131=>56
  | 5=>5
  | 9=>9
  | 218=>84
  | 222=>88
  | 228=>90
  | 229=>91
  | n=>n
 g:=fun x=>match x with
  | n=>n
theorem laysSt:Lays.n189 Try.prog rSt where
 mixed:=by kernel_rfl
 f125:=Eq.trans Try.func31 (congrArg some (by kernel_rfl))
 f128:=Eq.trans Try.func46 (congrArg some (by kernel_rfl))
 f129:=Eq.trans Try.func47 (congrArg some (by kernel_rfl))
 f189:=Eq.trans Try.func20 (congrArg some (by kernel_rfl))
 f215:=Eq.trans Try.func48 (congrArg some (by kernel_rfl))
 f216:=Eq.trans Try.func33 (congrArg some (by kernel_rfl))
 f257:=Eq.trans Try.func30 (congrArg some (by kernel_rfl))
 f294:=Eq.trans Try.func38 (congrArg some (by kernel_rfl))
 f295:=Eq.trans Try.func39 (congrArg some (by kernel_rfl))
 f296:=Eq.trans Try.func40 (congrArg some (by kernel_rfl))
 f297:=Eq.trans Try.func41 (congrArg some (by kernel_rfl))
 f298:=Eq.trans Try.func42 (congrArg some (by kernel_rfl))
 f299:=Eq.trans Try.func43 (congrArg some (by kernel_rfl))
 f300:=Eq.trans Try.func44 (congrArg some (by kernel_rfl))
 f301:=Eq.trans Try.func45 (congrArg some (by kernel_rfl))
 f328:=Eq.trans Try.func50 (congrArg some (by kernel_rfl))
 f329:=Eq.trans Try.func51 (congrArg some (by kernel_rfl))
 f330:=Eq.trans Try.func52 (congrArg some (by kernel_rfl))
 f331:=Eq.trans Try.func53 (congrArg some (by kernel_rfl))
 f332:=Eq.trans Try.func54 (congrArg some (by kernel_rfl))
 f343:=Eq.trans Try.func56 (congrArg some (by kernel_rfl))
 t0:=Try.underlying0
 a0:=Try.isAgg0
 z0:=Try.sizeOf0
 v0:=Try.zeroValue0
 t3:=Try.underlying3
 a3:=Try.isAgg3
 z3:=Try.sizeOf3
 v3:=Try.zeroValue3
 t4:=Try.underlying4
 a4:=Try.isAgg4
 z4:=Try.sizeOf4
 v4:=Try.zeroValue4
 t5:=Try.underlying5
 a5:=Try.isAgg5
 z5:=Try.sizeOf5
 v5:=Try.zeroValue5
 t9:=Try.underlying9
 a9:=Try.isAgg9
 z9:=Try.sizeOf9
 v9:=Try.zeroValue9
 t28:=Try.underlying24
 a28:=Try.isAgg24
 z28:=Try.sizeOf24
 v28:=Try.zeroValue24
 t46:=Try.underlying66
 a46:=Try.isAgg66
 z46:=Try.sizeOf66
 v46:=Try.zeroValue66
 t51:=Try.underlying81
 a51:=Try.isAgg81
 z51:=Try.sizeOf81
 v51:=Try.zeroValue81
 t53:=Try.underlying83
 a53:=Try.isAgg83
 z53:=Try.sizeOf83
 v53:=Try.zeroValue83
 t131:=Try.underlying56
 a131:=Try.isAgg56
 z131:=Try.sizeOf56
 v131:=Try.zeroValue56
 t182:=Try.underlying74
 a182:=Try.isAgg74
 z182:=Try.sizeOf74
 v182:=Try.zeroValue74
 t183:=Try.underlying75
 a183:=Try.isAgg75
 z183:=Try.sizeOf75
 v183:=Try.zeroValue75
 t218:=Try.underlying84
 a218:=Try.isAgg84
 z218:=Try.sizeOf84
 v218:=Try.zeroValue84
 t222:=Try.underlying88
 a222:=Try.isAgg88
 z222:=Try.sizeOf88
 v222:=Try.zeroValue88
 t228:=Try.underlying90
 a228:=Try.isAgg90
 z228:=Try.sizeOf90
 v228:=Try.zeroValue90
 t229:=Try.underlying91
 a229:=Try.isAgg91
 z229:=Try.sizeOf91
 v229:=Try.zeroValue91
end Go.AM
namespace Go.AM
open Go Go.Proofs
theorem del_ok:OkF Try.prog 37 (lentC delR):=delete_ok laysDl (show Try.prog.funcs[37]?=_ from Try.func37) rfl (by decide)
theorem bsearch_ok:OkF Try.prog 25 (dataC bsR):=bs_ok laysBs (show Try.prog.funcs[25]?=_ from Try.func25) rfl (by decide)
theorem sort_ok:OkF Try.prog 20 (lentC sortIR):=sortI_ok laysSt (show Try.prog.funcs[20]?=_ from Try.func20) rfl (by decide)
def insR(aa:List AV)(obs:List Obj)(v0:AV)(obs' ex:List Obj)(mv0:List Nat):Prop:=∃(xs:List D) (x:Int),xs.length<=1000 /\
 aa=[.sl 0 0 xs.length,.dat (.int .i64 (xs.length:Int)),.sl 1 0 1]/\obs=[.row none xs,.row none [.int .i64 x]]/\v0=.sl 0 0 (xs.length+1)/\obs'=[.row none (xs++[.int .i64 x]),.row none [.int .i64 x]]/\ex=[]/\mv0=[0]
theorem insert_ok:OkF Try.prog 26 (lentC insR):=by
 refine okF_lent Try.func26 rfl (by decide) ?_
 rintro aa obs v0 obs' ex mv0 ⟨xs,x,hl,rfl,rfl,rfl,rfl,rfl,rfl⟩
 refine sem_of_awp (Γ:=tbl []) okG_nil _ _ _ ?_
 have c1:(0:Int)<=(xs.length:Int):=by omega
 simp only[go_sem,Try.ntmps26,c1,List.take_length]
 refine⟨Int.le_refl _,Int.le_refl _,by omega,by omega,?_⟩
 refine post_resO (.inl rfl) [.tmp 6] rfl (fun _ h=>h) ?_
 simp only[go_sem]
 exact Le.refl _
end Go.AM
namespace Go.AM
open Go Go.Proofs
theorem mixed:Try.prog.follows .mixedOrders=true:=by kernel_rfl
theorem noMk{Γ:Nat->Contract}:MakeFns Γ []:=fun g _ _ _ _ _ h=>by rcases h with h|h <;> cases h
theorem pureNo{Γ:Nat->Contract}:PureFns Γ []:=fun g _ _ _ _ _ h=>by cases h
def clR(ds:List D)(v:AV)(ob:List Obj):Prop:=∃xs:List D,xs.length<=4096/\ds=[.sl none xs]/\v=.sl 0 0 xs.length/\ob=[.row none xs]
theorem clone_ok:OkF Try.prog 15 (madeC clR):=by
 refine okF_made Try.func15 rfl (by decide) ?_
 rintro ds v ob ⟨xs,hl,rfl,rfl,rfl⟩
 refine sem_of_awpK [1] (Γ:=tbl []) okG_nil _ _ _ ?_
 simp only[go_sem,Try.ntmps15]
 refine sem_regionF (Γ:=tbl []) okG_nil ?_
 by_cases hn:xs=[]
 ·subst hn
  refine .inr ?_
  simp only[go_sem]
  refine .inl ⟨rfl,.inl rfl,⟨_,by simp[ev];rfl⟩,⟨3,by kernel_rfl⟩,?_⟩
  intro b
  cases b
  ·simp only[go_sem,awpOpsF]
   refine⟨fun d hd=>(by cases hd),?_⟩
   refine post_resO (.inl rfl) [.tmp 2] rfl (fun _ h=>h) ?_
   simp only[go_sem]
   exact Le.refl _
  ·simp only[go_sem,awpOpsF]
   refine post_resO (.inl rfl) [.tmp 2] rfl (fun _ h=>h) ?_
   simp only[go_sem]
   exact le_addnil 0 none rfl (Nat.zero_le _)
 simp only[awpOpsF]
 refine .inr ?_
 simp only[go_sem]
 refine .inr ⟨hn,fun d hd=>(by cases hd),by omega,by omega,?_⟩
 refine post_resO (.inl rfl) [.tmp 2] rfl (fun _ h=>h) ?_
 simp only[go_sem]
 exact Le.refl _
def isR(aa:List AV)(obs:List Obj)(v0:AV)(obs' ex:List Obj)(mv0:List Nat):Prop:=∃(xs:List D) (i:Nat),i<xs.length/\xs.length<=4096 /\
 aa=[.dat (.int .i64 (i:Int)),.ptr 0 0 0]/\obs=[.box [.sl 1 0 xs.length],.row none xs]/\v0=.dat (.bool true)/\obs'=[.box [.sl 1 0 xs.length],.row none xs]/\ex=[]/\mv0=[]
theorem is_ok:OkF Try.prog 16 (lentC isR):=by
 refine okF_lent Try.func16 rfl (by decide) ?_
 rintro aa obs v0 obs' ex mv0 ⟨xs,i,hi,hl,rfl,rfl,rfl,rfl,rfl,rfl⟩
 refine sem_of_awp (Γ:=tbl []) okG_nil _ _ _ ?_
 have c1:(0:Int)<=(i:Int):=by omega
 have c2:(i:Int)<(xs.length:Int):=by omega
 simp only[go_sem,Try.ntmps16,c1,c2,decide_true]
 refine post_resO (.inl rfl) [.tmp 3] rfl (fun _ h=>h) ?_
 simp only[go_sem]
 exact Le.refl _
theorem okM_at{n:Nat}:∀(ms:List (Nat×Nat)) (M:Nat->Bool) (k:Nat) (hk:k<ms.length),okM n M ms ->
  ((ms.take k).foldl movF M) ms[k].1=true/\((ms.take k).foldl movF M) ms[k].2=false/\ms[k].1<n/\ms[k].2<n
 | m :: r,M,0,_,h=>⟨h.1,h.2.1,h.2.2.1,h.2.2.2.1⟩
 | m :: r,M,k+1,hk,h=>okM_at r (movF M m) k (by simpa using hk) h.2.2.2.2
theorem foldl_take{ms:List (Nat×Nat)}{M:Nat->Bool}{k:Nat}(hk:k<ms.length):(ms.take (k+1)).foldl movF M=movF ((ms.take k).foldl movF M) ms[k]:=by
 rw[List.take_succ_eq_append_getElem hk,List.foldl_append]
 rfl
theorem cel_mov{N:Nat->Bool}{n:Nat}{m:Nat×Nat}(h1:N m.1=true)(h2:N m.2=false)(l1:m.1<n)(l2:m.2<n):((is64 (cel N n)).set m.1 (.int .i64 0)).set m.2 (.int .i64 1)=is64 (cel (movF N m) n):=by
 have hne:m.1≠m.2:=fun e=>by rw[e,h2]at h1;cases h1
 apply List.ext_getElem
 ·simp[is64,cel]
 intro i a1 a2
 have hi:i<n:=by simpa [is64,cel] using a2
 rw[List.getElem_set,List.getElem_set]
 simp only[is64,cel,List.getElem_map,List.getElem_range]
 unfold movF
 by_cases e2:m.2=i
 ·rw[if_pos e2,if_neg (by omega),if_pos e2.symm];rfl
 ·rw[if_neg e2]
  by_cases e1:m.1=i
  ·rw[if_pos e1,if_pos e1.symm];rfl
  ·rw[if_neg e1,if_neg (by omega),if_neg (by omega)]
def appR(ds:List D)(v:AV):Prop:=∃(M:Nat->Bool) (n:Nat) (ms:List (Nat×Nat)),1<=n/\n<=64/\ms.length<=1000/\okM n M ms/\ds=[.sl none (is64 (cel M n)),.sl (some 2) (mvs ms)]/\v=.tup [.dat (.sl none (is64 (cel (ms.foldl movF M) n))),.dat (.int .i64 0)]
abbrev tabAp:List (Nat×Contract):=[(13,dataC ckR),(15,madeC clR),(16,lentC isR)]
theorem tabAp_ok:OkG Try.prog (tbl tabAp):=okG_cons ccheck_ok (okG_cons clone_ok (okG_cons is_ok okG_nil))
theorem nth_mvs{ms:List (Nat×Nat)}{k:Nat}(h:k<ms.length):D.nth (mvs ms) k=mvD ms[k]:=by
 show (mvs ms).getD k default=_
 rw[List.getD_eq_getElem?_getD]
 unfold mvs
 rw[List.getElem?_map,List.getElem?_eq_getElem h]
 rfl
theorem apply_ok:OkF Try.prog 7 (dataC appR):=by
 refine okF_data Try.func7 rfl (by decide) ?_
 rintro ds v ⟨M,n,ms,h1,h64,hml,hok,rfl,rfl⟩
 refine sem_of_awp (Γ:=tbl tabAp) tabAp_ok _ _ _ ?_
 have hlen:=celD_len M n
 have hmm:=mvs_len ms
 simp only[go_sem,Try.ntmps7]
 refine call_data ckR (by simp) _ _ rfl ⟨cel M n,by rw[cel_len];omega,cel_01 M n,rfl,rfl⟩ (.inl rfl) ?_
 simp only[go_sem,decide_true,decide_false,Bool.not_true]
 refine call_made clR (by simp) _ _ _ rfl rfl ⟨is64 (cel M n),by omega,rfl,rfl,rfl⟩ ?_
 simp only[go_sem,AV.shift,AV.shifts,Obj.shift,hlen,hmm]
 refine sem_loop (fun k:Nat=>⟨slotsOf 61 [(7,.ptr 1 0 0),(8,.fn 16 [.ptr 1 0 0]),(19,.dat (.sl (some 2) (mvs ms))),(20,.dat (.int .i64 ms.length)),(21,.dat (.int .i64 k))],
   [.row none (is64 (cel ((ms.take k).foldl movF M) n)),.box [.sl 0 0 n]],0,[]⟩)
  (fun k=>k<=ms.length) (fun k=>ms.length - k) 0 (Nat.zero_le _) ?_ ?_
 ·exact le_slots' (by simp only[go_sem,Int.natCast_zero])
 intro k hk
 refine sem_of_awp (Γ:=tbl tabAp) tabAp_ok _ _ _ ?_
 rcases Nat.lt_or_ge k ms.length with hlt|hge
 ·have k1:(k:Int)<ms.length:=by omega
  have k2:(0:Int)<=k:=by omega
  have hnx:=nth_mvs hlt
  obtain⟨g1,g2,g3,g4⟩:=okM_at ms M k hlt hok
  have hfo:=foldl_take (M:=M) hlt
  generalize (ms.take k).foldl movF M=N at *
  have hst:=cel_mov g1 g2 g3 g4
  generalize ms[k]=m at *
  have hlN:=celD_len N n
  have n1:=nth_cel (M:=N) g3
  have n2:=nth_cel (M:=N) g4
  rw[g1]at n1
  rw[g2]at n2
  obtain⟨a,b⟩:=m
  simp only at g1 g2 g3 g4 hst n1 n2
  simp only[go_sem,k1,k2,hlt,hmm,hnx,mvD,Int.toNat_natCast,decide_true]
  have call:∀(x:Nat) (C:AV->List Obj->List Nat->Prop),x<n->C (.dat (.bool true)) [.row none (is64 (cel N n)),.box [.sl 0 0 n],.box [.dat (.int .i64 (a:Int)),.dat (.int .i64 (b:Int))]] []->callw (tbl tabAp) (.fn 16 [.ptr 1 0 0]) [.dat (.int .i64 (x:Int))] [.row none (is64 (cel N n)),.box [.sl 0 0 n],.box [.dat (.int .i64 (a:Int)),.dat (.int .i64 (b:Int))]] C:=by
   intro x C hx hC
   refine callw_caps (call_lent isR (by simp) [1,0] ⟨is64 (cel N n),x,by omega,by omega,rfl,rfl,rfl,rfl,rfl,rfl⟩ (by decide) (by simp) rfl rfl rfl (by simp only[go_sem,AV.unders,AV.under]) (by simp only[List.mem_cons,List.not_mem_nil,or_false,forall_eq_or_imp,forall_eq];exact⟨by simp only[Obj.under,AV.unders,AV.under,hlN];decide,trivial⟩) (fun j hj=>?_) ?_)
   ·have:j=0∨j=1:=by simp at hj;omega
    rcases this with rfl|rfl
    ·rw[hlN];rfl
    ·rfl
   ·simp only[go_sem,hlN]
    exact hC
  refine call a _ g3 ?_
  simp only[go_sem]
  refine call b _ g4 ?_
  simp only[go_sem,k1,k2,hlt,n1,n2,b01,if_true,if_false,Bool.false_eq_true,decide_true,decide_false,Int.toNat_natCast,hlN]
  have p1:(a:Int)<n:=by omega
  have p2:(b:Int)<n:=by omega
  have p3:(0:Int)<=a:=by omega
  have p4:(0:Int)<=b:=by omega
  have hl2:((is64 (cel N n)).set a (.int .i64 0)).length=n:=by rw[List.length_set,hlN]
  refine⟨p1,g3,p2,g4,?_⟩
  refine sem_drawX [(7,[0]),(9,[0]),(3,[0]),(5,[0])] [] (pf:=[]) (mf:=[]) mixed tabAp_ok pureNo noMk (ones [0,1,2,3,4,5,6,7,8,9]) (by kernel_rfl) ?_
  simp only[go_sem,p1,p2,p3,p4,g3,g4,hlN,hl2,Int.toNat_natCast,hst]
  refine⟨inR_i64.2 (by omega),k+1,by omega,by omega,?_⟩
  rw[hfo]
  refine le_end (own:=[_,_]) (ex:=[_]) (Nat.zero_le _) ?_ ?_ ?_
  ·simp only[go_sem,Int.natCast_add,Int.cast_ofNat_Int]
  ·simp only[go_sem]
  ·simp only[go_sem,Obj.under,AV.unders,AV.under]
 ·obtain rfl:k=ms.length:=by omega
  have k1:¬(ms.length:Int)<ms.length:=by omega
  simp only[go_sem,k1,List.take_length,decide_false]
  generalize ms.foldl movF M=N at *
  have hlN:=celD_len N n
  refine post_res (.inl rfl) [.tmp 4,.tmp 5] rfl ?_
  simp only[go_sem]
  refine Le.trans (le_freeze 0 (ag:=none) (xs:=is64 (cel N n)) rfl (Nat.zero_le _)) ?_
  simp only[go_sem,hlN,List.drop_zero,List.take_of_length_le,Nat.le_refl,if_true]
  exact le_fin (by simp only[go_sem]) (by simp only[go_sem])
end Go.AM
namespace Go.AM
open Go Go.Proofs
def fl(X:Nat->Bool)(n k:Nat):List Int:=(freeL X n k).map fun b:Nat=>(b:Int)
theorem fl_sorted(X:Nat->Bool)(n k:Nat):(fl X n k).Pairwise (· <= ·):=by
 unfold fl
 rw[List.pairwise_map]
 exact(free_sorted X n k).imp fun h=>by omega
theorem fl_len(X:Nat->Bool)(n k:Nat):(fl X n k).length<=n:=by
 unfold fl freeL
 rw[List.length_map]
 have:=List.length_filter_le (isB X k) (List.range n)
 rwa [List.length_range]at this
theorem fl_mem{X:Nat->Bool}{n k b:Nat}:(fl X n k).contains (b:Int)=true↔b∈freeL X n k:=by
 unfold fl
 rw[List.contains_iff_mem,List.mem_map]
 constructor
 ·rintro ⟨c,hc,e⟩
  have:c=b:=by omega
  exact this ▸ hc
 ·intro h
  exact⟨b,h,rfl⟩
def zB(n:Nat)(R:Nat->List Int):Obj:=.box [.dat (.int .i64 0),.dat (.int .i64 0),.dat (.int .i64 0),.dat (.int .i64 (n:Int)),.dat (.int .i64 0),.sl 1 0 (R 0).length,.sl 2 0 (R 1).length,.sl 3 0 (R 2).length,.sl 4 0 (R 3).length,.sl 5 0 (R 4).length]
def zO(n:Nat)(R:Nat->List Int):List Obj:=[zB n R,.row none (is64 (R 0)),.row none (is64 (R 1)),.row none (is64 (R 2)),.row none (is64 (R 3)),.row none (is64 (R 4))]
def putR(aa:List AV)(obs:List Obj)(v0:AV)(obs' ex:List Obj)(mv0:List Nat):Prop:=∃(X:Nat->Bool) (n f:Nat),1<=n/\n<=64/\f<n/\(∀i,X i=true->i<f) /\
 aa=[.ptr 0 0 0,.dat (.int .i64 (f:Int)),.dat (.int .i64 0)]/\obs=zO n (fl X n)/\v0=.tup []/\obs'=zO n (fl (addX X f) n)/\ex=[]/\mv0=[1,2,3,4,5]
abbrev tabPu:List (Nat×Contract):=[(25,dataC bsR),(29,dataC insideR),(37,lentC delR),(26,lentC insR)]
theorem tabPu_ok:OkG Try.prog (tbl tabPu):=okG_cons bsearch_ok (okG_cons inside_ok (okG_cons del_ok (okG_cons insert_ok okG_nil)))
theorem lentPu:LentFns (tbl tabPu) [37,26]:=lentFns_of fun g C hm hg=>by
 simp only[List.mem_cons,List.not_mem_nil,or_false,Prod.mk.injEq]at hm
 rcases hm with⟨rfl,rfl⟩|⟨rfl,rfl⟩|⟨rfl,rfl⟩|⟨rfl,rfl⟩
 ·simp at hg
 ·simp at hg
 ·refine⟨_,rfl,?_⟩
  rintro aa obs v0 obs' ex mv0 ⟨zs,i,j,h1,h2,rfl,rfl,rfl,rfl,rfl,rfl⟩
  refine⟨⟨_,_,_,rfl⟩,fun m hm=>(by cases hm),fun k=>?_⟩
  cases k with
  | zero=>exact⟨_,rfl⟩
  | succ k=>trivial
 ·refine⟨_,rfl,?_⟩
  rintro aa obs v0 obs' ex mv0 ⟨xs,x,h1,rfl,rfl,rfl,rfl,rfl,rfl⟩
  refine⟨⟨_,_,_,rfl⟩,fun m hm=>(by simpa using hm),fun k=>?_⟩
  rcases k with _|_|k
  ·exact⟨_,rfl⟩
  ·exact⟨_,rfl⟩
  ·trivial
theorem asD_row{own:List Obj}{o:Nat}{xs:List Int}(h:own.getD o .dead=.row none (is64 xs)):(AV.sl o 0 xs.length).asD own=some (.sl none (is64 xs)):=by
 simp only[AV.asD,h,is64_len,Nat.zero_add,Nat.le_refl,if_true,List.drop_zero]
 rw[List.take_of_length_le (by rw[is64_len];exact Nat.le_refl _)]
theorem asD_zone{own:List Obj}{n:Nat}{z0 z1 z2 z3 z4:List Int}(h0:own.getD 1 .dead=.row none (is64 z0))(h1:own.getD 2 .dead=.row none (is64 z1))(h2:own.getD 3 .dead=.row none (is64 z2))(h3:own.getD 4 .dead=.row none (is64 z3))(h4:own.getD 5 .dead=.row none (is64 z4)) :
  (AV.agg [.dat (.int .i64 0),.dat (.int .i64 0),.dat (.int .i64 0),.dat (.int .i64 (n:Int)),.dat (.int .i64 0),.sl 1 0 z0.length,.sl 2 0 z1.length,.sl 3 0 z2.length,.sl 4 0 z3.length,.sl 5 0 z4.length]).asD own=some (zD n (is64 z0) (is64 z1) (is64 z2) (is64 z3) (is64 z4)):=by
 have e:∀l:List Int,List.take l.length (is64 l)=is64 l:=fun l=>List.take_of_length_le (by rw[is64_len];exact Nat.le_refl _)
 simp only[AV.asD,AV.asD.AV.asDs,h0,h1,h2,h3,h4,is64_len,Nat.zero_add,Nat.le_refl,if_true,List.drop_zero,e,Option.bind_some,Option.map_some,zD]
theorem call_del{own:List Obj}{K:AV->List Obj->List Nat->Prop}(o:Nat){zs:List Int}{i:Nat}(ho:own[o]?=some (.row none (is64 zs)))(hi:i+1<=zs.length)
  (hK:K (.sl o 0 (zs.length - 1)) (own.set o (.row none (is64 (zs.take i++zs.drop (i+1))))) []):callw (tbl tabPu) (.fn 37 []) [.sl o 0 zs.length,.dat (.int .i64 (i:Int)),.dat (.int .i64 ((i:Int)+1))] own K:=by
 have hl:o<own.length:=by
  rcases Nat.lt_or_ge o own.length with h|h
  ·exact h
  ·rw[List.getElem?_eq_none h]at ho;cases ho
 refine call_lent delR (by simp) [o] ⟨zs,i,i+1,by omega,hi,rfl,rfl,rfl,rfl,rfl,rfl⟩ (by simp) (by simpa using hl) rfl rfl rfl (by simp[AV.unders,AV.under]) (by simp only[List.mem_singleton,forall_eq];trivial) (fun j hj=>?_) ?_
 ·obtain rfl:j=0:=by simp at hj;exact hj
  exact ho
 ·simp only[List.map_nil,List.append_nil,map_kill0]
  have e:i+1 - i=1:=by omega
  rw[e]
  exact hK
theorem call_ins{own:List Obj}{K:AV->List Obj->List Nat->Prop}(o p:Nat){zs:List Int}{x:Int}(hop:o≠p)(ho:own[o]?=some (.row none (is64 zs)))(hp:own[p]?=some (.row none [.int .i64 x]))(hl:zs.length<=1000)
  (hK:K (.sl o 0 (zs.length+1)) (((own.map (Obj.killAll [o])).set o (.row none (is64 (zs++[x])))).set p (.row none [.int .i64 x])) [o]):callw (tbl tabPu) (.fn 26 []) [.sl o 0 zs.length,.dat (.int .i64 (zs.length:Int)),.sl p 0 1] own K:=by
 have hl1:o<own.length:=by
  rcases Nat.lt_or_ge o own.length with h|h
  ·exact h
  ·rw[List.getElem?_eq_none h]at ho;cases ho
 have hl2:p<own.length:=by
  rcases Nat.lt_or_ge p own.length with h|h
  ·exact h
  ·rw[List.getElem?_eq_none h]at hp;cases hp
 rw[← is64_len zs]at hl hK ⊢
 refine call_lent insR (by simp) [o,p] ⟨is64 zs,x,hl,rfl,rfl,rfl,rfl,rfl,rfl⟩ (by simpa using hop) (by simp only[List.mem_cons,List.not_mem_nil,or_false];rintro q (rfl|rfl) <;> assumption) rfl rfl rfl (by simp[AV.unders,AV.under]) (by simp only[List.mem_cons,List.not_mem_nil,or_false,forall_eq_or_imp,forall_eq];exact⟨trivial,trivial⟩) (fun j hj=>?_) ?_
 ·have:j=0∨j=1:=by simp at hj;omega
  rcases this with rfl|rfl
  ·exact ho
  ·exact hp
 ·simp only[List.map_nil,List.append_nil]
  have e:is64 (zs++[x])=is64 zs++[.int .i64 x]:=by unfold is64;simp
  rw[e]at hK
  exact hK
theorem addMv6{o:Nat}(h:o<6):addMv 6 [] [o]=[o]:=by simp[addMv,h]
theorem post_none{P:Program}{fn:Func}{s:List AV}{own own':List Obj}{n0:Nat}{mv mvP:List Nat}{e:Exit}(he:e=.ret∨e=.normal)(hrs:fn.results.toList=[])(hm:∀o,o∈mv->o∈mvP)
  (h:Le ⟨[.tup []],own,n0,mv⟩ ⟨[.tup []],own',n0,mv⟩):post P fn (.tup []) own' mvP e ⟨s,own,n0,mv⟩:=post_resO he [] hrs hm (by simp only[go_sem];exact h)
theorem put_ok:OkF Try.prog 28 (lentC putR):=by
 refine okF_lent Try.func28 rfl (by decide) ?_
 rintro aa obs v0 obs' ex mv0 ⟨X,n,f,h1,h64,hf,hX,rfl,rfl,rfl,rfl,rfl,rfl⟩
 refine sem_of_awp (Γ:=tbl tabPu) tabPu_ok _ _ _ ?_
 unfold zO zB
 simp only[go_sem,Try.ntmps28]
 refine sem_loop (fun x:Nat×(Nat->List Int)=>⟨slotsOf 88 [(0,.ptr 0 0 0),(1,.dat (.int .i64 (blk x.1 f:Nat))),(2,.dat (.int .i64 (x.1:Int)))],zO n x.2,6,[]⟩)
  (fun x=>x.1<=4/\full (addX X f) x.1 (blk x.1 f)/\(∀j,j<x.1->x.2 j=fl (addX X f) n j)/\∀j,x.1<=j->x.2 j=fl X n j) (fun x=>4 - x.1) (0,fl X n) ?_ ?_ ?_
 ·refine⟨Nat.zero_le _,fun i hi=>?_,fun j hj=>(by simp at hj),fun j _=>rfl⟩
  simp only[Nat.pow_zero,Nat.lt_one_iff]at hi
  subst hi
  simp[blk,addX]
 ·have:blk 0 f=f:=by simp[blk]
  simp only[this]
  exact le_slots' (by simp only[go_sem,Int.natCast_zero])
 rintro ⟨k,R⟩ ⟨hk,hfull,hlo,hhi⟩
 simp only at hk hfull hlo hhi ⊢
 refine sem_of_awp (Γ:=tbl tabPu) tabPu_ok _ _ _ ?_
 have a1:=blk_le k f
 by_cases hj:k<4/\full (addX X f) (k+1) (blk (k+1) f)
 ·obtain⟨h4,hfu⟩:=hj
  obtain⟨e1,e2⟩:=free_join hX hf h4 hfull hfu
  have hp:=two_pos k
  have hb:bud k (blk k f)=blk (k+1) f:=by
   rcases bud_blk (k:=k) (f:=f) with h|h
   ·omega
   ·exact h.2
  have hx:=xor_bud h4 (f:=blk k f) (by omega)
  rw[hb]at hx
  have hal:=blk_al (k+1) f
  have hle:blk (k+1) f+2 ^ (k+1)<=n:=by
   have hq:=two_pos (k+1)
   have:=hfu (2 ^ (k+1) - 1) (by omega)
   unfold addX at this
   rcases Bool.or_eq_true_iff.1 this with h|h
   ·have:=hX _ h;omega
   ·have:blk (k+1) f+(2 ^ (k+1) - 1)=f:=by simpa using h
    omega
  have hins:insB n (blk (k+1) f) (k+1)=true:=by unfold insB;simp[hal,hle]
  obtain⟨k1,hk1⟩:∃k1,k1=k+1:=⟨_,rfl⟩
  have hin1:insB n (blk (k+1) f) k1=true:=by rw[hk1];exact hins
  have hRk:R k=fl (addX X f) n k++[((blk (k+1) f:Nat):Int)]:=by rw[hhi k (Nat.le_refl _)];unfold fl;rw[e1];simp
  have hsort:(R k).Pairwise (· <= ·):=by rw[hhi k (Nat.le_refl _)];exact fl_sorted X n k
  have hRl:(R k).length<=64:=by rw[hhi k (Nat.le_refl _)];exact Nat.le_trans (fl_len X n k) h64
  have hcnt:((R k).countP fun y=>decide (y<((blk (k+1) f:Nat):Int)))=(fl (addX X f) n k).length:=by
   have hs2:(R k).Pairwise (· < ·):=by
    rw[hhi k (Nat.le_refl _)];unfold fl;rw[List.pairwise_map]
    exact(free_sorted X n k).imp fun h=>by omega
   rw[hRk]at hs2 ⊢
   rw[List.pairwise_append]at hs2
   rw[List.countP_append,count_last fun y hy=>hs2.2.2 y hy _ (List.mem_singleton.2 rfl)]
   simp
  have hct:(R k).contains ((blk (k+1) f:Nat):Int)=true:=by rw[hRk];simp
  obtain⟨R',hR'⟩:∃R',R'=fun j=>if j=k then fl (addX X f) n k else R j:=⟨_,rfl⟩
  have next:k+1<=4/\full (addX X f) (k+1) (blk (k+1) f)/\(∀j,j<k+1->R' j=fl (addX X f) n j)/\∀j,k+1<=j->R' j=fl X n j:=by
   refine⟨by omega,hfu,fun j hj=>?_,fun j hj=>?_⟩
   ·rw[hR']
    by_cases e:j=k
    ·simp only[e,if_true]
    ·simp only[e,if_false];exact hlo j (by omega)
   ·rw[hR']
    have e:¬j=k:=by omega
    simp only[e,if_false];exact hhi j (by omega)
  have hlen:(R k).length=(fl (addX X f) n k).length+1:=by rw[hRk];simp
  rw[← hk1]at next
  have hdel:(R k).take (fl (addX X f) n k).length++(R k).drop ((fl (addX X f) n k).length+1)=fl (addX X f) n k:=by
   rw[hRk,List.drop_of_length_le (by simp),List.append_nil,List.take_left']
   rfl
  have hbn:blk (k+1) f<n:=by omega
  clear hfull hlo hhi hfu hal hle
  generalize hA:fl (addX X f) n k=A at *
  have c1:¬((blk k f:Nat):Int)<=((blk (k+1) f:Nat):Int):=by omega
  have c2:min ((blk k f:Nat):Int) ((blk (k+1) f:Nat):Int)=((blk (k+1) f:Nat):Int):=by omega
  have hFn:blk k f<n:=by omega
  generalize hbb:blk (k+1) f=b at *
  generalize hF:blk k f=F at *
  have hbk:blk k1 f=b:=by rw[hk1];exact hbb
  have hk4:k=0∨k=1∨k=2∨k=3:=by omega
  generalize hz:R k=zs at *
  rcases hk4 with rfl|rfl|rfl|rfl
  all_goals
   unfold zO zB
   simp only[hz]
   simp only[Int.natCast_zero,Int.natCast_one,Int.cast_ofNat_Int]at hx
   simp only[go_sem,hx]
   refine call_data bsR (by simp) [.sl none (is64 zs),.int .i64 (b:Int)] _ (by rw[asDL,asD_row rfl];rfl) ⟨zs,b,by omega,hsort,rfl,rfl⟩ (.inr rfl) ?_
   simp only[go_sem,hcnt,hct,c2,Bool.not_true]
   refine⟨inR_i64.2 (by omega),?_⟩
   refine call_data insideR (by simp) [zD n (is64 _) (is64 _) (is64 _) (is64 _) (is64 _),.int .i64 (b:Int),.int .i64 (k1:Int)] _ (by rw[asDL,asD_zone rfl rfl rfl rfl rfl,hk1];rfl) ⟨n,b,k1,_,_,_,_,_,h1,h64,by omega,by omega,rfl,rfl⟩ (.inr rfl) ?_
   simp only[go_sem,hin1,Bool.not_true]
   refine sem_drawL (pf:=[]) (lf:=[37,26]) 0 mixed tabPu_ok pureNo lentPu (ones [0,1,2,3,4,5,6,7,8,9,10,12,13,14,11,15]) (by kernel_rfl) ?_
   simp only[go_sem]
   refine⟨inR_i64.2 (by omega),?_⟩
   refine call_del _ rfl (by omega) ?_
   have hl1:zs.length - 1=A.length:=by omega
   simp only[go_sem,hdel,hl1,c2]
   refine⟨inR_i64.2 (by omega),(k1,R'),next,by simp only;omega,?_⟩
   simp only[hbk]
   simp only[hk1,hR']
   exact le_slots' (by simp only[go_sem])
 ·have hn:k<4->¬full (addX X f) (k+1) (blk (k+1) f):=fun h4 hh=>hj ⟨h4,hh⟩
  have hput:fl (addX X f) n k=fl X n k++[((blk k f:Nat):Int)]:=by unfold fl;rw[free_put hX hf hfull hn];simp
  have hRk:=hhi k (Nat.le_refl _)
  have hsort:(R k).Pairwise (· <= ·):=by rw[hRk];exact fl_sorted X n k
  have hRl:(R k).length<=64:=by rw[hRk];exact Nat.le_trans (fl_len X n k) h64
  have hcnt:((R k).countP fun y=>decide (y<((blk k f:Nat):Int)))=(R k).length:=by
   refine count_last fun y hy=>?_
   rw[hRk]at hy
   unfold fl at hy
   obtain⟨c,hc,rfl⟩:=List.mem_map.1 hy
   have hb:=(free_mem.1 hc).2
   rcases Nat.lt_or_ge c (blk k f) with h|h
   ·omega
   ·rw[isB_ge hX h]at hb;cases hb
  have hbud:k<4->(R k).contains ((bud k (blk k f):Nat):Int)=false:=fun h4=>by
   rw[Bool.eq_false_iff]
   intro hc
   rw[hRk]at hc
   have hm:=free_full (fl_mem.1 hc)
   have hp:=two_pos k
   rcases bud_blk (k:=k) (f:=f) with⟨g1,g2⟩|⟨g1,g2⟩
   ·rw[g2]at hm
    have:=hX _ (hm 0 hp)
    have:=blk_lt k f
    omega
   ·rw[g2]at hm
    exact hn h4 ((buddy_full hX hfull).2 ⟨g1,hm⟩)
  obtain⟨R',hR'⟩:∃R',R'=fun j=>if j=k then fl X n k++[((blk k f:Nat):Int)] else R j:=⟨_,rfl⟩
  have hfin:∀j,j<=4->fl (addX X f) n j=R' j:=fun j h4=>by
   rw[hR']
   rcases Nat.lt_trichotomy j k with h|h|h
   ·have e:¬j=k:=by omega
    simp only[e,if_false]
    exact(hlo j h).symm
   ·subst h
    simp only[if_true]
    exact hput
   ·have e:¬j=k:=by omega
    simp only[e,if_false]
    rw[hhi j (by omega)]
    unfold fl freeL
    congr 1
    refine List.filter_congr fun b hb=>isB_far hX fun i hi=>?_
    refine not_up hX (hn (by omega)) i (by omega)
  have f0:=hfin 0 (by omega)
  have f1:=hfin 1 (by omega)
  have f2:=hfin 2 (by omega)
  have f3:=hfin 3 (by omega)
  have f4:=hfin 4 (by omega)
  have hx:k<4->bitsV .xor .i64 ((blk k f:Nat):Int) (shlV .i64 1 (k:Int))=((bud k (blk k f):Nat):Int):=fun h4=>xor_bud h4 (by omega)
  have hFn:blk k f<n:=by omega
  rw[← hRk]at hR'
  clear hfull hlo hhi hn hput hRk hfin hj
  generalize blk k f=F at *
  generalize bud k F=Bd at *
  have hk5:k=0∨k=1∨k=2∨k=3∨k=4:=by omega
  generalize hz:R k=zs at *
  have hzl:=is64_len zs
  rcases hk5 with rfl|rfl|rfl|rfl|rfl
  all_goals
   unfold zO zB
   simp only[hz]
   first
    | (
     have hx:=hx (by omega)
     have hbud:=hbud (by omega)
     simp only[Int.natCast_zero,Int.natCast_one,Int.cast_ofNat_Int]at hx
     simp only[go_sem,hx]
     refine call_data bsR (by simp) [.sl none (is64 zs),.int .i64 (Bd:Int)] _ (by rw[asDL,asD_row rfl];rfl) ⟨zs,Bd,by omega,hsort,rfl,rfl⟩ (.inr rfl) ?_
     simp only[go_sem,hbud,Bool.not_false])
    | simp only[go_sem]
   refine call_data bsR (by simp) [.sl none (is64 zs),.int .i64 (F:Int)] _ (by rw[asDL,asD_row rfl];rfl) ⟨zs,F,by omega,hsort,rfl,rfl⟩ (.inr rfl) ?_
   simp only[go_sem,hcnt]
   refine sem_drawL (pf:=[]) (lf:=[37,26]) 0 mixed tabPu_ok pureNo lentPu (ones [0,1,2,3,4,5,6,7,8,9,12,13,14,10,11,15]) (by kernel_rfl) ?_
   simp only[go_sem]
   refine⟨fun d hd=>by (rw[List.mem_singleton]at hd;subst hd;exact⟨rfl,rfl⟩),?_⟩
   refine call_ins _ _ (by decide) rfl rfl (by omega) ?_
   simp only[go_sem,Obj.killAll,killAll]
   simp only[f0,f1,f2,f3,f4,hR']
   simp only[go_sem,addMv6,Nat.reduceLT,List.length_append,List.length_singleton]
   refine post_none (.inr rfl) rfl (fun o ho=>?_) (le_end (own:=[_,_,_,_,_,_]) (ex:=[_]) (by simp) (by simp only[go_sem]) (by simp only[go_sem]) (by simp only[go_sem,Obj.under,AV.unders,AV.under]))
   rw[List.mem_singleton]at ho
   subst ho
   decide
end Go.AM

