/- Own work over the model of the kit. -/
import Derived.Test.YtddnngfkgpbemaaE12
import Derived.Shelf.SlSortCmp.KitK
import Derived.Shelf.SlSortCmp.InsertionK
import Derived.Test.YtddnngfkgpbemaaE7
import Derived.Test.YtddnngfkgpbemaaE10
import Derived.Test.YtddnngfkgpbemaaProg
import Derived.Test.YtddnngfkgpbemaaE4
set_option linter.unnecessarySimpa false
set_option linter.unusedSimpArgs false
set_option linter.unusedVariables false
set_option maxRecDepth 8000
namespace Go.AM
private theorem eqk {α:Sort _} {a b:α} (h:a=b):a=b:=Eq.trans h (Eq.refl _)
open Go Go.Proofs Go.Sort Go.Shelf
def Elm(k:Nat):Type:={l:List Int // l.length=k/\∀z∈l,inR .i64 z}
instance {k:Nat}:Inhabited (Elm k):=⟨⟨List.replicate k 0,by simp,fun z hz=>by rw[List.eq_of_mem_replicate hz];exact inR_i64.2 (by omega)⟩⟩
def Elm.enc{k:Nat}(x:Elm k):List Value:=x.1.map (Value.int .i64)
def Elm.d{k:Nat}(x:Elm k):D:=.agg (x.1.map (D.int .i64))
theorem Elm.enc_len{k:Nat}(x:Elm k):x.enc.length=k:=by unfold Elm.enc;rw[List.length_map];exact x.2.1
theorem Elm.enc_one{k:Nat}(x:Elm k):∀v∈x.enc,v.oneCell'=true:=fun v hv=>by
 unfold Elm.enc at hv
 obtain⟨z,_,rfl⟩:=List.mem_map.1 hv
 rfl
theorem elm_Cs{F:Nat->Prop}{w:World}:∀(l:List Int),(∀z∈l,inR .i64 z)->D.Cs F w (l.map (D.int .i64)) (l.map (Value.int .i64))
 | [],_=>by simp only[List.map_nil,D.Cs]
 | z :: l,h=>by
  simp only[List.map_cons,D.Cs]
  exact⟨_,_,rfl,rfl,by simp only[D.C];exact⟨trivial,h z (by simp)⟩,elm_Cs l fun y hy=>h y (by simp[hy])⟩
theorem elm_Cs'{F:Nat->Prop}{w:World}:∀(l:List Int) (cs:List Value),D.Cs F w (l.map (D.int .i64)) cs->cs=l.map (Value.int .i64)
 | [],cs,h=>by simpa only[List.map_nil,D.Cs] using h
 | z :: l,cs,h=>by
  simp only[List.map_cons,D.Cs]at h
  obtain⟨c,cs',rfl,_,h1,h2⟩:=h
  rw[elm_Cs' l cs' h2]
  simp only[D.C,List.cons.injEq]at h1
  simp only[List.map_cons,h1.1.1]
theorem Elm.C{k:Nat}{F:Nat->Prop}{w:World}(x:Elm k):D.C F w x.d x.enc:=by
 unfold Elm.d Elm.enc
 simp only[D.C]
 exact elm_Cs _ x.2.2
theorem Elm.C'{k:Nat}{F:Nat->Prop}{w:World}(x:Elm k){cs:List Value}(h:D.C F w x.d cs):cs=x.enc:=by
 unfold Elm.d at h
 simp only[D.C]at h
 exact elm_Cs' _ _ h
theorem grown_of_after{F F':Nat->Prop}{φ':Nat->Option Loc}{own':List Go.AM.Obj}{W W':World}{mv:List Nat}(h:After F (fun _=>none) W F' φ' own' W' mv):∃q os',W'=grow (W.drewN q) os':=by
 refine⟨W'.drawn - W.drawn,W'.heap.extract W.heap.size W'.heap.size,?_⟩
 have h1:=h.ext.os;have h2:=h.ext.tape;have h3:=h.ext.output;have h4:=h.ext.size;have h5:=h.ext.drn
 have hh:W'.heap=W.heap++W'.heap.extract W.heap.size W'.heap.size:=by
  apply Array.ext_getElem?
  intro i
  by_cases hi:i<W.heap.size
  ·rw[Array.getElem?_append_left hi,h.rest i hi (fun o L ho=>by cases ho)]
  ·rw[Array.getElem?_append_right (by omega),Array.getElem?_extract]
   by_cases h6:i<W'.heap.size
   ·rw[if_pos (by simp;omega)]
    congr 1
    omega
   ·rw[if_neg (by simp;omega),Array.getElem?_eq_none (by omega)]
 cases W;cases W'
 simp only at h1 h2 h3 h4 h5 hh
 subst h1 h2 h3
 unfold grow World.drewN
 simp only[World.mk.injEq,true_and,and_true]
 exact⟨hh,by omega⟩
def cmpER(k:Nat)(cf:Elm k->Elm k->Int)(ds:List D)(v:AV):Prop:=∃x y:Elm k,ds=[x.d,y.d]/\v=.dat (.int .i64 (cf x y))
def srtE{k:Nat}(cf:Elm k->Elm k->Int)(L:List (Elm k)):List (Elm k):=L.mergeSort fun x y=>!(ltOf cf) y x
def sortER(k g:Nat)(cf:Elm k->Elm k->Int)(aa:List AV)(obs:List Go.AM.Obj)(v0:AV)(obs' ex:List Go.AM.Obj)(mv0:List Nat):Prop :=
 ∃L:List (Elm k),L.length<=1000000/\aa=[.sl 0 0 L.length,.fn g []]/\obs=[.row (some k) (L.map Elm.d)]/\v0=.tup []/\obs'=[.row (some k) ((srtE cf L).map Elm.d)]/\ex=[]/\mv0=[]
theorem getBangList{α:Type}[Inhabited α](L:List α)(i:Nat)(h:i<L.length):(L.toArray[i]!)=L[i]:=by
 rw[getElem!_pos L.toArray i (by simpa using h)]
 simp
theorem holdsK_row{k:Nat}{F:Nat->Prop}{w:World}{b base:Nat}{L:List (Elm k)}{arr:Array Value}{ty:TypeId}(hb:w.heap[b]?=some (.cells arr ty (0,0)))(h:D.Cr F w (some k) b base (L.map Elm.d)):HoldsK Elm.enc k w b base L.toArray:=by
 intro t ht
 rw[size_flatK]at ht
 have hsz:L.toArray.size=L.length:=by simp
 rw[hsz]at ht
 have hk:0<k:=by
  rcases Nat.eq_zero_or_pos k with e|e
  ·subst e;simp at ht
  ·exact e
 have hi:t / k<L.length:=Nat.div_lt_of_lt_mul (by rw[Nat.mul_comm];exact ht)
 have hj:t % k<k:=Nat.mod_lt _ hk
 obtain⟨cs,h1,h2,_,h4⟩:=D.Cr_get _ _ _ _ h (t / k) (L[t / k].d) (by simp[hi])
 have hcs:=Elm.C' _ h4
 subst hcs
 constructor
 ·rw[get_flatK _ _ _ _ (by rw[hsz];exact ht)]
  have:=h2 (t % k) hj
  have e:base+t / k*es (some k)+t % k=base+t:=by
   show base+t / k*k+t % k=base+t
   have:=Nat.div_add_mod t k
   rw[Nat.mul_comm]at this
   omega
  rw[e]at this
  rw[this,getBangList L _ hi]
  have hlt:t % k<(L[t / k].enc).length:=by rw[Elm.enc_len];exact hj
  rw[List.getElem?_eq_getElem hlt,getElem!_pos (L[t / k].enc) (t % k) hlt]
  rfl
 ·simp[World.frozen?,hb]
end Go.AM
namespace Go.AM
open Go Go.Proofs Go.Sort Go.Shelf
theorem sw_heap{k:Nat}{w:World}{blk off m:Nat}{dk:Array (Elm k)}{os:Array Go.Obj}(b:Nat)(hb:b<w.heap.size):(sortWorldK Elm.enc k w blk off m dk os).heap[b]?=(w.heap[b]?).map fun o=>if b=blk then onCells (putCells id off (flatK Elm.enc k dk)) o else o:=by
 unfold sortWorldK grow putRowK putRow mapBlock Sort.ahead
 show ((w.heap.modify blk _)++os)[b]?=_
 rw[Array.getElem?_append_left (by simpa using hb),Array.getElem?_modify]
 by_cases e:blk=b
 ·subst e
  simp
 ·rw[if_neg e]
  have e':¬b=blk:=fun h=>e h.symm
  simp[e']
theorem sw_size{k:Nat}{w:World}{blk off m:Nat}{dk:Array (Elm k)}{os:Array Go.Obj}:w.heap.size<=(sortWorldK Elm.enc k w blk off m dk os).heap.size:=size_sortWorldK_c Elm.enc k w blk off m dk os
theorem sw_same{k:Nat}{F:Nat->Prop}{w:World}{blk off m:Nat}{dk:Array (Elm k)}{os:Array Go.Obj}(hF:∀b,F b->b<w.heap.size)(hb:¬F blk):Same F w (sortWorldK Elm.enc k w blk off m dk os):=fun b hFb=>by
 rw[sw_heap b (hF b hFb)]
 have:¬b=blk:=fun e=>hb (e ▸ hFb)
 simp[this]
theorem cmp_lays{P:Program}{k g:Nat}{cf:Elm k->Elm k->Int}(hcmp:OkF P g (dataC (cmpER k cf))){F:Nat->Prop}{φ:Nat->Option Loc}{own:List Go.AM.Obj}{w:World}(hc:Conc F φ own w){blk off size:Nat}(hblk:¬F blk) :
  CmpLays P g #[] Elm.enc k cf blk off size w:=by
 intro m os dk hdk x y
 have hsame:=sw_same (w:=w) (off:=off) (m:=m) (dk:=dk) (os:=os) hc.fb hblk
 have hc0:Conc F (fun _=>none) [] (sortWorldK Elm.enc k w blk off m dk os) :=
  ⟨fun b hb=>Nat.lt_of_lt_of_le (hc.fb b hb) sw_size,(fun _ _ h=>by cases h),(fun _ _ _ _ h=>by cases h),(fun _ _ h=>by simp at h),(fun _ _=>rfl),hc.glob.mono (fun _ h=>h) hsame⟩
 have hs:AV.Rs F (fun _=>none) (sortWorldK Elm.enc k w blk off m dk os) [.dat x.d,.dat y.d] [.agg x.enc.toArray,.agg y.enc.toArray]:=by
  simp only[AV.Rs,AV.R]
  refine⟨_,_,rfl,?_,_,_,rfl,?_,rfl⟩
  ·unfold Elm.d;simp only[D.R];exact⟨_,rfl,elm_Cs _ x.2.2⟩
  ·unfold Elm.d;simp only[D.R];exact⟨_,rfl,elm_Cs _ y.2.2⟩
 obtain⟨_,hcall⟩:=hcmp [.dat x.d,.dat y.d] [] (.dat (.int .i64 (cf x y))) [] [] ⟨[x.d,y.d],rfl,⟨x,y,rfl,rfl⟩,rfl,rfl,.inl rfl⟩
 refine(hcall F (fun _=>none) _ _ hc0 hs).mono ?_
 rintro e w' ⟨r,F',φ',rfl,ha,hr⟩
 simp only[AV.R,D.R,D.C,List.cons.injEq,and_true]at hr
 exact⟨by rw[hr.1],grown_of_after ha⟩
theorem row_holdsK{k:Nat}{F:Nat->Prop}{w:World}{b base:Nat}{L:List (Elm k)}(hk:0<k)(h:HoldsK Elm.enc k w b base L.toArray):D.Cr F w (some k) b base (L.map Elm.d):=by
 refine D.Cr_of_get _ _ _ _ fun i d hd=>?_
 rw[List.getElem?_map,Option.map_eq_some_iff]at hd
 obtain⟨x,hx,rfl⟩:=hd
 have hi:i<L.length:=(List.getElem?_eq_some_iff.1 hx).1
 refine⟨x.enc,Elm.enc_len x,fun j hj=>?_,rfl,Elm.C x⟩
 have hj':j<k:=hj
 have hlt:i*k+j<(flatK Elm.enc k L.toArray).size:=by
  rw[size_flatK]
  have:(i+1)*k<=L.length*k:=Nat.mul_le_mul_right k hi
  rw[Nat.succ_mul]at this
  simp
  omega
 have h1:=(h (i*k+j) hlt).1
 rw[size_flatK]at hlt
 rw[get_flatK _ _ _ _ hlt]at h1
 have e1:(i*k+j) / k=i:=by rw[Nat.mul_comm,Nat.mul_add_div hk,Nat.div_eq_of_lt hj'];omega
 have e2:(i*k+j) % k=j:=by rw[Nat.mul_comm,Nat.mul_add_mod,Nat.mod_eq_of_lt hj']
 rw[e1,e2,getBangList L i hi]at h1
 have e3:L[i]=x:=by rw[List.getElem?_eq_getElem hi]at hx;exact Option.some.inj hx
 rw[e3]at h1
 have hl:j<x.enc.length:=by rw[Elm.enc_len];exact hj'
 rw[getElem!_pos x.enc j hl]at h1
 rw[List.getElem?_eq_getElem hl,← Nat.add_assoc]at *
 exact h1
theorem srtE_len{k:Nat}(cf:Elm k->Elm k->Int)(L:List (Elm k)):(srtE cf L).length=L.length:=by unfold srtE;exact List.length_mergeSort ..
theorem sortE_of {P : Program} {k f g : Nat} {fn : Func} {body : Code} (hk : 0 < k) (hf : P.funcs[f]? = some fn) (hb : fn.body = some body) (hname : fn.name ≠ "runtime.NumGoroutine") (cf : Elm k -> Elm k -> Int) (hcmp : OkF P g (dataC (cmpER k cf)))
  (hS:∀(blk off cap:Nat) (d:Array (Elm k)) (w:World),CmpLays P g #[] Elm.enc k cf blk off d.size w->HoldsK Elm.enc k w blk off d->blk<w.heap.size->d.size<4611686018427387904 ->
   Calls P f #[.slice (some ⟨blk,off,none⟩) d.size cap,.func (.func g) #[] #[]] w fun e w'=>e=.returned (.tuple #[])/\∃n os,w'=sortWorldK Elm.enc k w blk off n (srtE cf d.toList).toArray os)
  (hN:∀(p:Option Addr) (cap:Nat) (fv:Value) (w:World),Calls P f #[.slice p 0 cap,fv] w fun e w'=>e=.returned (.tuple #[])/\w'=w):OkF P f (lentC (sortER k g cf)):=by
 refine okF_lent_raw hf hb hname ?_
 rintro aa obs v0 obs' ex mv0 ⟨L,hL,rfl,rfl,rfl,rfl,rfl,rfl⟩ F φ w vs h0 hc hs
 simp only[AV.Rs,AV.R]at hs
 obtain⟨v1,vs1,rfl,⟨Lc,hφ,hv1⟩,v2,vs2,rfl,⟨caps,rfl,rfl⟩,rfl⟩:=hs
 have hrep:=hc.rep 0 _ rfl
 rw[hφ]at hrep
 simp only[ObjR]at hrep
 obtain⟨hsz,hrep⟩:=hrep
 have hes:es (some k)=k:=rfl
 have fin:∀w',w'=w->L=[]->∃r F' φ',(Ending.returned (.tuple #[]):Ending)=.returned r/\After F φ w F' φ' ([.row (some k) ((srtE cf L).map Elm.d)]++[]) w' []/\AV.R F' φ' w' (.tup []) r:=by
  rintro w' rfl rfl
  have e0:srtE cf []=[]:=List.eq_nil_of_length_eq_zero (srtE_len cf [])
  rw[e0]
  exact⟨_,F,φ,rfl,After.refl hc,by simp only[AV.R,AV.Rs];exact⟨[],rfl,rfl⟩⟩
 rcases hv1 with⟨hn,_,hlen,rfl⟩|⟨hn,c,cap,rfl,hcap,hmax,hoff,hroom⟩
 ·refine(hN none 0 _ w).mono ?_
  rintro e w' ⟨rfl,hw⟩
  exact fin w' hw (List.eq_nil_of_length_eq_zero hlen)
 by_cases hL0:L=[]
 ·subst hL0
  refine(hN _ cap _ w).mono ?_
  rintro e w' ⟨rfl,hw⟩
  exact fin w' hw rfl
 have hLpos:0<L.length:=List.length_pos_iff.2 hL0
 have hoff2:c=Lc.base:=by
  rcases hoff with h|h
  ·omega
  ·omega
 subst hoff2
 rcases hrep with⟨h,_⟩|⟨_,⟨arr,ty,hheap,harr⟩,hroom2,hCr⟩
 ·rw[h]at hn;cases hn
 have hlive:=hc.live 0 Lc hφ hn
 have hH:=holdsK_row hheap hCr
 have hcl:=cmp_lays hcmp hc (blk:=Lc.b) (off:=Lc.base) (size:=L.toArray.size) hlive.1
 have hcall:=hS Lc.b Lc.base cap L.toArray w hcl hH hlive.2 (by simp;omega)
 have hszL:L.toArray.size=L.length:=by simp
 rw[hszL]at hcall
 refine hcall.mono ?_
 rintro e w' ⟨rfl,n,os,hw⟩
 refine⟨_,F,φ,rfl,?_,by simp only[AV.R,AV.Rs];exact⟨[],rfl,rfl⟩⟩
 have hT:L.toArray.toList=L:=by simp
 rw[hT]at hw
 have hlenT:=srtE_len cf L
 generalize srtE cf L=T at *
 have hsame:Same F w w':=by rw[hw];exact sw_same hc.fb hlive.1
 have hold:∀b,b<w.heap.size->b≠Lc.b->w'.heap[b]?=w.heap[b]?:=fun b hb hne=>by
  rw[hw,sw_heap b hb]
  simp[hne]
 have hsize:w.heap.size<=w'.heap.size:=by rw[hw];exact sw_size
 have hnew:w'.heap[Lc.b]?=some (.cells (putCells id Lc.base (flatK Elm.enc k T.toArray) arr) ty (0,0)):=by
  rw[hw,sw_heap _ hlive.2,hheap]
  simp[onCells]
 have hHT:HoldsK Elm.enc k w' Lc.b Lc.base T.toArray:=by
  rw[hw];exact holdsK_sortWorldK_c Elm.enc k w Lc.b Lc.base L.toArray T.toArray n os hH hlive.2 (by simp[hlenT])
 have hrow:ObjR F φ w' (some Lc) (.row (some k) (T.map Elm.d)):=by
  simp only[ObjR]
  refine⟨hsz,.inr ⟨hn,⟨_,_,hnew,by simpa [putCells] using harr⟩,by simpa [hlenT] using hroom2,row_holdsK hk hHT⟩⟩
 refine⟨fun _ h=>h,⟨by rw[hw];rfl,by rw[hw];rfl,by rw[hw];rfl,hsize,hsame,by rw[hw];exact Nat.le_add_right _ _⟩,?_,fun _ _ _ h=>h,fun b hb hall=>hold b hb (fun e=>hall 0 Lc hφ hn e.symm),fun o L' ho hn'=>.inr ⟨o,L',ho,hn',rfl⟩,fun b hb=>.inl hb⟩
 refine⟨fun b hb=>Nat.lt_of_lt_of_le (hc.fb b hb) hsize,fun o L' ho hn'=>⟨(hc.live o L' ho hn').1,Nat.lt_of_lt_of_le (hc.live o L' ho hn').2 hsize⟩,hc.inj,fun o obj ho=>?_,fun o ho=>hc.out o (by simpa using ho),hc.glob.mono (fun _ h=>h) hsame⟩
 rcases o with _|o
 ·simp only[List.append_nil,List.getElem?_cons_zero,Option.some.injEq]at ho
  subst ho
  rw[hφ]
  exact hrow
 ·simp at ho
end Go.AM
namespace Go.AM
open Go Go.Proofs Go.Sort
def lexC:List Nat->List Int->List Int->Int
 | [],_,_=>0
 | p :: ps,x,y=>if x.getD p 0<y.getD p 0 then -1 else if y.getD p 0<x.getD p 0 then 1 else lexC ps x y
theorem lexC_self:∀(ps:List Nat) (x:List Int),lexC ps x x=0
 | [],_=>rfl
 | p :: ps,x=>by unfold lexC;rw[if_neg (by omega),if_neg (by omega)];exact lexC_self ps x
theorem lexC_zero:∀{ps:List Nat} {x y:List Int},lexC ps x y=0->∀p∈ps,x.getD p 0=y.getD p 0
 | [],_,_,_,p,h=>by cases h
 | q :: ps,x,y,h,p,hp=>by
  unfold lexC at h
  split at h
  ·omega
  split at h
  ·omega
  rcases List.mem_cons.1 hp with rfl|hp
  ·omega
  ·exact lexC_zero h p hp
theorem lexC_neg:∀(ps:List Nat) (x y:List Int),lexC ps y x=-lexC ps x y
 | [],_,_=>rfl
 | p :: ps,x,y=>by
  have:=lexC_neg ps x y
  unfold lexC
  by_cases h1:x.getD p 0<y.getD p 0
  ·have h2:¬y.getD p 0<x.getD p 0:=by omega
   simp only[h1,h2,if_true,if_false,if_neg]
   omega
  ·by_cases h2:y.getD p 0<x.getD p 0
   ·simp only[h1,h2,if_true,if_false]
   ·simp only[h1,h2,if_false];exact this
theorem lexC_le:∀{ps:List Nat} {x y z:List Int},lexC ps x y<=0->lexC ps y z<=0->lexC ps x z<=0/\(lexC ps x y<0∨lexC ps y z<0->lexC ps x z<0)
 | [],_,_,_,_,_=>⟨Int.le_refl _,fun h=>h.elim (fun h=>h) fun h=>h⟩
 | p :: ps,x,y,z,h1,h2=>by
  unfold lexC at h1 h2 ⊢
  by_cases a1:x.getD p 0<y.getD p 0
  ·have a3:¬z.getD p 0<y.getD p 0:=fun h=>by
    rw[if_neg (by omega),if_pos h]at h2;omega
   have a4:x.getD p 0<z.getD p 0:=by omega
   simp only[a4,if_true]
   exact⟨by omega,fun _=>by omega⟩
  ·rw[if_neg a1]at h1
   by_cases a2:y.getD p 0<x.getD p 0
   ·rw[if_pos a2]at h1;omega
   rw[if_neg a2]at h1
   by_cases b1:y.getD p 0<z.getD p 0
   ·have a4:x.getD p 0<z.getD p 0:=by omega
    simp only[a4,if_true]
    exact⟨by omega,fun _=>by omega⟩
   rw[if_neg b1]at h2
   by_cases b2:z.getD p 0<y.getD p 0
   ·rw[if_pos b2]at h2;omega
   rw[if_neg b2]at h2
   have c1:¬x.getD p 0<z.getD p 0:=by omega
   have c2:¬z.getD p 0<x.getD p 0:=by omega
   have:=lexC_le h1 h2
   simp only[a1,a2,b1,b2,c1,c2,if_false]
   exact this
def lexE(k:Nat)(ps:List Nat)(x y:Elm k):Int:=lexC ps x.1 y.1
theorem lexE_swo(k:Nat)(ps:List Nat):SWO (ltOf (lexE k ps)) where
 irrefl x:=by unfold ltOf lexE;rw[lexC_self];rfl
 trans x y z h1 h2:=by
  unfold ltOf lexE at *
  simp only[decide_eq_true_eq]at *
  exact(lexC_le (by omega) (by omega)).2 (.inl h1)
 ntrans x y z h1 h2:=by
  unfold ltOf lexE at *
  simp only[decide_eq_false_iff_not]at *
  have e1:=lexC_neg ps x.1 y.1;have e2:=lexC_neg ps y.1 z.1;have e3:=lexC_neg ps x.1 z.1
  have:=(lexC_le (ps:=ps) (x:=z.1) (y:=y.1) (z:=x.1) (by omega) (by omega)).1
  omega
theorem lexE_total{k:Nat}{ps:List Nat}(hps:∀p,p<k->p∈ps)(x y:Elm k)(h1:ltOf (lexE k ps) x y=false)(h2:ltOf (lexE k ps) y x=false):x=y:=by
 unfold ltOf lexE at *
 simp only[decide_eq_false_iff_not]at *
 have e1:=lexC_neg ps x.1 y.1
 have h0:=lexC_zero (ps:=ps) (x:=x.1) (y:=y.1) (by omega)
 apply Subtype.ext
 apply List.ext_getElem (by rw[x.2.1,y.2.1])
 intro i a b
 have:=h0 i (hps i (by rw[x.2.1]at a;exact a))
 rw[List.getD_eq_getElem?_getD,List.getD_eq_getElem?_getD,List.getElem?_eq_getElem a,List.getElem?_eq_getElem b]at this
 exact this
end Go.AM
namespace Go.AM
open Go Go.Proofs Go.Sort
structure FR where
 f:Int
 i:Int
 s:Int
 d:Bool
deriving DecidableEq,Inhabited
def FR.clean(x:FR):FR:=⟨x.f,x.i,x.s,false⟩
def oldN(l:List FR):Nat->Int
 | 0=>-1
 | k+1=>let a:=oldN l k;if (l.getD k default).d=true/\(a<0∨(l.getD k default).s<(l.getD a.toNat default).s) then (k:Int) else a
def cntF(l:List FR):Nat:=(l.filter (·.d)).length
theorem oldN_spec(l:List FR):∀k,k<=l.length->(oldN l k=-1/\∀j,j<k->(l.getD j default).d=false)∨(∃a:Nat,oldN l k=a/\a<k/\(l.getD a default).d=true/\∀j,j<k->(l.getD j default).d=true->(l.getD a default).s<=(l.getD j default).s)
 | 0,_=>.inl ⟨rfl,fun j h=>by omega⟩
 | k+1,hk=>by
  have ih:=oldN_spec l k (by omega)
  unfold oldN
  simp only
  rcases ih with⟨h1,h2⟩|⟨a,h1,h2,h3,h4⟩
  ·rw[h1]
   cases hd:(l.getD k default).d with
   | true =>
    rw[if_pos ⟨rfl,.inl (by omega)⟩]
    refine .inr ⟨k,rfl,by omega,hd,fun j hj hjd=>?_⟩
    rcases Nat.lt_or_ge j k with h|h
    ·rw[h2 j h]at hjd;cases hjd
    ·obtain rfl:j=k:=by omega
     exact Int.le_refl _
   | false =>
    rw[if_neg (fun h=>by cases h.1)]
    refine .inl ⟨rfl,fun j hj=>?_⟩
    rcases Nat.lt_or_ge j k with h|h
    ·exact h2 j h
    ·obtain rfl:j=k:=by omega
     exact hd
  ·rw[h1]
   cases hd:(l.getD k default).d with
   | true =>
    by_cases hs:(l.getD k default).s<(l.getD a default).s
    ·rw[if_pos ⟨rfl,.inr (by rw[Int.toNat_natCast];exact hs)⟩]
     refine .inr ⟨k,rfl,by omega,hd,fun j hj hjd=>?_⟩
     rcases Nat.lt_or_ge j k with h|h
     ·have:=h4 j h hjd;omega
     ·obtain rfl:j=k:=by omega
      exact Int.le_refl _
    ·rw[if_neg (fun h=>h.2.elim (fun h=>by omega) fun h=>hs (by rw[Int.toNat_natCast]at h;exact h))]
     refine .inr ⟨a,rfl,by omega,h3,fun j hj hjd=>?_⟩
     rcases Nat.lt_or_ge j k with h|h
     ·exact h4 j h hjd
     ·obtain rfl:j=k:=by omega
      omega
   | false =>
    rw[if_neg (fun h=>by cases h.1)]
    refine .inr ⟨a,rfl,by omega,h3,fun j hj hjd=>?_⟩
    rcases Nat.lt_or_ge j k with h|h
    ·exact h4 j h hjd
    ·obtain rfl:j=k:=by omega
     rw[hd]at hjd;cases hjd
def timesF(l:List FR):List Int:=(l.filter (·.d)).map (·.s)
end Go.AM
namespace Go.AM
open Go Go.Proofs Go.Sort
theorem lexC_first{p:Nat}{ps:List Nat}{x y:List Int}(h:lexC (p :: ps) x y<=0):x.getD p 0<=y.getD p 0:=by
 unfold lexC at h
 split at h
 ·omega
 split at h
 ·omega
 ·omega
theorem srtE_perm{k:Nat}(cf:Elm k->Elm k->Int)(L:List (Elm k)):(srtE cf L).Perm L:=List.mergeSort_perm _ _
theorem srtE_sorted{k:Nat}{ps:List Nat}(L:List (Elm k)):(srtE (lexE k ps) L).Pairwise fun x y=>lexC ps x.1 y.1<=0:=by
 have hO:=lexE_swo k ps
 have h:=List.pairwise_mergeSort (le:=fun x y:Elm k=>!(ltOf (lexE k ps)) y x) (fun a b c h1 h2=>by
  simp only[Bool.not_eq_true']at h1 h2 ⊢
  exact hO.ntrans c b a h2 h1) (fun a b=>by
  cases h1:(ltOf (lexE k ps)) b a with
  | false=>rfl
  | true =>
   cases h2:(ltOf (lexE k ps)) a b with
   | false=>rfl
   | true =>
    have:=hO.trans a b a h2 h1
    rw[hO.irrefl]at this
    cases this) L
 refine h.imp fun {x y} hxy=>?_
 simp only[Bool.not_eq_true']at hxy
 unfold ltOf lexE at hxy
 simp only[decide_eq_false_iff_not]at hxy
 have:=lexC_neg ps x.1 y.1
 omega
theorem srt_times{k p:Nat}{ps:List Nat}(L:List (Elm k)):((srtE (lexE k (p :: ps)) L).map fun x=>x.1.getD p 0).Pairwise (· <= ·)/\((srtE (lexE k (p :: ps)) L).map fun x=>x.1.getD p 0).Perm (L.map fun x=>x.1.getD p 0) :=
 ⟨List.pairwise_map.2 ((srtE_sorted L).imp fun h=>lexC_first h),(srtE_perm _ L).map _⟩
end Go.AM
namespace Go.AM
open Go Go.Proofs Go.Sort
structure SK where
 f:Int
 i:Int
 s:Int
 c:Bool
def SK.ok(x:SK):Prop:=0<=x.f/\x.f<256/\0<=x.i/\x.i<256/\0<=x.s/\x.s<256
def skD(x:SK):D:=.agg [.int .u8 x.f,.int .u8 x.i,.int .u8 x.s,.bool x.c]
def skF(x:SK):FR:=⟨x.f % 4,x.i % 16,x.s,!x.c⟩
def frHas(acc:List FR)(f i:Int):Bool:=acc.any fun y=>decide (y.f=f) && decide (y.i=i)
def frStep(acc:List FR)(x:SK):List FR:=if frHas acc (x.f % 4) (x.i % 16) then acc else acc++[skF x]
def frs(l:List SK):List FR:=l.foldl frStep []
theorem frs_snoc(l:List SK)(x:SK):frs (l++[x])=frStep (frs l) x:=by simp[frs,List.foldl_append]
theorem frs_take{l:List SK}{k:Nat}(h:k<l.length):frs (l.take (k+1))=frStep (frs (l.take k)) l[k]:=by
 rw[List.take_succ_eq_append_getElem h,frs_snoc]
def FR.ok(x:FR):Prop:=0<=x.f/\x.f<4/\0<=x.i/\x.i<16/\0<=x.s/\x.s<256
def plc(x:FR):Int×Int:=(x.f,x.i)
theorem frHas_false{acc:List FR}{f i:Int}(h:frHas acc f i=false):(f,i)∉acc.map plc:=by
 intro hm
 obtain⟨y,hy,he⟩:=List.mem_map.1 hm
 unfold frHas at h
 have:=List.any_eq_false.1 h y hy
 simp only[plc,Prod.mk.injEq]at he
 simp[he.1,he.2]at this
def FInv(n:Nat)(acc:List FR):Prop:=acc.length<=n/\(∀x∈acc,x.ok)/\(acc.map plc).Nodup
theorem skF_ok{x:SK}(h:x.ok):(skF x).ok:=by
 obtain⟨h1,h2,h3,h4,h5,h6⟩:=h
 unfold FR.ok skF
 simp only
 omega
theorem frStep_inv{n:Nat}{acc:List FR}{x:SK}(hx:x.ok)(h:FInv n acc):FInv (n+1) (frStep acc x):=by
 obtain⟨h1,h2,h3⟩:=h
 unfold frStep
 cases hh:frHas acc (x.f % 4) (x.i % 16) with
 | true=>rw[if_pos rfl];exact⟨by omega,h2,h3⟩
 | false =>
  rw[if_neg (by simp)]
  refine⟨by simp;omega,fun y hy=>?_,?_⟩
  ·rcases List.mem_append.1 hy with hy|hy
   ·exact h2 y hy
   ·rw[List.mem_singleton]at hy;subst hy;exact skF_ok hx
  ·rw[List.map_append,List.nodup_append]
   refine⟨h3,by simp,fun a ha b hb=>?_⟩
   simp only[List.map_cons,List.map_nil,List.mem_singleton]at hb
   subst hb
   rintro rfl
   exact frHas_false hh ha
theorem fold_inv:∀(l:List SK) (n:Nat) (acc:List FR),FInv n acc->(∀x∈l,x.ok)->FInv (n+l.length) (l.foldl frStep acc)
 | [],n,acc,h,_=>h
 | x :: l,n,acc,h,hx=>by
  have:=fold_inv l (n+1) (frStep acc x) (frStep_inv (hx x (by simp)) h) fun y hy=>hx y (by simp[hy])
  rw[List.length_cons,List.foldl_cons,show n+(l.length+1)=n+1+l.length by omega]
  exact this
theorem frs_inv(l:List SK)(h:∀x∈l,x.ok):FInv l.length (frs l):=by
 have:=fold_inv l 0 [] ⟨Nat.le_refl _,fun x h=>(by cases h),by simp⟩ h
 rwa [Nat.zero_add]at this
def mkE3(a b c:Int)(h:inR .i64 a/\inR .i64 b/\inR .i64 c):Elm 3:=⟨[a,b,c],rfl,fun z hz=>by
 simp only[List.mem_cons,List.not_mem_nil,or_false]at hz
 rcases hz with rfl|rfl|rfl
 ·exact h.1
 ·exact h.2.1
 ·exact h.2.2⟩
open Classical in
noncomputable def el3 (a b c:Int):Elm 3:=if h:inR .i64 a/\inR .i64 b/\inR .i64 c then mkE3 a b c h else default
theorem el3_val{a b c:Int}(h1:inR .i64 a)(h2:inR .i64 b)(h3:inR .i64 c):(el3 a b c).1=[a,b,c]:=by
 unfold el3;rw[dif_pos ⟨h1,h2,h3⟩];rfl
noncomputable def pgE (x:FR):Elm 3:=el3 x.f x.i x.s
theorem pgE_val{x:FR}(h:x.ok):(pgE x).1=[x.f,x.i,x.s]:=by
 obtain⟨h1,h2,h3,h4,h5,h6⟩:=h
 exact el3_val (inR_i64.2 (by omega)) (inR_i64.2 (by omega)) (inR_i64.2 (by omega))
theorem pgE_d{x:FR}(h:x.ok):(pgE x).d=.agg [.int .i64 x.f,.int .i64 x.i,.int .i64 x.s]:=by
 unfold Elm.d;rw[pgE_val h];rfl
noncomputable def pgs (l:List FR):List (Elm 3):=(l.filter (·.d)).map pgE
def PgOk(L:List (Elm 3)):Prop:=(∀x∈L,0<=x.1.getD 0 0/\x.1.getD 0 0<4/\0<=x.1.getD 1 0/\x.1.getD 1 0<16/\0<=x.1.getD 2 0)/\(L.map fun x=>(x.1.getD 0 0,x.1.getD 1 0)).Nodup
theorem pgs_ok{n:Nat}{l:List FR}(h:FInv n l):PgOk (pgs l):=by
 obtain⟨_,h2,h3⟩:=h
 refine⟨fun x hx=>?_,?_⟩
 ·obtain⟨y,hy,rfl⟩:=List.mem_map.1 hx
  have hok:=h2 y (List.mem_filter.1 hy).1
  rw[pgE_val hok]
  obtain⟨a1,a2,a3,a4,a5,a6⟩:=hok
  exact⟨a1,a2,a3,a4,a5⟩
 ·have e:(pgs l).map (fun x=>(x.1.getD 0 0,x.1.getD 1 0))=(l.filter (·.d)).map plc:=by
   unfold pgs
   rw[List.map_map]
   apply List.map_congr_left
   intro y hy
   have hok:=h2 y (List.mem_filter.1 hy).1
   show ((pgE y).1.getD 0 0,(pgE y).1.getD 1 0)=plc y
   rw[pgE_val hok]
   rfl
  rw[e]
  exact h3.sublist ((List.filter_sublist).map plc)
theorem pgs_len(l:List FR):(pgs l).length=cntF l:=by unfold pgs cntF;rw[List.length_map]
end Go.AM
namespace Go.AM
open Go Go.Proofs Go.Sort
def plD(x:Elm 3):D:=.agg [.int .i64 (x.1.getD 0 0),.int .i64 (x.1.getD 1 0)]
def seenM(L:List (Elm 3)):List (D×D):=L.map fun x=>(plD x,.bool true)
theorem keyEq_plD(x y:Elm 3):D.keyEq (plD x) (plD y)=(decide (x.1.getD 0 0=y.1.getD 0 0) && decide (x.1.getD 1 0=y.1.getD 1 0)):=by
 simp[plD,D.keyEq,D.flatEqs,D.flatEq]
theorem mapSet_new{k v:D}:∀(m:List (D×D)),(∀x∈m,D.keyEq k x.1=false)->mapSet k v m=m++[(k,v)]
 | [],_=>rfl
 | x :: m,h=>by
  unfold mapSet
  rw[h x (by simp),if_neg (by simp),mapSet_new m fun y hy=>h y (by simp[hy])]
  rfl
theorem seenM_snoc{L:List (Elm 3)}(h:(L.map fun x=>(x.1.getD 0 0,x.1.getD 1 0)).Nodup){k:Nat}(hk:k<L.length):mapSet (plD L[k]) (.bool true) (seenM (L.take k))=seenM (L.take (k+1)):=by
 rw[List.take_succ_eq_append_getElem hk]
 unfold seenM
 rw[List.map_append,mapSet_new]
 ·rfl
 intro y hy
 obtain⟨x,hx,rfl⟩:=List.mem_map.1 hy
 rw[keyEq_plD]
 obtain⟨j,hj,rfl⟩:=List.getElem_of_mem hx
 rw[List.length_take]at hj
 rw[List.getElem_take]
 cases hb:(decide (L[k].1.getD 0 0=L[j].1.getD 0 0) && decide (L[k].1.getD 1 0=L[j].1.getD 1 0)) with
 | false=>rfl
 | true =>
  exfalso
  simp only[Bool.and_eq_true,decide_eq_true_eq]at hb
  have:=(List.pairwise_iff_getElem.1 h) j k (by rw[List.length_map];omega) (by rw[List.length_map];exact hk) (by omega)
  rw[List.getElem_map,List.getElem_map]at this
  exact this (Prod.ext hb.1.symm hb.2.symm)
theorem seenM_keys{P:Program}{t:TypeId}{d:TypeDesc}(h0:wideKey P t (.agg [.int .i64 0,.int .i64 0])=true){L:List (Elm 3)}:((seenM L).all fun x=>D.isKeyP P t d x.1)=true:=by
 rw[List.all_eq_true]
 intro y hy
 obtain⟨x,_,rfl⟩:=List.mem_map.1 hy
 refine isKeyP_of h0 ?_
 have hz:∀j,inR .i64 (x.1.getD j 0):=fun j=>by
  rcases Nat.lt_or_ge j x.1.length with h|h
  ·rw[List.getD_eq_getElem?_getD,List.getElem?_eq_getElem h];exact x.2.2 _ (List.getElem_mem h)
  ·rw[List.getD_eq_getElem?_getD,List.getElem?_eq_none h];exact inR_i64.2 (by decide)
 exact⟨rfl,hz 0,rfl,hz 1,trivial⟩
theorem Elm.inR{k:Nat}(x:Elm k)(j:Nat):inR .i64 (x.1.getD j 0):=by
 rcases Nat.lt_or_ge j x.1.length with h|h
 ·rw[List.getD_eq_getElem?_getD,List.getElem?_eq_getElem h];exact x.2.2 _ (List.getElem_mem h)
 ·rw[List.getD_eq_getElem?_getD,List.getElem?_eq_none h];exact inR_i64.2 (by decide)
theorem Elm.d3(x:Elm 3):x.d=.agg [.int .i64 (x.1.getD 0 0),.int .i64 (x.1.getD 1 0),.int .i64 (x.1.getD 2 0)]:=by
 obtain⟨l,h1,h2⟩:=x
 match l,h1 with
 | [a,b,c],_=>rfl
theorem nth_elm{k i:Nat}{L:List (Elm k)}(h:i<L.length):D.nth (L.map Elm.d) i=L[i].d:=by
 show (L.map Elm.d).getD i default=_
 rw[List.getD_eq_getElem?_getD,List.getElem?_map,List.getElem?_eq_getElem h]
 rfl
end Go.AM
namespace Go.AM
open Go Go.Proofs
noncomputable def T2:Ty:=(tyOf Try.prog 2).getD ⟨false,0,0,none,.bool⟩
@[go_sem] theorem ty2:tyOf Try.prog 2=some T2:=eqk (by kernel_rfl)
@[go_sem] theorem T2_agg:T2.agg=false:=eqk (by kernel_rfl)
@[go_sem] theorem T2_size:T2.size=1:=eqk (by kernel_rfl)
@[go_sem] theorem T2_bytes:T2.bytes=8:=eqk (by kernel_rfl)
@[go_sem] theorem T2_want:T2.want=none:=eqk (by kernel_rfl)
@[go_sem] theorem T2_desc:T2.desc=.int .i64:=eqk (by kernel_rfl)
@[go_sem] theorem T2_arr:T2.arr=none:=eqk (by kernel_rfl)
@[go_sem] theorem T2_zero:T2.zero=some (.int .i64 0):=eqk (by kernel_rfl)
@[go_sem] theorem T2_zeroD:zeroD T2=some (.int .i64 0):=eqk (by kernel_rfl)
@[go_sem] theorem T2_zeroElem:zeroElem T2=some (.int .i64 0):=eqk (by kernel_rfl)
@[go_sem ↓] theorem T2_zs:(∃z,T2.zero=some z/\z.cells.size=T2.size)=True:=by
 refine eq_true ⟨_,T2_zero,?_⟩
 kernel_rfl
noncomputable def T3:Ty:=(tyOf Try.prog 3).getD ⟨false,0,0,none,.bool⟩
@[go_sem] theorem ty3:tyOf Try.prog 3=some T3:=eqk (by kernel_rfl)
@[go_sem] theorem T3_agg:T3.agg=false:=eqk (by kernel_rfl)
@[go_sem] theorem T3_size:T3.size=1:=eqk (by kernel_rfl)
@[go_sem] theorem T3_bytes:T3.bytes=8:=eqk (by kernel_rfl)
@[go_sem] theorem T3_want:T3.want=none:=eqk (by kernel_rfl)
@[go_sem] theorem T3_desc:T3.desc=.int .i64:=eqk (by kernel_rfl)
@[go_sem] theorem T3_arr:T3.arr=none:=eqk (by kernel_rfl)
@[go_sem] theorem T3_zero:T3.zero=some (.int .i64 0):=eqk (by kernel_rfl)
@[go_sem] theorem T3_zeroD:zeroD T3=some (.int .i64 0):=eqk (by kernel_rfl)
@[go_sem] theorem T3_zeroElem:zeroElem T3=some (.int .i64 0):=eqk (by kernel_rfl)
@[go_sem ↓] theorem T3_zs:(∃z,T3.zero=some z/\z.cells.size=T3.size)=True:=by
 refine eq_true ⟨_,T3_zero,?_⟩
 kernel_rfl
noncomputable def T4:Ty:=(tyOf Try.prog 4).getD ⟨false,0,0,none,.bool⟩
@[go_sem] theorem ty4:tyOf Try.prog 4=some T4:=eqk (by kernel_rfl)
@[go_sem] theorem T4_agg:T4.agg=false:=eqk (by kernel_rfl)
@[go_sem] theorem T4_size:T4.size=1:=eqk (by kernel_rfl)
@[go_sem] theorem T4_bytes:T4.bytes=1:=eqk (by kernel_rfl)
@[go_sem] theorem T4_want:T4.want=none:=eqk (by kernel_rfl)
@[go_sem] theorem T4_desc:T4.desc=.bool:=eqk (by kernel_rfl)
@[go_sem] theorem T4_arr:T4.arr=none:=eqk (by kernel_rfl)
@[go_sem] theorem T4_zero:T4.zero=some (.bool false):=eqk (by kernel_rfl)
@[go_sem] theorem T4_zeroD:zeroD T4=some (.bool false):=eqk (by kernel_rfl)
@[go_sem] theorem T4_zeroElem:zeroElem T4=some (.bool false):=eqk (by kernel_rfl)
@[go_sem ↓] theorem T4_zs:(∃z,T4.zero=some z/\z.cells.size=T4.size)=True:=by
 refine eq_true ⟨_,T4_zero,?_⟩
 kernel_rfl
noncomputable def T5:Ty:=(tyOf Try.prog 5).getD ⟨false,0,0,none,.bool⟩
@[go_sem] theorem ty5:tyOf Try.prog 5=some T5:=eqk (by kernel_rfl)
@[go_sem] theorem T5_agg:T5.agg=false:=eqk (by kernel_rfl)
@[go_sem] theorem T5_size:T5.size=1:=eqk (by kernel_rfl)
@[go_sem] theorem T5_bytes:T5.bytes=1:=eqk (by kernel_rfl)
@[go_sem] theorem T5_want:T5.want=none:=eqk (by kernel_rfl)
@[go_sem] theorem T5_desc:T5.desc=.int .u8:=eqk (by kernel_rfl)
@[go_sem] theorem T5_arr:T5.arr=none:=eqk (by kernel_rfl)
@[go_sem] theorem T5_zero:T5.zero=some (.int .u8 0):=eqk (by kernel_rfl)
@[go_sem] theorem T5_zeroD:zeroD T5=some (.int .u8 0):=eqk (by kernel_rfl)
@[go_sem] theorem T5_zeroElem:zeroElem T5=some (.int .u8 0):=eqk (by kernel_rfl)
@[go_sem ↓] theorem T5_zs:(∃z,T5.zero=some z/\z.cells.size=T5.size)=True:=by
 refine eq_true ⟨_,T5_zero,?_⟩
 kernel_rfl
noncomputable def T9:Ty:=(tyOf Try.prog 9).getD ⟨false,0,0,none,.bool⟩
@[go_sem] theorem ty9:tyOf Try.prog 9=some T9:=eqk (by kernel_rfl)
@[go_sem] theorem T9_agg:T9.agg=false:=eqk (by kernel_rfl)
@[go_sem] theorem T9_size:T9.size=1:=eqk (by kernel_rfl)
@[go_sem] theorem T9_bytes:T9.bytes=16:=eqk (by kernel_rfl)
@[go_sem] theorem T9_want:T9.want=none:=eqk (by kernel_rfl)
@[go_sem] theorem T9_desc:T9.desc=.string:=eqk (by kernel_rfl)
@[go_sem] theorem T9_arr:T9.arr=none:=eqk (by kernel_rfl)
@[go_sem] theorem T9_zero:T9.zero=some (.string ⟨#[]⟩):=eqk (by kernel_rfl)
@[go_sem] theorem T9_zeroD:zeroD T9=some (.str []):=eqk (by kernel_rfl)
@[go_sem] theorem T9_zeroElem:zeroElem T9=some (.str []):=eqk (by kernel_rfl)
@[go_sem ↓] theorem T9_zs:(∃z,T9.zero=some z/\z.cells.size=T9.size)=True:=by
 refine eq_true ⟨_,T9_zero,?_⟩
 kernel_rfl
noncomputable def T21:Ty:=(tyOf Try.prog 21).getD ⟨false,0,0,none,.bool⟩
@[go_sem] theorem ty21:tyOf Try.prog 21=some T21:=eqk (by kernel_rfl)
@[go_sem] theorem T21_agg:T21.agg=false:=eqk (by kernel_rfl)
@[go_sem] theorem T21_size:T21.size=1:=eqk (by kernel_rfl)
@[go_sem] theorem T21_bytes:T21.bytes=4:=eqk (by kernel_rfl)
@[go_sem] theorem T21_want:T21.want=none:=eqk (by kernel_rfl)
@[go_sem] theorem T21_desc:T21.desc=.int .i32:=eqk (by kernel_rfl)
@[go_sem] theorem T21_arr:T21.arr=none:=eqk (by kernel_rfl)
@[go_sem] theorem T21_zero:T21.zero=some (.int .i32 0):=eqk (by kernel_rfl)
@[go_sem] theorem T21_zeroD:zeroD T21=some (.int .i32 0):=eqk (by kernel_rfl)
@[go_sem] theorem T21_zeroElem:zeroElem T21=some (.int .i32 0):=eqk (by kernel_rfl)
@[go_sem ↓] theorem T21_zs:(∃z,T21.zero=some z/\z.cells.size=T21.size)=True:=by
 refine eq_true ⟨_,T21_zero,?_⟩
 kernel_rfl
noncomputable def T22:Ty:=(tyOf Try.prog 22).getD ⟨false,0,0,none,.bool⟩
@[go_sem] theorem ty22:tyOf Try.prog 22=some T22:=eqk (by kernel_rfl)
@[go_sem] theorem T22_agg:T22.agg=false:=eqk (by kernel_rfl)
@[go_sem] theorem T22_size:T22.size=1:=eqk (by kernel_rfl)
@[go_sem] theorem T22_bytes:T22.bytes=24:=eqk (by kernel_rfl)
@[go_sem] theorem T22_want:T22.want=none:=eqk (by kernel_rfl)
@[go_sem] theorem T22_desc:T22.desc=.slice 48:=eqk (by kernel_rfl)
@[go_sem] theorem T22_arr:T22.arr=none:=eqk (by kernel_rfl)
@[go_sem] theorem T22_zero:T22.zero=some (.slice none 0 0):=eqk (by kernel_rfl)
@[go_sem] theorem T22_zeroD:zeroD T22=some (.sl none []):=eqk (by kernel_rfl)
@[go_sem] theorem T22_zeroElem:zeroElem T22=some (.sl none []):=eqk (by kernel_rfl)
@[go_sem ↓] theorem T22_zs:(∃z,T22.zero=some z/\z.cells.size=T22.size)=True:=by
 refine eq_true ⟨_,T22_zero,?_⟩
 kernel_rfl
noncomputable def T24:Ty:=(tyOf Try.prog 24).getD ⟨false,0,0,none,.bool⟩
@[go_sem] theorem ty24:tyOf Try.prog 24=some T24:=eqk (by kernel_rfl)
@[go_sem] theorem T24_agg:T24.agg=false:=eqk (by kernel_rfl)
@[go_sem] theorem T24_size:T24.size=1:=eqk (by kernel_rfl)
@[go_sem] theorem T24_bytes:T24.bytes=24:=eqk (by kernel_rfl)
@[go_sem] theorem T24_want:T24.want=none:=eqk (by kernel_rfl)
@[go_sem] theorem T24_desc:T24.desc=.slice 34:=eqk (by kernel_rfl)
@[go_sem] theorem T24_arr:T24.arr=none:=eqk (by kernel_rfl)
@[go_sem] theorem T24_zero:T24.zero=some (.slice none 0 0):=eqk (by kernel_rfl)
@[go_sem] theorem T24_zeroD:zeroD T24=some (.sl none []):=eqk (by kernel_rfl)
@[go_sem] theorem T24_zeroElem:zeroElem T24=some (.sl none []):=eqk (by kernel_rfl)
@[go_sem ↓] theorem T24_zs:(∃z,T24.zero=some z/\z.cells.size=T24.size)=True:=by
 refine eq_true ⟨_,T24_zero,?_⟩
 kernel_rfl
noncomputable def T25:Ty:=(tyOf Try.prog 25).getD ⟨false,0,0,none,.bool⟩
@[go_sem] theorem ty25:tyOf Try.prog 25=some T25:=eqk (by kernel_rfl)
@[go_sem] theorem T25_agg:T25.agg=false:=eqk (by kernel_rfl)
@[go_sem] theorem T25_size:T25.size=1:=eqk (by kernel_rfl)
@[go_sem] theorem T25_bytes:T25.bytes=24:=eqk (by kernel_rfl)
@[go_sem] theorem T25_want:T25.want=none:=eqk (by kernel_rfl)
@[go_sem] theorem T25_desc:T25.desc=.slice 36:=eqk (by kernel_rfl)
@[go_sem] theorem T25_arr:T25.arr=none:=eqk (by kernel_rfl)
@[go_sem] theorem T25_zero:T25.zero=some (.slice none 0 0):=eqk (by kernel_rfl)
@[go_sem] theorem T25_zeroD:zeroD T25=some (.sl none []):=eqk (by kernel_rfl)
@[go_sem] theorem T25_zeroElem:zeroElem T25=some (.sl none []):=eqk (by kernel_rfl)
@[go_sem ↓] theorem T25_zs:(∃z,T25.zero=some z/\z.cells.size=T25.size)=True:=by
 refine eq_true ⟨_,T25_zero,?_⟩
 kernel_rfl
noncomputable def T31:Ty:=(tyOf Try.prog 31).getD ⟨false,0,0,none,.bool⟩
@[go_sem] theorem ty31:tyOf Try.prog 31=some T31:=eqk (by kernel_rfl)
@[go_sem] theorem T31_agg:T31.agg=false:=eqk (by kernel_rfl)
@[go_sem] theorem T31_size:T31.size=1:=eqk (by kernel_rfl)
@[go_sem] theorem T31_bytes:T31.bytes=24:=eqk (by kernel_rfl)
@[go_sem] theorem T31_want:T31.want=none:=eqk (by kernel_rfl)
@[go_sem] theorem T31_desc:T31.desc=.slice 122:=eqk (by kernel_rfl)
@[go_sem] theorem T31_arr:T31.arr=none:=eqk (by kernel_rfl)
@[go_sem] theorem T31_zero:T31.zero=some (.slice none 0 0):=eqk (by kernel_rfl)
@[go_sem] theorem T31_zeroD:zeroD T31=some (.sl none []):=eqk (by kernel_rfl)
@[go_sem] theorem T31_zeroElem:zeroElem T31=some (.sl none []):=eqk (by kernel_rfl)
@[go_sem ↓] theorem T31_zs:(∃z,T31.zero=some z/\z.cells.size=T31.size)=True:=by
 refine eq_true ⟨_,T31_zero,?_⟩
 kernel_rfl
noncomputable def T32:Ty:=(tyOf Try.prog 32).getD ⟨false,0,0,none,.bool⟩
@[go_sem] theorem ty32:tyOf Try.prog 32=some T32:=eqk (by kernel_rfl)
@[go_sem] theorem T32_agg:T32.agg=false:=eqk (by kernel_rfl)
@[go_sem] theorem T32_size:T32.size=1:=eqk (by kernel_rfl)
@[go_sem] theorem T32_bytes:T32.bytes=24:=eqk (by kernel_rfl)
@[go_sem] theorem T32_want:T32.want=none:=eqk (by kernel_rfl)
@[go_sem] theorem T32_desc:T32.desc=.slice 5:=eqk (by kernel_rfl)
@[go_sem] theorem T32_arr:T32.arr=none:=eqk (by kernel_rfl)
@[go_sem] theorem T32_zero:T32.zero=some (.slice none 0 0):=eqk (by kernel_rfl)
@[go_sem] theorem T32_zeroD:zeroD T32=some (.sl none []):=eqk (by kernel_rfl)
@[go_sem] theorem T32_zeroElem:zeroElem T32=some (.sl none []):=eqk (by kernel_rfl)
@[go_sem ↓] theorem T32_zs:(∃z,T32.zero=some z/\z.cells.size=T32.size)=True:=by
 refine eq_true ⟨_,T32_zero,?_⟩
 kernel_rfl
noncomputable def T34:Ty:=(tyOf Try.prog 34).getD ⟨false,0,0,none,.bool⟩
@[go_sem] theorem ty34:tyOf Try.prog 34=some T34:=eqk (by kernel_rfl)
@[go_sem] theorem T34_agg:T34.agg=true:=eqk (by kernel_rfl)
@[go_sem] theorem T34_size:T34.size=16:=eqk (by kernel_rfl)
@[go_sem] theorem T34_bytes:T34.bytes=144:=eqk (by kernel_rfl)
@[go_sem] theorem T34_want:T34.want=some 16:=eqk (by kernel_rfl)
@[go_sem] theorem T34_arr:T34.arr=none:=eqk (by kernel_rfl)
@[go_sem] theorem T34_places:placesOf Try.prog T34=some [(0,1),(1,1),(2,1),(3,1),(4,1),(5,1),(6,1),(7,1),(8,1),(9,1),(10,1),(11,1),(12,1),(13,1),(14,1),(15,1)]:=eqk (by kernel_rfl)
@[go_sem] theorem T34_f0:fieldOf Try.prog (some T34) 0=some (0,T3):=eqk (by kernel_rfl)
@[go_sem] theorem T34_f1:fieldOf Try.prog (some T34) 1=some (1,T3):=eqk (by kernel_rfl)
@[go_sem] theorem T34_f2:fieldOf Try.prog (some T34) 2=some (2,T3):=eqk (by kernel_rfl)
@[go_sem] theorem T34_f3:fieldOf Try.prog (some T34) 3=some (3,T3):=eqk (by kernel_rfl)
@[go_sem] theorem T34_f4:fieldOf Try.prog (some T34) 4=some (4,T3):=eqk (by kernel_rfl)
@[go_sem] theorem T34_f5:fieldOf Try.prog (some T34) 5=some (5,T3):=eqk (by kernel_rfl)
@[go_sem] theorem T34_f6:fieldOf Try.prog (some T34) 6=some (6,T3):=eqk (by kernel_rfl)
@[go_sem] theorem T34_f7:fieldOf Try.prog (some T34) 7=some (7,T3):=eqk (by kernel_rfl)
@[go_sem] theorem T34_f8:fieldOf Try.prog (some T34) 8=some (8,T3):=eqk (by kernel_rfl)
@[go_sem] theorem T34_f9:fieldOf Try.prog (some T34) 9=some (9,T3):=eqk (by kernel_rfl)
@[go_sem] theorem T34_f10:fieldOf Try.prog (some T34) 10=some (10,T4):=eqk (by kernel_rfl)
@[go_sem] theorem T34_f11:fieldOf Try.prog (some T34) 11=some (11,T4):=eqk (by kernel_rfl)
@[go_sem] theorem T34_f12:fieldOf Try.prog (some T34) 12=some (12,T4):=eqk (by kernel_rfl)
@[go_sem] theorem T34_f13:fieldOf Try.prog (some T34) 13=some (13,T3):=eqk (by kernel_rfl)
@[go_sem] theorem T34_f14:fieldOf Try.prog (some T34) 14=some (14,T31):=eqk (by kernel_rfl)
@[go_sem] theorem T34_f15:fieldOf Try.prog (some T34) 15=some (15,T32):=eqk (by kernel_rfl)
@[go_sem] theorem T34_zero:T34.zero=some (.agg #[.int .i64 0,.int .i64 0,.int .i64 0,.int .i64 0,.int .i64 0,.int .i64 0,.int .i64 0,.int .i64 0,.int .i64 0,.int .i64 0,.bool false,.bool false,.bool false,.int .i64 0,.slice none 0 0,.slice none 0 0]):=eqk (by kernel_rfl)
@[go_sem] theorem T34_zeroElem:zeroElem T34=some (.agg [.int .i64 0,.int .i64 0,.int .i64 0,.int .i64 0,.int .i64 0,.int .i64 0,.int .i64 0,.int .i64 0,.int .i64 0,.int .i64 0,.bool false,.bool false,.bool false,.int .i64 0,.sl none [],.sl none []]):=eqk (by kernel_rfl)
@[go_sem ↓] theorem T34_zs:(∃z,T34.zero=some z/\z.cells.size=T34.size)=True:=by
 refine eq_true ⟨_,T34_zero,?_⟩
 kernel_rfl
noncomputable def T36:Ty:=(tyOf Try.prog 36).getD ⟨false,0,0,none,.bool⟩
@[go_sem] theorem ty36:tyOf Try.prog 36=some T36:=eqk (by kernel_rfl)
@[go_sem] theorem T36_agg:T36.agg=true:=eqk (by kernel_rfl)
@[go_sem] theorem T36_size:T36.size=3:=eqk (by kernel_rfl)
@[go_sem] theorem T36_bytes:T36.bytes=24:=eqk (by kernel_rfl)
@[go_sem] theorem T36_want:T36.want=some 3:=eqk (by kernel_rfl)
@[go_sem] theorem T36_arr:T36.arr=none:=eqk (by kernel_rfl)
@[go_sem] theorem T36_places:placesOf Try.prog T36=some [(0,1),(1,1),(2,1)]:=eqk (by kernel_rfl)
@[go_sem] theorem T36_f0:fieldOf Try.prog (some T36) 0=some (0,T3):=eqk (by kernel_rfl)
@[go_sem] theorem T36_f1:fieldOf Try.prog (some T36) 1=some (1,T3):=eqk (by kernel_rfl)
@[go_sem] theorem T36_f2:fieldOf Try.prog (some T36) 2=some (2,T3):=eqk (by kernel_rfl)
@[go_sem] theorem T36_zero:T36.zero=some (.agg #[.int .i64 0,.int .i64 0,.int .i64 0]):=eqk (by kernel_rfl)
@[go_sem] theorem T36_zeroElem:zeroElem T36=some (.agg [.int .i64 0,.int .i64 0,.int .i64 0]):=eqk (by kernel_rfl)
@[go_sem ↓] theorem T36_zs:(∃z,T36.zero=some z/\z.cells.size=T36.size)=True:=by
 refine eq_true ⟨_,T36_zero,?_⟩
 kernel_rfl
noncomputable def T38:Ty:=(tyOf Try.prog 38).getD ⟨false,0,0,none,.bool⟩
@[go_sem] theorem ty38:tyOf Try.prog 38=some T38:=eqk (by kernel_rfl)
@[go_sem] theorem T38_agg:T38.agg=false:=eqk (by kernel_rfl)
@[go_sem] theorem T38_size:T38.size=1:=eqk (by kernel_rfl)
@[go_sem] theorem T38_bytes:T38.bytes=24:=eqk (by kernel_rfl)
@[go_sem] theorem T38_want:T38.want=none:=eqk (by kernel_rfl)
@[go_sem] theorem T38_desc:T38.desc=.slice 42:=eqk (by kernel_rfl)
@[go_sem] theorem T38_arr:T38.arr=none:=eqk (by kernel_rfl)
@[go_sem] theorem T38_zero:T38.zero=some (.slice none 0 0):=eqk (by kernel_rfl)
@[go_sem] theorem T38_zeroD:zeroD T38=some (.sl none []):=eqk (by kernel_rfl)
@[go_sem] theorem T38_zeroElem:zeroElem T38=some (.sl none []):=eqk (by kernel_rfl)
@[go_sem ↓] theorem T38_zs:(∃z,T38.zero=some z/\z.cells.size=T38.size)=True:=by
 refine eq_true ⟨_,T38_zero,?_⟩
 kernel_rfl
noncomputable def T42:Ty:=(tyOf Try.prog 42).getD ⟨false,0,0,none,.bool⟩
@[go_sem] theorem ty42:tyOf Try.prog 42=some T42:=eqk (by kernel_rfl)
@[go_sem] theorem T42_agg:T42.agg=true:=eqk (by kernel_rfl)
@[go_sem] theorem T42_size:T42.size=3:=eqk (by kernel_rfl)
@[go_sem] theorem T42_bytes:T42.bytes=24:=eqk (by kernel_rfl)
@[go_sem] theorem T42_want:T42.want=some 3:=eqk (by kernel_rfl)
@[go_sem] theorem T42_arr:T42.arr=none:=eqk (by kernel_rfl)
@[go_sem] theorem T42_places:placesOf Try.prog T42=some [(0,1),(1,1),(2,1)]:=eqk (by kernel_rfl)
@[go_sem] theorem T42_f0:fieldOf Try.prog (some T42) 0=some (0,T3):=eqk (by kernel_rfl)
@[go_sem] theorem T42_f1:fieldOf Try.prog (some T42) 1=some (1,T3):=eqk (by kernel_rfl)
@[go_sem] theorem T42_f2:fieldOf Try.prog (some T42) 2=some (2,T3):=eqk (by kernel_rfl)
@[go_sem] theorem T42_zero:T42.zero=some (.agg #[.int .i64 0,.int .i64 0,.int .i64 0]):=eqk (by kernel_rfl)
@[go_sem] theorem T42_zeroElem:zeroElem T42=some (.agg [.int .i64 0,.int .i64 0,.int .i64 0]):=eqk (by kernel_rfl)
@[go_sem ↓] theorem T42_zs:(∃z,T42.zero=some z/\z.cells.size=T42.size)=True:=by
 refine eq_true ⟨_,T42_zero,?_⟩
 kernel_rfl
noncomputable def T45:Ty:=(tyOf Try.prog 45).getD ⟨false,0,0,none,.bool⟩
@[go_sem] theorem ty45:tyOf Try.prog 45=some T45:=eqk (by kernel_rfl)
@[go_sem] theorem T45_agg:T45.agg=true:=eqk (by kernel_rfl)
@[go_sem] theorem T45_size:T45.size=16:=eqk (by kernel_rfl)
@[go_sem] theorem T45_bytes:T45.bytes=16:=eqk (by kernel_rfl)
@[go_sem] theorem T45_want:T45.want=some 16:=eqk (by kernel_rfl)
@[go_sem] theorem T45_desc:T45.desc=.array 16 4:=eqk (by kernel_rfl)
@[go_sem] theorem T45_arr:T45.arr=some (16,4):=eqk (by kernel_rfl)
@[go_sem] theorem T45_places:placesOf Try.prog T45=some [(0,1),(1,1),(2,1),(3,1),(4,1),(5,1),(6,1),(7,1),(8,1),(9,1),(10,1),(11,1),(12,1),(13,1),(14,1),(15,1)]:=eqk (by kernel_rfl)
@[go_sem] theorem T45_zero:T45.zero=some (.agg #[.bool false,.bool false,.bool false,.bool false,.bool false,.bool false,.bool false,.bool false,.bool false,.bool false,.bool false,.bool false,.bool false,.bool false,.bool false,.bool false]):=eqk (by kernel_rfl)
@[go_sem] theorem T45_zeroElem:zeroElem T45=some (.agg [.bool false,.bool false,.bool false,.bool false,.bool false,.bool false,.bool false,.bool false,.bool false,.bool false,.bool false,.bool false,.bool false,.bool false,.bool false,.bool false]):=eqk (by kernel_rfl)
@[go_sem ↓] theorem T45_zs:(∃z,T45.zero=some z/\z.cells.size=T45.size)=True:=by
 refine eq_true ⟨_,T45_zero,?_⟩
 kernel_rfl
noncomputable def T46:Ty:=(tyOf Try.prog 46).getD ⟨false,0,0,none,.bool⟩
@[go_sem] theorem ty46:tyOf Try.prog 46=some T46:=eqk (by kernel_rfl)
@[go_sem] theorem T46_agg:T46.agg=true:=eqk (by kernel_rfl)
@[go_sem] theorem T46_size:T46.size=64:=eqk (by kernel_rfl)
@[go_sem] theorem T46_bytes:T46.bytes=64:=eqk (by kernel_rfl)
@[go_sem] theorem T46_want:T46.want=some 64:=eqk (by kernel_rfl)
@[go_sem] theorem T46_desc:T46.desc=.array 4 45:=eqk (by kernel_rfl)
@[go_sem] theorem T46_arr:T46.arr=none:=eqk (by kernel_rfl)
@[go_sem] theorem T46_places:placesOf Try.prog T46=some [(0,16),(16,16),(32,16),(48,16)]:=eqk (by kernel_rfl)
noncomputable def T48:Ty:=(tyOf Try.prog 48).getD ⟨false,0,0,none,.bool⟩
@[go_sem] theorem ty48:tyOf Try.prog 48=some T48:=eqk (by kernel_rfl)
@[go_sem] theorem T48_agg:T48.agg=true:=eqk (by kernel_rfl)
@[go_sem] theorem T48_size:T48.size=4:=eqk (by kernel_rfl)
@[go_sem] theorem T48_bytes:T48.bytes=4:=eqk (by kernel_rfl)
@[go_sem] theorem T48_want:T48.want=some 4:=eqk (by kernel_rfl)
@[go_sem] theorem T48_arr:T48.arr=none:=eqk (by kernel_rfl)
@[go_sem] theorem T48_places:placesOf Try.prog T48=some [(0,1),(1,1),(2,1),(3,1)]:=eqk (by kernel_rfl)
@[go_sem] theorem T48_f0:fieldOf Try.prog (some T48) 0=some (0,T5):=eqk (by kernel_rfl)
@[go_sem] theorem T48_f1:fieldOf Try.prog (some T48) 1=some (1,T5):=eqk (by kernel_rfl)
@[go_sem] theorem T48_f2:fieldOf Try.prog (some T48) 2=some (2,T5):=eqk (by kernel_rfl)
@[go_sem] theorem T48_f3:fieldOf Try.prog (some T48) 3=some (3,T4):=eqk (by kernel_rfl)
@[go_sem] theorem T48_zero:T48.zero=some (.agg #[.int .u8 0,.int .u8 0,.int .u8 0,.bool false]):=eqk (by kernel_rfl)
@[go_sem] theorem T48_zeroElem:zeroElem T48=some (.agg [.int .u8 0,.int .u8 0,.int .u8 0,.bool false]):=eqk (by kernel_rfl)
@[go_sem ↓] theorem T48_zs:(∃z,T48.zero=some z/\z.cells.size=T48.size)=True:=by
 refine eq_true ⟨_,T48_zero,?_⟩
 kernel_rfl
noncomputable def T53:Ty:=(tyOf Try.prog 53).getD ⟨false,0,0,none,.bool⟩
@[go_sem] theorem ty53:tyOf Try.prog 53=some T53:=eqk (by kernel_rfl)
@[go_sem] theorem T53_agg:T53.agg=false:=eqk (by kernel_rfl)
@[go_sem] theorem T53_size:T53.size=1:=eqk (by kernel_rfl)
@[go_sem] theorem T53_bytes:T53.bytes=24:=eqk (by kernel_rfl)
@[go_sem] theorem T53_want:T53.want=none:=eqk (by kernel_rfl)
@[go_sem] theorem T53_desc:T53.desc=.slice 55:=eqk (by kernel_rfl)
@[go_sem] theorem T53_arr:T53.arr=none:=eqk (by kernel_rfl)
@[go_sem] theorem T53_zero:T53.zero=some (.slice none 0 0):=eqk (by kernel_rfl)
@[go_sem] theorem T53_zeroD:zeroD T53=some (.sl none []):=eqk (by kernel_rfl)
@[go_sem] theorem T53_zeroElem:zeroElem T53=some (.sl none []):=eqk (by kernel_rfl)
@[go_sem ↓] theorem T53_zs:(∃z,T53.zero=some z/\z.cells.size=T53.size)=True:=by
 refine eq_true ⟨_,T53_zero,?_⟩
 kernel_rfl
noncomputable def T55:Ty:=(tyOf Try.prog 55).getD ⟨false,0,0,none,.bool⟩
@[go_sem] theorem ty55:tyOf Try.prog 55=some T55:=eqk (by kernel_rfl)
@[go_sem] theorem T55_agg:T55.agg=true:=eqk (by kernel_rfl)
@[go_sem] theorem T55_size:T55.size=2:=eqk (by kernel_rfl)
@[go_sem] theorem T55_bytes:T55.bytes=16:=eqk (by kernel_rfl)
@[go_sem] theorem T55_want:T55.want=some 2:=eqk (by kernel_rfl)
@[go_sem] theorem T55_arr:T55.arr=none:=eqk (by kernel_rfl)
@[go_sem] theorem T55_places:placesOf Try.prog T55=some [(0,1),(1,1)]:=eqk (by kernel_rfl)
@[go_sem] theorem T55_f0:fieldOf Try.prog (some T55) 0=some (0,T3):=eqk (by kernel_rfl)
@[go_sem] theorem T55_f1:fieldOf Try.prog (some T55) 1=some (1,T3):=eqk (by kernel_rfl)
@[go_sem] theorem T55_zero:T55.zero=some (.agg #[.int .i64 0,.int .i64 0]):=eqk (by kernel_rfl)
@[go_sem] theorem T55_zeroElem:zeroElem T55=some (.agg [.int .i64 0,.int .i64 0]):=eqk (by kernel_rfl)
@[go_sem ↓] theorem T55_zs:(∃z,T55.zero=some z/\z.cells.size=T55.size)=True:=by
 refine eq_true ⟨_,T55_zero,?_⟩
 kernel_rfl
noncomputable def T67:Ty:=(tyOf Try.prog 67).getD ⟨false,0,0,none,.bool⟩
@[go_sem] theorem ty67:tyOf Try.prog 67=some T67:=eqk (by kernel_rfl)
@[go_sem] theorem T67_agg:T67.agg=false:=eqk (by kernel_rfl)
@[go_sem] theorem T67_size:T67.size=1:=eqk (by kernel_rfl)
@[go_sem] theorem T67_bytes:T67.bytes=8:=eqk (by kernel_rfl)
@[go_sem] theorem T67_want:T67.want=none:=eqk (by kernel_rfl)
@[go_sem] theorem T67_desc:T67.desc=.map 55 4:=eqk (by kernel_rfl)
@[go_sem] theorem T67_arr:T67.arr=none:=eqk (by kernel_rfl)
@[go_sem] theorem T67_zero:T67.zero=some (.map none):=eqk (by kernel_rfl)
@[go_sem ↓] theorem T67_zs:(∃z,T67.zero=some z/\z.cells.size=T67.size)=True:=by
 refine eq_true ⟨_,T67_zero,?_⟩
 kernel_rfl
noncomputable def T73:Ty:=(tyOf Try.prog 73).getD ⟨false,0,0,none,.bool⟩
@[go_sem] theorem ty73:tyOf Try.prog 73=some T73:=eqk (by kernel_rfl)
@[go_sem] theorem T73_agg:T73.agg=false:=eqk (by kernel_rfl)
@[go_sem] theorem T73_size:T73.size=1:=eqk (by kernel_rfl)
@[go_sem] theorem T73_bytes:T73.bytes=24:=eqk (by kernel_rfl)
@[go_sem] theorem T73_want:T73.want=none:=eqk (by kernel_rfl)
@[go_sem] theorem T73_desc:T73.desc=.slice 3:=eqk (by kernel_rfl)
@[go_sem] theorem T73_arr:T73.arr=none:=eqk (by kernel_rfl)
@[go_sem] theorem T73_zero:T73.zero=some (.slice none 0 0):=eqk (by kernel_rfl)
@[go_sem] theorem T73_zeroD:zeroD T73=some (.sl none []):=eqk (by kernel_rfl)
@[go_sem] theorem T73_zeroElem:zeroElem T73=some (.sl none []):=eqk (by kernel_rfl)
@[go_sem ↓] theorem T73_zs:(∃z,T73.zero=some z/\z.cells.size=T73.size)=True:=by
 refine eq_true ⟨_,T73_zero,?_⟩
 kernel_rfl
noncomputable def T86:Ty:=(tyOf Try.prog 86).getD ⟨false,0,0,none,.bool⟩
@[go_sem] theorem ty86:tyOf Try.prog 86=some T86:=eqk (by kernel_rfl)
@[go_sem] theorem T86_agg:T86.agg=false:=eqk (by kernel_rfl)
@[go_sem] theorem T86_size:T86.size=1:=eqk (by kernel_rfl)
@[go_sem] theorem T86_bytes:T86.bytes=4:=eqk (by kernel_rfl)
@[go_sem] theorem T86_want:T86.want=none:=eqk (by kernel_rfl)
@[go_sem] theorem T86_desc:T86.desc=.int .u32:=eqk (by kernel_rfl)
@[go_sem] theorem T86_arr:T86.arr=none:=eqk (by kernel_rfl)
@[go_sem] theorem T86_zero:T86.zero=some (.int .u32 0):=eqk (by kernel_rfl)
@[go_sem] theorem T86_zeroD:zeroD T86=some (.int .u32 0):=eqk (by kernel_rfl)
@[go_sem] theorem T86_zeroElem:zeroElem T86=some (.int .u32 0):=eqk (by kernel_rfl)
@[go_sem ↓] theorem T86_zs:(∃z,T86.zero=some z/\z.cells.size=T86.size)=True:=by
 refine eq_true ⟨_,T86_zero,?_⟩
 kernel_rfl
noncomputable def T88:Ty:=(tyOf Try.prog 88).getD ⟨false,0,0,none,.bool⟩
@[go_sem] theorem ty88:tyOf Try.prog 88=some T88:=eqk (by kernel_rfl)
@[go_sem] theorem T88_agg:T88.agg=false:=eqk (by kernel_rfl)
@[go_sem] theorem T88_size:T88.size=1:=eqk (by kernel_rfl)
@[go_sem] theorem T88_bytes:T88.bytes=8:=eqk (by kernel_rfl)
@[go_sem] theorem T88_want:T88.want=none:=eqk (by kernel_rfl)
@[go_sem] theorem T88_desc:T88.desc=.int .u64:=eqk (by kernel_rfl)
@[go_sem] theorem T88_arr:T88.arr=none:=eqk (by kernel_rfl)
@[go_sem] theorem T88_zero:T88.zero=some (.int .u64 0):=eqk (by kernel_rfl)
@[go_sem] theorem T88_zeroD:zeroD T88=some (.int .u64 0):=eqk (by kernel_rfl)
@[go_sem] theorem T88_zeroElem:zeroElem T88=some (.int .u64 0):=eqk (by kernel_rfl)
@[go_sem ↓] theorem T88_zs:(∃z,T88.zero=some z/\z.cells.size=T88.size)=True:=by
 refine eq_true ⟨_,T88_zero,?_⟩
 kernel_rfl
noncomputable def T109:Ty:=(tyOf Try.prog 109).getD ⟨false,0,0,none,.bool⟩
@[go_sem] theorem ty109:tyOf Try.prog 109=some T109:=eqk (by kernel_rfl)
@[go_sem] theorem T109_agg:T109.agg=true:=eqk (by kernel_rfl)
@[go_sem] theorem T109_size:T109.size=0:=eqk (by kernel_rfl)
@[go_sem] theorem T109_bytes:T109.bytes=0:=eqk (by kernel_rfl)
@[go_sem] theorem T109_want:T109.want=some 0:=eqk (by kernel_rfl)
@[go_sem] theorem T109_desc:T109.desc=.array 0 16:=eqk (by kernel_rfl)
@[go_sem] theorem T109_arr:T109.arr=some (0,16):=eqk (by kernel_rfl)
@[go_sem] theorem T109_zero:T109.zero=some (.agg #[]):=eqk (by kernel_rfl)
@[go_sem] theorem T109_zeroElem:zeroElem T109=some (.agg []):=eqk (by kernel_rfl)
@[go_sem ↓] theorem T109_zs:(∃z,T109.zero=some z/\z.cells.size=T109.size)=True:=by
 refine eq_true ⟨_,T109_zero,?_⟩
 kernel_rfl
noncomputable def T122:Ty:=(tyOf Try.prog 122).getD ⟨false,0,0,none,.bool⟩
@[go_sem] theorem ty122:tyOf Try.prog 122=some T122:=eqk (by kernel_rfl)
@[go_sem] theorem T122_agg:T122.agg=true:=eqk (by kernel_rfl)
@[go_sem] theorem T122_size:T122.size=2:=eqk (by kernel_rfl)
@[go_sem] theorem T122_bytes:T122.bytes=16:=eqk (by kernel_rfl)
@[go_sem] theorem T122_want:T122.want=some 2:=eqk (by kernel_rfl)
@[go_sem] theorem T122_arr:T122.arr=none:=eqk (by kernel_rfl)
@[go_sem] theorem T122_places:placesOf Try.prog T122=some [(0,1),(1,1)]:=eqk (by kernel_rfl)
@[go_sem] theorem T122_f0:fieldOf Try.prog (some T122) 0=some (0,T3):=eqk (by kernel_rfl)
@[go_sem] theorem T122_f1:fieldOf Try.prog (some T122) 1=some (1,T3):=eqk (by kernel_rfl)
@[go_sem] theorem T122_zero:T122.zero=some (.agg #[.int .i64 0,.int .i64 0]):=eqk (by kernel_rfl)
@[go_sem] theorem T122_zeroElem:zeroElem T122=some (.agg [.int .i64 0,.int .i64 0]):=eqk (by kernel_rfl)
@[go_sem ↓] theorem T122_zs:(∃z,T122.zero=some z/\z.cells.size=T122.size)=True:=by
 refine eq_true ⟨_,T122_zero,?_⟩
 kernel_rfl
end Go.AM

