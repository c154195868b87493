/- Own work over the model of the kit. -/
import Derived.Test.YtjfoclncfhiffaaD1
set_option linter.unnecessarySimpa false
set_option linter.unusedSimpArgs false
set_option linter.unusedVariables false
namespace Go.AM
open Go
section
variable {P:Program} {F:Nat->Prop} {φ:Nat->Option Loc} {own:List Obj} {w:World}
def manyZ(n:Nat):Option Value->Bool
 | some (.agg z)=>!(z.size == n)
 | _=>false
def Ty.arr(τ:Ty):Option (Nat×TypeId) :=
 match τ.desc with
 | .array n e=>if manyZ n τ.zero then none else some (n,e)
 | _=>none
def bldZ:Value->Bool
 | .agg arr=>(match arr.toList with|[.pointer none,.slice none 0 0]=>true|_=>false)
 | _=>false
theorem bldZ_spec{z:Value}(h:bldZ z=true):∃arr:Array Value,z=.agg arr/\arr.toList=[.pointer none,.slice none 0 0]:=by
 unfold bldZ at h
 split at h
 ·split at h
  ·rename_i hl;exact⟨_,rfl,hl⟩
  ·cases h
 ·cases h
def varObj(t:TypeId)(z:Value):Obj:=if bldZ z then .bld t false [.nils] else .box (z.cells.toList.map constAV0)
def newVarW(own:List Obj)(t:TypeId)(z:Value)(K:AV->List Obj->List Nat->Prop):Prop:=K (.ptr own.length 0 0) (own++[varObj t z]) []
theorem newVarW_sound(hc:Conc F φ own w){t:TypeId}{z:Value}{K:AV->List Obj->List Nat->Prop}(h1:(z.cells.toList.all (·.oneCell'))=true)(h:newVarW own t z K) :
  Does P F φ w (do pure (.pointer (some (← newVar t z)))) K:=by
 unfold newVarW varObj at h
 by_cases hb:bldZ z=true
 ·rw[if_pos hb]at h
  obtain⟨arr,rfl,hl⟩:=bldZ_spec hb
  let L:Loc:=⟨false,w.heap.size,0,2,0⟩
  have hw:∀b,b<w.heap.size->(w.alloc (.cells arr t)).heap[b]?=w.heap[b]?:=fun b hb=>heap_alloc_old w _ b hb
  refine⟨.ptr own.length 0 0,.pointer (some ⟨w.heap.size,0,none⟩),own++[.bld t false [.nils]],[],F,ext φ own.length L,w.alloc (.cells arr t),?_,?_,?_,h⟩
  ·simp only[newVar,newRow,Sem.run_bind,run_newObj,Result.andThen_ok,Sem.run_pure]
   rfl
  ·refine After.new hc rfl rfl rfl (by simp) hw (fun _=>⟨Nat.le_refl _,by simp[L]⟩) ?_
   simp only[ObjR]
   refine⟨rfl,rfl,[.slice none 0 0],(),?_,rfl,?_⟩
   ·have e:arr=(bldP L false :: [.slice none 0 0]).toArray:=by
     rw[← Array.toArray_toList (xs:=arr),hl];rfl
    rw[← e];exact heap_alloc_new w (.cells arr t)
   ·simp only[AV.Rs,AV.R]
    exact⟨_,_,rfl,rfl,rfl⟩
  ·simp only[AV.R]
   exact⟨L,ext_self _ _ _,rfl,rfl⟩
 ·rw[if_neg hb]at h
  exact newVar_sound hc (consts_Ra h1) h
def allocw(P:Program)(t:TypeId)(own:List Obj)(K:AV->List Obj->List Nat->Prop):Prop :=
 match tyOf P t with
 | some τ=>(match τ.arr with
  | some (n,e)=>(match tyOf P e with
   | some τe=>(match zeroD τe,τe.zero with
    | some zd,some ze=>τ.zero=some (.agg (Array.replicate n ze))/\K (.ptr own.length 0 0) (own++[.row none (List.replicate n zd)]) []
    | _,_=>False)
   | none=>False)
  | none=>(match τ.zero with
   | some z=>(z.cells.toList.all (·.oneCell'))=true/\newVarW own t z K
   | none=>False))
 | none=>False
theorem allocw_sound(hc:Conc F φ own w){t:TypeId}{K:AV->List Obj->List Nat->Prop}(h:allocw P t own K):Does P F φ w (Instr.alloc t true (.tuple #[])) K:=by
 unfold allocw at h
 split at h
 ·rename_i τ hτ
  split at h
  ·rename_i n e hd
   split at h
   ·rename_i τe hτe
    split at h
    ·rename_i zd ze hzd hze
     obtain⟨hz,hK⟩:=h
     obtain⟨z',hz1,hz2,hz3⟩:=zeroD_spec (F:=F) (w:=w) hzd
     rw[hze]at hz1
     cases hz1
     have hone:=D.C_one hz3 ((D.R_plain hz3).1 hz2)
     let L:Loc:=⟨false,w.heap.size,0,n,1⟩
     have hw:∀b,b<w.heap.size->(w.alloc (.cells (Array.replicate n ze) t)).heap[b]?=w.heap[b]?:=fun b hb=>heap_alloc_old w _ b hb
     refine⟨_,.pointer (some ⟨w.heap.size,0,none⟩),_,[],F,ext φ own.length L,w.alloc (.cells (Array.replicate n ze) t),?_,?_,?_,hK⟩
     ·simp only[Instr.alloc,newVar,newRow,Sem.run_bind,run_zero w hτ hz,run_newObj,Result.andThen_ok,Sem.run_pure,Value.cells]
      rfl
     ·refine After.new hc rfl rfl rfl (by simp) hw (fun _=>⟨Nat.le_refl _,by simp[L]⟩) ?_
      simp only[ObjR]
      refine⟨rfl,.inr ⟨rfl,⟨_,t,heap_alloc_new w _,by simp[L]⟩,by simp[L],?_⟩⟩
      refine D.Cr_iff.2 fun i d hdd=>?_
      have hi:i<n:=by
       rcases Nat.lt_or_ge i n with h|h
       ·exact h
       ·rw[List.getElem?_eq_none (by simpa using h)]at hdd;cases hdd
      simp only[List.getElem?_replicate,hi,if_true,Option.some.injEq]at hdd
      subst hdd
      refine⟨[ze],rfl,fun j hj=>?_,by simpa using hz3,?_⟩
      ·have hj0:j=0:=by simp[es]at hj;exact hj
       subst hj0
       have:(w.alloc (.cells (Array.replicate n ze) t)).cell? ⟨w.heap.size,0+i*1+0,none⟩=(Array.replicate n ze)[0+i*1+0]?:=World.cell?_alloc_new _ _ _ _
       simp only[L,es]
       rw[this]
       simp[hi]
      ·exact D.C_mono (fun _ h=>h) (hc.sameF hw) _ _ ((D.R_plain hz3).1 hz2)
     ·simp only[AV.R]
      exact⟨L,ext_self _ _ _,rfl,rfl⟩
    ·exact h.elim
   ·exact h.elim
  ·split at h
   ·rename_i z hz
    obtain⟨h1,h2⟩:=h
    obtain⟨v,c,own',kl,F',φ',w',g1,g2,g3,g4⟩:=newVarW_sound hc (P:=P) (t:=t) (z:=z) h1 h2
    refine⟨v,c,own',kl,F',φ',w',?_,g2,g3,g4⟩
    simp only[Instr.alloc,Sem.run_bind,run_zero w hτ hz,Result.andThen_ok]
    exact g1
   ·exact h.elim
 ·exact h.elim
def boxw(own:List Obj)(x:AV)(K:AV->List Obj->List Nat->Prop):Prop :=
 match x.asCells with
 | some vs=>newBox own vs K
 | none=>False
theorem boxw_sound(hc:Conc F φ own w){t:TypeId}{x:AV}{c:Value}{K:AV->List Obj->List Nat->Prop}(hx:AV.R F φ w x c)(h:boxw own x K):Does P F φ w (Instr.box t c) K:=by
 unfold boxw at h
 split at h
 ·rename_i vs hvs
  exact newVar_sound hc (AV.asCells_R hvs hx) h
 ·exact h.elim
def litD:Nat->List (Nat×AV)->Option (List D)
 | _,[]=>some []
 | i,(j,v) :: rest=>if i=j then (match v.pure,litD (i+1) rest with|some d,some ds=>some (d :: ds)|_,_=>none) else none
def litV:Nat->List (Nat×AV)->Option (List AV)
 | _,[]=>some []
 | i,(j,v) :: rest=>if i=j then (match v.asCells,litV (i+1) rest with|some [a],some as=>some (a :: as)|_,_=>none) else none
def nilsIn:List AV->Bool
 | []=>false
 | .nils :: _=>true
 | _ :: r=>nilsIn r
def nilPart:List (Nat×AV)->Bool
 | [(_,.agg vs)]=>nilsIn vs
 | _=>false
def litN(parts:List (Nat×AV)):Option (List D):=if nilPart parts=true then none else litD 0 parts
theorem litN_some{parts:List (Nat×AV)}{ds:List D}(h:litN parts=some ds):litD 0 parts=some ds:=by
 unfold litN at h
 split at h
 ·cases h
 ·exact h
def buildSlicew(P:Program)(τ:Option Ty)(own:List Obj)(len:Nat)(parts:List (Nat×AV))(K:AV->List Obj->List Nat->Prop):Prop :=
 match τ with
 | some τ=>(match τ.desc with
  | .slice e=>(match tyOf P e,litN parts with
   | some τe,some ds=>ds.length=len/\es τe.want=τe.size/\0<τe.size/\len*τe.size<=16777216/\(∃z,τe.zero=some z/\z.cells.size=τe.size)/\(∀d∈ds,d.fits τe.want) /\
     K (.sl own.length 0 len) (own++[.row τe.want ds]) []
   | some τe,none=>(match litV 0 parts with
    | some as=>as.length=len/\τe.size=1/\len<=16777216/\(∃z,τe.zero=some z/\z.cells.size=τe.size)/\K (.sl own.length 0 len) (own++[.vec as]) []
    | none=>(match parts with
     | [(0,.agg vs)]=>len=1/\vs.length=τe.size/\0<τe.size/\τe.size<=16777216/\(∃z,τe.zero=some z/\z.cells.size=τe.size)/\K (.sl own.length 0 1) (own++[.tab τe.size vs]) []
     | _=>False))
   | _,_=>False)
  | _=>False)
 | none=>False
theorem fill_lit(size:Nat)(hs:0<size):∀(parts:List (Nat×AV)) (vparts:List (Nat×Value)) (i:Nat) (ds:List D) (ag:Option Nat) (arr:List Value),Rp F φ w parts vparts->litD i parts=some ds->es ag=size->(∀d∈ds,d.fits ag) ->
  arr.length=(i+ds.length)*size ->
  ∃arr':List Value,Instr.fill (fun i=>some (i*size,size)) arr.toArray vparts=some arr'.toArray/\arr'.length=arr.length/\(∀j,j<i*size->arr'[j]?=arr[j]?) /\
   ∀k d,ds[k]?=some d->∃cs,cs.length=es ag/\(∀j,j<es ag->arr'[(i+k)*es ag+j]?=cs[j]?)/\d.isAgg=ag.isSome/\D.C F w d cs/\∀u∈cs,u.oneCell'=true
 | [],vparts,i,ds,ag,arr,hp,hl,he,hf,ha=>by
  simp only[Rp]at hp
  subst hp
  simp only[litD,Option.some.injEq]at hl
  subst hl
  exact⟨arr,rfl,rfl,fun _ _=>rfl,fun k d hd=>by simp at hd⟩
 | (j,v) :: rest,vparts,i,ds,ag,arr,hp,hl,he,hf,ha=>by
  simp only[Rp]at hp
  obtain⟨c,ys',rfl,hv,hp⟩:=hp
  simp only[litD]at hl
  split at hl
  ·rename_i hij
   subst hij
   split at hl
   ·rename_i d ds' hd hds'
    simp only[Option.some.injEq]at hl
    subst hl
    have hdf:=hf d (by simp)
    obtain⟨f1,f2,f3⟩:=D.fits_cells hdf (pure_R hd hv)
    have hlen:(spliceV arr (i*size) c.cells.toList).length=arr.length:=by
     have:∀(us:List Value) (cs:List Value) (off:Nat),(spliceV cs off us).length=cs.length:=by
      intro us
      induction us with
      | nil=>intro cs off;rfl
      | cons u us ih=>intro cs off;rw[spliceV,ih];simp
     exact this _ _ _
    have hget:∀(us cs:List Value) (off k:Nat),(spliceV cs off us)[k]?=if off<=k/\k<off+us.length/\k<cs.length then us[k - off]? else cs[k]?:=by
     intro us
     induction us with
     | nil=>intro cs off k;simp[spliceV];intro a b;omega
     | cons u us ih =>
      intro cs off k
      rw[spliceV,ih]
      simp only[List.length_set,List.length_cons,List.getElem?_set]
      by_cases h1:off+1<=k/\k<off+1+us.length/\k<cs.length
      ·rw[if_pos h1,if_pos ⟨by omega,by omega,h1.2.2⟩]
       have:k - off=(k - (off+1))+1:=by omega
       rw[this];simp
      ·rw[if_neg h1]
       by_cases h2:off=k
       ·subst h2
        by_cases h3:off<cs.length
        ·simp[h3]
        ·simp[h3]
       ·rw[if_neg h2,if_neg (by omega)]
    simp only[List.length_cons]at ha
    have hsum:(i+(ds'.length+1))*size=i*size+size+ds'.length*size:=by
     rw[Nat.add_mul,Nat.add_mul,Nat.one_mul];omega
    obtain⟨arr',g1,g2,g3,g4⟩:=fill_lit size hs rest ys' (i+1) ds' ag (spliceV arr (i*size) c.cells.toList) hp hds' he (fun d hd=>hf d (by simp[hd])) (by rw[hlen,ha];congr 1;omega)
    have hcl:c.cells.toList.length=size:=by rw[Array.length_toList,f1,he]
    refine⟨arr',?_,by rw[g2,hlen],fun j hj=>?_,fun k d' hk=>?_⟩
    ·simp only[Instr.fill]
     rw[if_neg ?_,foldl_spliceA]
     ·simpa using g1
     ·simp only[List.size_toArray,Bool.or_eq_true,decide_eq_true_eq]
      omega
    ·rw[g3 j (by rw[Nat.add_mul];omega),hget,if_neg (by omega)]
    ·cases k with
     | zero =>
      simp at hk
      subst hk
      refine⟨c.cells.toList,by rw[hcl,he],fun j hj=>?_,hdf.1,f2,f3⟩
      rw[he]at hj
      rw[Nat.add_zero,he,g3 _ (by rw[Nat.add_mul];omega),hget,if_pos ⟨by omega,by omega,by omega⟩]
      congr 1
      omega
     | succ k =>
      have:=g4 k d' (by simpa using hk)
      rwa [show i+1+k=i+(k+1) by omega]at this
   ·cases hl
  ·cases hl
theorem fill_litV:∀(parts:List (Nat×AV)) (vparts:List (Nat×Value)) (i:Nat) (as:List AV) (arr:List Value),Rp F φ w parts vparts->litV i parts=some as->arr.length=i+as.length ->
  ∃arr':List Value,Instr.fill (fun i=>some (i*1,1)) arr.toArray vparts=some arr'.toArray/\arr'.length=arr.length/\(∀j,j<i->arr'[j]?=arr[j]?) /\
   ∃vs,AV.Ra F φ w as vs/\∀k,k<as.length->arr'[i+k]?=vs[k]?
 | [],vparts,i,as,arr,hp,hl,ha=>by
  simp only[Rp]at hp
  subst hp
  simp only[litV,Option.some.injEq]at hl
  subst hl
  exact⟨arr,rfl,rfl,fun _ _=>rfl,[],by simp only[AV.Ra],fun k hk=>by simp at hk⟩
 | (j,v) :: rest,vparts,i,as,arr,hp,hl,ha=>by
  simp only[Rp]at hp
  obtain⟨c,ys',rfl,hv,hp⟩:=hp
  simp only[litV]at hl
  split at hl
  ·rename_i hij
   subst hij
   split at hl
   ·rename_i a as' hd has'
    simp only[Option.some.injEq]at hl
    subst hl
    have hra:=AV.asCells_R hd hv
    simp only[AV.Ra]at hra
    obtain⟨u,us,hcu,hu1,hu2,rfl⟩:=hra
    simp only[List.length_cons]at ha
    obtain⟨arr',g1,g2,g3,vs,g4,g5⟩:=fill_litV rest ys' (i+1) as' (arr.set i u) hp has' (by rw[List.length_set,ha];omega)
    refine⟨arr',?_,by rw[g2,List.length_set],fun j hj=>?_,u :: vs,by simp only[AV.Ra];exact⟨u,vs,rfl,hu1,hu2,g4⟩,fun k hk=>?_⟩
    ·have hcs:c.cells.size=1:=by rw[← Array.length_toList,hcu];rfl
     simp only[Instr.fill]
     rw[if_neg ?_,foldl_spliceA]
     ·rw[hcu,Nat.mul_one]
      simpa [spliceV] using g1
     ·simp only[List.size_toArray,Bool.or_eq_true,decide_eq_true_eq]
      omega
    ·rw[g3 j (by omega),List.getElem?_set,if_neg (by omega)]
    ·cases k with
     | zero =>
      rw[Nat.add_zero,g3 i (by omega),List.getElem?_set]
      simp
      omega
     | succ k =>
      have:=g5 k (by simpa using hk)
      rw[show i+1+k=i+(k+1) by omega]at this
      rw[this];simp
   ·cases hl
  ·cases hl
theorem buildSlicew_sound(hc:Conc F φ own w){t:TypeId}{len:Nat}{parts:List (Nat×AV)}{vparts:List (Nat×Value)}{K:AV->List Obj->List Nat->Prop}(hp:Rp F φ w parts vparts)(h:buildSlicew P (tyOf P t) own len parts K) :
  Does P F φ w (Instr.buildSlice t len vparts.toArray) K:=by
 unfold buildSlicew at h
 split at h
 ·rename_i τ hτ
  split at h
  ·rename_i e hd
   split at h
   ·rename_i τe ds hτe hds'
    have hds:=litN_some hds'
    obtain⟨hlen,hes,hpos,h24,⟨z,hz,hzs⟩,hf,hK⟩:=h
    have hu:=run_und (P:=P) w hτ
    rw[hd]at hu
    let arr0:Array Value:=(Array.range (len*τe.size)).map (z.cells[· % z.cells.size]!)
    have ha0:arr0.toList.length=(0+ds.length)*τe.size:=by simp[arr0,hlen]
    obtain⟨arr',g1,g2,g3,g4⟩:=fill_lit (F:=F) (φ:=φ) (w:=w) τe.size hpos parts vparts 0 ds τe.want arr0.toList hp hds hes hf ha0
    rw[Array.toArray_toList]at g1
    have hmax:len<=maxLen:=by
     have:len<=len*τe.size:=Nat.le_mul_of_pos_right _ hpos
     simp only[maxLen];omega
    refine newRow_sound hc (ag:=τe.want) (ds:=ds) (css:=arr'.toArray) (len:=len) (cap:=len) (w0:=w) (e:=e) hlen.symm (Nat.le_refl _) hmax ?_ ?_ rfl rfl rfl rfl hK ?_
    ·rw[List.size_toArray,g2,ha0,hes,hlen,Nat.zero_add]
    ·intro i d hdd
     obtain⟨cs,k1,k2,k3,k4,_⟩:=g4 i d hdd
     refine⟨cs,k1,fun j hj=>?_,k3,k4⟩
     have:=k2 j hj
     rw[Nat.zero_add]at this
     simpa using this
    ·have h24':¬(len*τe.size > 16777216):=by omega
     simp only[Instr.buildSlice,Sem.run_bind,hu,Result.andThen_ok,run_size w hτe,Nat.reducePow,h24',if_false]
     by_cases h0:len*τe.size=0
     ·have e0:(Array.range (len*τe.size)).map (fun x=>(#[]:Array Value)[x % (#[]:Array Value).size]!)=arr0:=by simp[arr0,h0]
      rw[if_pos h0]
      simp only[Sem.run_bind,Sem.run_pure,Result.andThen_ok,e0,g1,newRow,run_newObj]
      rfl
     ·rw[if_neg h0]
      have e0:(Array.range (len*τe.size)).map (fun x=>z.cells[x % z.cells.size]!)=arr0:=rfl
      simp only[Sem.run_bind,run_zero w hτe hz,Sem.run_pure,Result.andThen_ok,e0,g1,newRow,run_newObj]
      rfl
   ·rename_i τe hτe hnone
    split at h
    ·rename_i as has
     obtain⟨hlen,hs1,h24,⟨z,hz,hzs⟩,hK⟩:=h
     have hu:=run_und (P:=P) w hτ
     rw[hd]at hu
     let arr0:Array Value:=(Array.range (len*1)).map (z.cells[· % z.cells.size]!)
     have ha0:arr0.toList.length=0+as.length:=by simp[arr0,hlen]
     obtain⟨arr',g1,g2,g3,vs,g4,g5⟩:=fill_litV (F:=F) (φ:=φ) (w:=w) parts vparts 0 as arr0.toList hp has ha0
     rw[Array.toArray_toList]at g1
     have hmax:len<=maxLen:=by simp only[maxLen];omega
     refine newVec_sound hc (cs:=as) (css:=arr'.toArray) (len:=len) (cap:=len) (w0:=w) (e:=e) hlen.symm (Nat.le_refl _) hmax ?_ g4 (fun j hj=>?_) rfl rfl rfl rfl hK ?_
     ·rw[List.size_toArray,g2,ha0,hlen,Nat.zero_add]
     ·have:=g5 j hj
      rw[Nat.zero_add]at this
      simpa using this
     ·have h24':¬(len*1 > 16777216):=by omega
      simp only[Instr.buildSlice,Sem.run_bind,hu,Result.andThen_ok,run_size w hτe,hs1,Nat.reducePow,h24',if_false]
      by_cases h0:len*1=0
      ·have e0:(Array.range (len*1)).map (fun x=>(#[]:Array Value)[x % (#[]:Array Value).size]!)=arr0:=by simp[arr0,h0]
       rw[if_pos h0]
       simp only[Sem.run_bind,Sem.run_pure,Result.andThen_ok,e0,g1,newRow,run_newObj]
       rfl
      ·rw[if_neg h0]
       have e0:(Array.range (len*1)).map (fun x=>z.cells[x % z.cells.size]!)=arr0:=rfl
       simp only[Sem.run_bind,run_zero w hτe hz,Sem.run_pure,Result.andThen_ok,e0,g1,newRow,run_newObj]
       rfl
    ·split at h
     ·rename_i vs _
      obtain⟨rfl,hvl,hpos,h24,⟨z,hz,hzs⟩,hK⟩:=h
      simp only[Rp]at hp
      obtain⟨c,ys',rfl,hv,rfl⟩:=hp
      have hra:=AV.asCells_R (x:=.agg vs) rfl hv
      have hcl:=AV.Ra_length hra
      rw[Array.length_toList]at hcl
      have hu:=run_und (P:=P) w hτ
      rw[hd]at hu
      let arr0:Array Value:=(Array.range (1*τe.size)).map (z.cells[· % z.cells.size]!)
      have ha0:arr0.size=τe.size:=by simp[arr0]
      have g1:Instr.fill (fun i=>some (i*τe.size,τe.size)) arr0 [(0,c)]=some c.cells.toList.toArray:=by
       have h1:spliceV arr0.toList 0 c.cells.toList=c.cells.toList:=by
        have hq:∀(us cs:List Value) (off:Nat),off+us.length=cs.length->spliceV cs off us=cs.take off++us:=by
         intro us
         induction us with
         | nil=>intro cs off h;simp only[spliceV,List.append_nil];rw[List.take_of_length_le (by simp at h;omega)]
         | cons u us ih =>
          intro cs off h
          simp only[List.length_cons]at h
          simp only[spliceV]
          rw[ih _ _ (by rw[List.length_set];omega),List.take_add_one,List.take_set_of_le (Nat.le_refl _),List.getElem?_set_self (by omega),List.append_assoc]
          rfl
        rw[hq _ _ 0 (by rw[Array.length_toList,Array.length_toList,ha0];omega)]
        rfl
       simp only[Instr.fill]
       rw[if_neg ?_]
       ·have:=foldl_spliceA c.cells (0*τe.size) arr0
        rw[Nat.zero_mul]at this ⊢
        rw[this,h1]
       ·simp only[Nat.zero_mul,Nat.zero_add,Bool.or_eq_true,decide_eq_true_eq,bne_iff_ne,ne_eq]
        omega
      refine newTab_sound hc (k:=τe.size) (cs:=vs) (css:=c.cells.toList.toArray) (len:=1) (cap:=1) (w0:=w) (e:=e) (by omega) (Nat.le_refl _) (by simp only[maxLen];omega) (by rw[List.size_toArray,Array.length_toList];omega) hra (fun j hj=>by rw[List.getElem?_toArray]) rfl rfl rfl rfl hK ?_
      have h24':¬(1*τe.size > 16777216):=by omega
      simp only[Instr.buildSlice,Sem.run_bind,hu,Result.andThen_ok,run_size w hτe,Nat.reducePow,h24',if_false]
      rw[if_neg (by omega)]
      have e0:(Array.range (1*τe.size)).map (fun x=>z.cells[x % z.cells.size]!)=arr0:=rfl
      simp only[Sem.run_bind,run_zero w hτe hz,Sem.run_pure,Result.andThen_ok,e0,g1,newRow,run_newObj]
      rfl
     ·exact h.elim
   ·exact h.elim
  ·exact h.elim
 ·exact h.elim
end
end Go.AM
namespace Go.AM
open Go
section
variable {P:Program} {F:Nat->Prop} {φ:Nat->Option Loc} {own:List Obj} {w:World}
def constD:Value->Option D
 | .int k n=>if (Lit.int k n).wf=true then some (.int k n) else none
 | .bool b=>some (.bool b)
 | .string s=>if s.size<=1000000 then some (.str s.data.toList) else none
 | .slice none 0 0=>some (.sl none [])
 | _=>none
theorem constD_spec{v:Value}{d:D}(h:constD v=some d):d.isAgg=false/\D.C F w d [v]:=by
 unfold constD at h
 split at h
 ·split at h
  ·rename_i hw;cases h;exact⟨rfl,by simp only[D.C];exact⟨trivial,hw⟩⟩
  ·cases h
 ·cases h;exact⟨rfl,by simp only[D.C]⟩
 ·split at h
  ·rename_i hs;cases h
   exact⟨rfl,by simp only[D.C];exact⟨trivial,by rw[Array.length_toList];exact Nat.le_trans hs maxLen_big⟩⟩
  ·cases h
 ·cases h;exact⟨rfl,nils_C⟩
 ·cases h
def constDs:List Value->Option (List D)
 | []=>some []
 | v :: vs=>match constD v,constDs vs with|some d,some ds=>some (d :: ds)|_,_=>none
theorem constDs_spec:∀{vs:List Value} {ds:List D},constDs vs=some ds->D.Cs F w ds vs
 | [],ds,h=>by simp only[constDs,Option.some.injEq]at h;subst h;simp only[D.Cs]
 | v :: vs,ds,h=>by
  simp only[constDs]at h
  split at h
  ·rename_i d ds' h1 h2
   cases h
   obtain⟨g1,g2⟩:=constD_spec (F:=F) (w:=w) h1
   simp only[D.Cs]
   exact⟨v,vs,rfl,g1,g2,constDs_spec h2⟩
  ·cases h
def zeroElem(τ:Ty):Option D :=
 match τ.agg,τ.zero with
 | false,some v=>constD v
 | true,some (.agg z)=>(constDs z.toList).map .agg
 | _,_=>none
theorem zeroElem_spec{τ:Ty}{d:D}(h:zeroElem τ=some d):∃z,τ.zero=some z/\d.isAgg=τ.want.isSome/\D.C F w d z.cells.toList:=by
 unfold zeroElem at h
 split at h
 ·rename_i v ha hz
  obtain⟨g1,g2⟩:=constD_spec (F:=F) (w:=w) h
  have h1:=D.C_one g1 g2
  refine⟨v,hz,by simp[Ty.want,ha,g1],?_⟩
  have:v.cells.toList=[v]:=by cases v <;> first|rfl|simp[Value.oneCell']at h1
  rw[this];exact g2
 ·rename_i z ha hz
  simp only[Option.map_eq_some_iff]at h
  obtain⟨ds,g1,rfl⟩:=h
  refine⟨.agg z,hz,by simp[Ty.want,ha,D.isAgg],?_⟩
  simp only[Value.cells,D.C]
  exact constDs_spec g1
 ·cases h
def isNilSl:Option Value->Bool
 | some (.slice none 0 0)=>true
 | _=>false
theorem isNilSl_ok{z:Option Value}(h:isNilSl z=true):z=some (.slice none 0 0):=by
 unfold isNilSl at h
 split at h
 ·rfl
 ·cases h
theorem Ra_nils(n:Nat):AV.Ra F φ w (List.replicate n .nils) (List.replicate n (.slice none 0 0)):=by
 induction n with
 | zero=>simp only[List.replicate_zero,AV.Ra]
 | succ n ih=>simp only[List.replicate_succ,AV.Ra];exact⟨_,_,rfl,rfl,by simp only[AV.R],ih⟩
def makeSlicew(P:Program)(τ:Option Ty)(own:List Obj)(l c:AV)(K:AV->List Obj->List Nat->Prop):Prop :=
 match τ,l,c with
 | some τ,.dat (.int .i64 l),.dat (.int .i64 c)=>(match τ.desc with
  | .slice e=>(match tyOf P e with
   | some τe=>(match isNilSl τe.zero with
    | true=>0<=l/\l<=c/\(τe.bytes:Int)*c<=281474976710656/\τe.size=1/\K (.sl own.length 0 l.toNat) (own++[.vec (List.replicate l.toNat .nils)]) []
    | false=>(match zeroElem τe with
     | some z=>0<=l/\l<=c/\(τe.bytes:Int)*c<=281474976710656/\es τe.want=τe.size/\z.fits τe.want/\K (.sl own.length 0 l.toNat) (own++[.row τe.want (List.replicate l.toNat z)]) []
     | none=>False))
   | none=>False)
  | _=>False)
 | _,_,_=>False
theorem makeSlicew_sound(hc:Conc F φ own w){t:TypeId}{l c:AV}{cl cc:Value}{K:AV->List Obj->List Nat->Prop}(hl:AV.R F φ w l cl)(hcc:AV.R F φ w c cc)(h:makeSlicew P (tyOf P t) own l c K) :
  Does P F φ w (Instr.makeSlice t cl cc) K:=by
 unfold makeSlicew at h
 split at h
 ·rename_i τ l c hτ
  split at h
  ·rename_i e hd
   split at h
   ·rename_i τe hτe
    split at h
    ·rename_i hnz
     obtain⟨h0,h1,h2,hs1,hK⟩:=h
     obtain⟨rfl,hl1⟩:=R_int.1 hl
     obtain⟨rfl,hc1⟩:=R_int.1 hcc
     obtain⟨hu1,_,_⟩:=tyOf_spec hτ
     rw[hd]at hu1
     obtain⟨_,_,i,hi,k1,k2,k3⟩:=tyOf_spec hτe
     have hc2:c<=9223372036854775807:=(inR_i64.1 hc1).2
     have hrun:=run_make (P:=P) w t e i (.slice none 0 0) hu1 hi (k3.trans (isNilSl_ok hnz)) .i64 .i64 l c h0 h1 (by rw[k2];exact h2) hc2
     refine newVec_sound hc (cs:=List.replicate l.toNat .nils) (len:=l.toNat) (cap:=c.toNat) (w0:=w) (e:=e) (by simp) (by omega) (by simp only[maxLen];omega) ?_ (Ra_nils l.toNat) ?_ rfl rfl rfl rfl hK hrun
     ·rw[size_madeCells,k1,hs1,Nat.mul_one]
     ·intro j hj
      simp only[List.length_replicate]at hj
      have hlt:j<c.toNat*i.size:=by rw[k1,hs1];omega
      unfold madeCells
      rw[Array.getElem?_map,Array.getElem?_range,if_pos hlt]
      simp[Value.cells,hj,Nat.mod_one]
    split at h
    ·rename_i z hz
     obtain⟨h0,h1,h2,hes,hfits,hK⟩:=h
     obtain⟨rfl,hl1⟩:=R_int.1 hl
     obtain⟨rfl,hc1⟩:=R_int.1 hcc
     obtain⟨hu1,_,_⟩:=tyOf_spec hτ
     rw[hd]at hu1
     obtain⟨_,_,i,hi,k1,k2,k3⟩:=tyOf_spec hτe
     obtain⟨zv,g1,g2,g3⟩:=zeroElem_spec (F:=F) (w:=w) hz
     have hc2:c<=9223372036854775807:=(inR_i64.1 hc1).2
     have hrun:=run_make (P:=P) w t e i zv hu1 hi (k3.trans g1) .i64 .i64 l c h0 h1 (by rw[k2];exact h2) hc2
     have hzl:zv.cells.size=es τe.want:=by
      cases z with
      | agg ds =>
       simp only[D.C]at g3
       have:=D.Cs_length _ _ g3
       have f2:=hfits.2
       simp only[D.size]at f2
       rw[← f2,← this,Array.length_toList]
      | _ =>
       obtain⟨c',hc'⟩:=D.C_single rfl g3
       have f2:=hfits.2
       simp only[D.size]at f2
       rw[← f2,← Array.length_toList,hc'];rfl
     refine newRow_sound hc (ag:=τe.want) (ds:=List.replicate l.toNat z) (len:=l.toNat) (cap:=c.toNat) (w0:=w) (e:=e) (by simp) (by omega) (by simp only[maxLen];omega) ?_ ?_ rfl rfl rfl rfl hK hrun
     ·rw[size_madeCells,k1,hes]
     ·intro i' d hd'
      have hi':i'<l.toNat:=by
       rcases Nat.lt_or_ge i' l.toNat with h|h
       ·exact h
       ·rw[List.getElem?_eq_none (by simpa using h)]at hd';cases hd'
      simp only[List.getElem?_replicate,hi',if_true,Option.some.injEq]at hd'
      subst hd'
      refine⟨zv.cells.toList,by rw[Array.length_toList,hzl],fun j hj=>?_,g2,g3⟩
      have hlt:i'*es τe.want+j<c.toNat*i.size:=by
       rw[k1,← hes]
       have:(i'+1)*es τe.want<=c.toNat*es τe.want:=Nat.mul_le_mul_right _ (by omega)
       rw[Nat.add_mul]at this
       omega
      have hmod:(i'*es τe.want+j) % zv.cells.size=j:=by
       rw[hzl,Nat.add_comm,Nat.add_mul_mod_self_right,Nat.mod_eq_of_lt hj]
      have hjz:j<zv.cells.size:=by rw[hzl];exact hj
      have e1:(madeCells zv.cells (c.toNat*i.size))[i'*es τe.want+j]?=some zv.cells[j]:=by
       unfold madeCells
       rw[Array.getElem?_map,Array.getElem?_range,if_pos hlt]
       simp only[Option.map_some,hmod,Option.some.injEq]
       exact getElem!_pos zv.cells j hjz
      rw[e1]
      simp[hjz]
    ·exact h.elim
   ·exact h.elim
  ·exact h.elim
 ·exact h.elim
def D.setPart(d:D)(j:Nat)(x:D):D :=
 match d with
 | .agg ds=>.agg (ds.set j x)
 | d=>d
def storeObj(τ:Ty)(obj:Obj)(i j:Nat)(x:AV)(K:Obj->Prop):Prop :=
 match obj with
 | .row none xs=>(match τ.agg with
  | false=>τ.size=1/\j=0/\i<xs.length/\(match x.pure with|some d=>d.isAgg=false/\K (.row none (xs.set i d))|none=>False)
  | true=>i=0/\j=0/\τ.size=xs.length/\(match x.pure with|some (.agg ds)=>ds.length=xs.length/\K (.row none ds)|_=>False))
 | .row (some k) xs=>i<xs.length/\(match x.pure with
   | some d=>if τ.agg then j=0/\τ.size=k/\d.fits (some k)/\K (.row (some k) (xs.set i d)) else τ.size=1/\j<k/\d.isAgg=false/\K (.row (some k) (xs.set i (D.setPart (D.nth xs i) j d)))
   | none=>False)
 | .vec cs=>τ.size=1/\j=0/\i<cs.length/\(match x.asCells with|some [v]=>K (.vec (cs.set i v))|_=>False)
 | .tab k cs=>(match x.asCells with|some vs=>vs.length=τ.size/\i*k+j+vs.length<=cs.length/\K (.tab k (splice cs (i*k+j) vs))|none=>False)
 | .bld t u cs=>τ.size=1/\i=0/\j=1/\(match x.asCells with|some [v]=>K (.bld t u [v])|_=>False)
 | .box cs=>i=0/\(match x.asCells with|some vs=>vs.length=τ.size/\j+vs.length<=cs.length/\K (.box (splice cs j vs))|none=>False)
 | _=>False
def storew(τ:Option Ty)(own:List Obj)(a x:AV)(K:AV->List Obj->List Nat->Prop):Prop :=
 match τ,a with
 | some τ,.ptr o i j=>storeObj τ (own.getD o .dead) i j x (fun obj=>K .top (own.set o obj) [])
 | _,_=>False
theorem D.Cr_write{w':World}{ag:Option Nat}{b base i:Nat}{xs:List D}{d:D}{cs:List Value}{arr arr':Array Value}{ty:TypeId}(hw:Same F w w')(hh:w.heap[b]?=some (.cells arr ty (0,0)))(hh':w'.heap[b]?=some (.cells arr' ty (0,0)))
  (hi:i<xs.length) (hrow:D.Cr F w ag b base xs) (hcs:cs.length=es ag) (ha:d.isAgg=ag.isSome) (hd:D.C F w d cs)
  (hin:∀j,j<es ag->arr'[base+i*es ag+j]?=cs[j]?) (hout:∀p,(p<base+i*es ag∨base+i*es ag+es ag<=p)->arr'[p]?=arr[p]?):D.Cr F w' ag b base (xs.set i d):=by
 have hcell:∀p,w.cell? ⟨b,p,none⟩=arr[p]?:=fun p=>by simp[World.cell?,hh]
 have hcell':∀p,w'.cell? ⟨b,p,none⟩=arr'[p]?:=fun p=>by simp[World.cell?,hh']
 refine D.Cr_iff.2 fun k d' hk=>?_
 rw[List.getElem?_set]at hk
 by_cases e:i=k
 ·subst e
  simp only[if_true,hi]at hk
  cases hk
  exact⟨cs,hcs,fun j hj=>by rw[hcell'];exact hin j hj,ha,D.C_mono (fun _ h=>h) hw _ _ hd⟩
 ·simp only[e,if_false]at hk
  obtain⟨cs',g1,g2,g3,g4⟩:=D.Cr_iff.1 hrow k d' hk
  refine⟨cs',g1,fun j hj=>?_,g3,D.C_mono (fun _ h=>h) hw _ _ g4⟩
  rw[hcell',hout,← hcell]
  ·exact g2 j hj
  ·rcases Nat.lt_or_gt_of_ne e with h|h
   ·right
    have:=Nat.mul_le_mul_right (es ag) (show i+1<=k by omega)
    rw[Nat.add_mul]at this
    omega
   ·left
    have:=Nat.mul_le_mul_right (es ag) (show k+1<=i by omega)
    rw[Nat.add_mul]at this
    omega
theorem run_storeAt{t:TypeId}{τ:Ty}(hτ:tyOf P t=some τ){b off:Nat}{arr:Array Value}{ty:TypeId}{c:Value}(hh:w.heap[b]?=some (.cells arr ty (0,0)))(hs:c.cells.size=τ.size)(hfit:off+c.cells.size<=arr.size)
  (h1:∀u∈c.cells.toList,u.oneCell'=true):(Instr.storeAt t (.pointer (some ⟨b,off,none⟩)) c).run P w=.ok () (w.setRow b (arr.toList.take off++c.cells.toList++arr.toList.drop (off+c.cells.size)).toArray):=by
 have hst:=run_storeCells_at P b off ty c.cells.toList 0 arr w hh (by simpa using hfit) h1
 simp only[Instr.storeAt,Instr.sureAddr,Sem.run_bind,Sem.run_pure,Result.andThen_ok,storeVar,run_size w hτ,hs,ne_eq,not_true_eq_false,if_false]
 rw[hst]
 simp[hs]
theorem laid_in{arr:Array Value}{cs:List Value}{off:Nat}(hfit:off+cs.length<=arr.size)(p:Nat) :
  (arr.toList.take off++cs++arr.toList.drop (off+cs.length)).toArray[p]?=if off<=p/\p<off+cs.length then cs[p - off]? else arr[p]?:=by
 simp only[List.getElem?_toArray]
 have hl:(arr.toList.take off).length=off:=by simp;omega
 by_cases h1:p<off
 ·rw[List.append_assoc,List.getElem?_append_left (by omega),List.getElem?_take,if_pos h1,if_neg (by omega)]
  simp
 ·by_cases h2:p<off+cs.length
  ·rw[List.getElem?_append_left (by simp;omega),List.getElem?_append_right (by omega),hl,if_pos ⟨by omega,h2⟩]
  ·rw[List.getElem?_append_right (by simp;omega),if_neg (by omega),List.getElem?_drop]
   simp only[List.length_append,hl]
   rw[show off+cs.length+(p - (off+cs.length))=p by omega]
   simp
theorem spliceV_eq:∀(us cs:List Value) (off:Nat),off+us.length<=cs.length->spliceV cs off us=cs.take off++us++cs.drop (off+us.length)
 | [],cs,off,_=>by simp[spliceV]
 | u :: us,cs,off,h=>by
  simp only[List.length_cons]at h
  rw[spliceV,spliceV_eq us _ _ (by simp;omega)]
  have e1:(cs.set off u).take (off+1)=cs.take off++[u]:=by
   rw[List.take_succ_eq_append_getElem (by simp;omega)]
   simp[List.take_set_of_le]
  rw[e1]
  have e2:(cs.set off u).drop (off+1+us.length)=cs.drop (off+1+us.length):=by rw[List.drop_set_of_lt (by omega)]
  rw[e2]
  simp[Nat.add_assoc,Nat.add_comm 1]
theorem cell_of{b:Nat}{arr:Array Value}{ty:TypeId}(hh:w.heap[b]?=some (.cells arr ty (0,0)))(p:Nat):w.cell? ⟨b,p,none⟩=arr[p]?:=by simp[World.cell?,hh]
theorem Cr_of_Cs{b:Nat}:∀(ds:List D) (cs:List Value) (off:Nat),D.Cs F w ds cs->(∀j,j<ds.length->w.cell? ⟨b,off+j,none⟩=cs[j]?)->D.Cr F w none b off ds
 | [],_,_,_,_=>by simp only[D.Cr]
 | d :: ds,cs,off,h,hc=>by
  simp only[D.Cs]at h
  obtain⟨c,cs',rfl,h0,h1,h2⟩:=h
  simp only[D.Cr,es]
  refine⟨⟨[c],rfl,fun j hj=>?_,by simpa using h0,h1⟩,Cr_of_Cs ds cs' (off+1) h2 fun j hj=>?_⟩
  ·have:=hc j (by simp only[List.length_cons];omega)
   rw[this]
   have:j=0:=by omega
   subst this
   rfl
  ·have:=hc (j+1) (by simp only[List.length_cons];omega)
   rw[show off+1+j=off+(j+1) by omega,this]
   simp
theorem storew_sound(hc:Conc F φ own w){t:TypeId}{a x:AV}{ca cx:Value}{K:AV->List Obj->List Nat->Prop}(ha:AV.R F φ w a ca)(hx:AV.R F φ w x cx)(h:storew (tyOf P t) own a x K) :
  ∃v own' kl F' φ' w',(Instr.storeAt t ca cx).run P w=.ok () w'/\After F φ w F' φ' own' w' kl/\v=.top/\K v own' kl:=by
 unfold storew at h
 split at h
 ·rename_i τ o i j hτ
  simp only[AV.R]at ha
  obtain⟨L,ho,hn,rfl⟩:=ha
  have hr:=getObj_rep hc ho
  unfold storeObj at h
  split at h
  ·
   rename_i xs hobj
   rw[hobj]at hr
   simp only[ObjR]at hr
   obtain⟨hsz,hr⟩:=hr
   rcases hr with⟨hnil,_⟩|⟨_,⟨arr,ty,hh,hsize⟩,hfit,hrow⟩
   ·rw[hn]at hnil;cases hnil
   simp only[es]at hsz
   split at h
   rotate_left
   ·obtain⟨rfl,rfl,hts,h⟩:=h
    split at h
    ·rename_i ds hd
     obtain⟨hlen,hK⟩:=h
     obtain⟨k1,k2,k3⟩:=D.fits_cells (ag:=some xs.length) (d:=.agg ds) ⟨rfl,by simpa [D.size,es] using hlen⟩ (pure_R hd hx)
     simp only[es]at k1
     have hpos:L.base+0*L.sz+0+cx.cells.size<=arr.size:=by
      rw[hsize,k1];rw[hsz]at hfit;omega
     have hrun:=run_storeAt (P:=P) hτ (off:=L.base+0*L.sz+0) hh (by rw[k1,hts]) hpos k3
     have hl:=laid_in (arr:=arr) (cs:=cx.cells.toList) (off:=L.base+0*L.sz+0) (by simpa using hpos)
     simp only[Array.length_toList]at hl
     refine⟨.top,_,[],F,φ,_,hrun,After.write hc ho hn rfl rfl rfl (by simp) (fun b hb=>setRow_other w L.b b _ hb) ?_,rfl,hK⟩
     have hh':=setRow_heap w L.b arr (arr.toList.take (L.base+0*L.sz+0)++cx.cells.toList++arr.toList.drop (L.base+0*L.sz+0+cx.cells.size)).toArray ty _ hh
     simp only[ObjR]
     refine⟨hsz,.inr ⟨hn,⟨_,ty,hh',?_⟩,by rw[hlen];exact hfit,?_⟩⟩
     ·simp;omega
     ·simp only[D.C]at k2
      refine Cr_of_Cs ds cx.cells.toList L.base (D.Cs_mono (fun _ h=>h) (hc.sameOf ho hn (fun b hb=>setRow_other w L.b b _ hb)) _ _ k2) (fun j hj=>?_)
      rw[cell_of hh',hl,if_pos ⟨by omega,by omega⟩]
      congr 1;omega
    ·exact h.elim
   obtain⟨hts,rfl,hi,h⟩:=h
   split at h
   ·rename_i d hd
    obtain⟨hda,hK⟩:=h
    obtain⟨k1,k2,k3⟩:=D.fits_cells (ag:=none) (by refine⟨by simpa using hda,?_⟩;cases d <;> first|rfl|simp[D.isAgg]at hda) (pure_R hd hx)
    simp only[es]at k1
    have hpos:L.base+i*L.sz+0+cx.cells.size<=arr.size:=by
     rw[hsize,k1,hsz];rw[hsz]at hfit;omega
    have hrun:=run_storeAt (P:=P) hτ (off:=L.base+i*L.sz+0) hh (by rw[k1,hts]) hpos k3
    have hl:=laid_in (arr:=arr) (cs:=cx.cells.toList) (off:=L.base+i*L.sz+0) (by simpa using hpos)
    simp only[Array.length_toList]at hl
    refine⟨.top,_,[],F,φ,_,hrun,After.write hc ho hn rfl rfl rfl (by simp) (fun b hb=>setRow_other w L.b b _ hb) ?_,rfl,hK⟩
    have hh':=setRow_heap w L.b arr (arr.toList.take (L.base+i*L.sz+0)++cx.cells.toList++arr.toList.drop (L.base+i*L.sz+0+cx.cells.size)).toArray ty _ hh
    simp only[ObjR]
    refine⟨hsz,.inr ⟨hn,⟨_,ty,hh',?_⟩,by simpa using hfit,?_⟩⟩
    ·simp;omega
    ·refine D.Cr_write (hc.sameOf ho hn (fun b hb=>setRow_other w L.b b _ hb)) hh hh' hi hrow (cs:=cx.cells.toList) (by simpa [es] using k1) (by simpa using hda) k2 (fun j hj=>?_) (fun p hp=>?_)
     ·simp only[es]at hj ⊢
      rw[hl,hsz,if_pos ⟨by omega,by omega⟩]
      congr 1;omega
     ·simp only[es]at hp
      rw[hl,hsz,if_neg (by omega)]
   ·exact h.elim
  ·
   rename_i k xs hobj
   rw[hobj]at hr
   simp only[ObjR]at hr
   obtain⟨hsz,hr⟩:=hr
   rcases hr with⟨hnil,_⟩|⟨_,⟨arr,ty,hh,hsize⟩,hfit,hrow⟩
   ·rw[hn]at hnil;cases hnil
   simp only[es]at hsz
   obtain⟨hi,h⟩:=h
   have hik:L.base+i*k+k<=arr.size:=by
    have:=Nat.mul_le_mul_right k (show i+1<=xs.length by omega)
    rw[Nat.add_mul]at this
    rw[hsz]at hfit
    omega
   split at h
   ·rename_i d hd
    cases hagg:τ.agg with
    | true =>
     rw[hagg]at h
     simp only[if_true]at h
     obtain⟨rfl,hts,hf,hK⟩:=h
     obtain⟨k1,k2,k3⟩:=D.fits_cells hf (pure_R hd hx)
     simp only[es]at k1
     have hpos:L.base+i*L.sz+0+cx.cells.size<=arr.size:=by rw[hsz,k1];omega
     have hrun:=run_storeAt (P:=P) hτ (off:=L.base+i*L.sz+0) hh (by rw[k1,hts]) hpos k3
     have hl:=laid_in (arr:=arr) (cs:=cx.cells.toList) (off:=L.base+i*L.sz+0) (by simpa using hpos)
     simp only[Array.length_toList]at hl
     refine⟨.top,_,[],F,φ,_,hrun,After.write hc ho hn rfl rfl rfl (by simp) (fun b hb=>setRow_other w L.b b _ hb) ?_,rfl,hK⟩
     have hh':=setRow_heap w L.b arr (arr.toList.take (L.base+i*L.sz+0)++cx.cells.toList++arr.toList.drop (L.base+i*L.sz+0+cx.cells.size)).toArray ty _ hh
     simp only[ObjR]
     refine⟨hsz,.inr ⟨hn,⟨_,ty,hh',?_⟩,by simpa using hfit,?_⟩⟩
     ·simp;omega
     ·refine D.Cr_write (hc.sameOf ho hn (fun b hb=>setRow_other w L.b b _ hb)) hh hh' hi hrow (cs:=cx.cells.toList) (by simpa [es] using k1) hf.1 k2 (fun j hj=>?_) (fun p hp=>?_)
      ·simp only[es]at hj ⊢
       rw[hl,hsz,if_pos ⟨by omega,by omega⟩]
       congr 1;omega
      ·simp only[es]at hp
       rw[hl,hsz,if_neg (by omega)]
    | false =>
     rw[hagg]at h
     simp only[Bool.false_eq_true,if_false]at h
     obtain⟨hts,hj,hda,hK⟩:=h
     obtain⟨k1,k2,k3⟩:=D.fits_cells (ag:=none) (by refine⟨by simpa using hda,?_⟩;cases d <;> first|rfl|simp[D.isAgg]at hda) (pure_R hd hx)
     simp only[es]at k1
     obtain⟨cs,g1,g2,g3,g4⟩:=D.Cr_iff.1 hrow i _ (nth_get hi)
     simp only[es]at g1
     obtain⟨c0,hc0⟩:∃c0,cx.cells.toList=[c0]:=by
      have:cx.cells.toList.length=1:=by simpa using k1
      match hcx:cx.cells.toList,this with
      | [c0],_=>exact⟨c0,rfl⟩
     have hpos:L.base+i*L.sz+j+cx.cells.size<=arr.size:=by rw[hsz,k1];omega
     have hrun:=run_storeAt (P:=P) hτ (off:=L.base+i*L.sz+j) hh (by rw[k1,hts]) hpos k3
     have hl:=laid_in (arr:=arr) (cs:=cx.cells.toList) (off:=L.base+i*L.sz+j) (by simpa using hpos)
     simp only[Array.length_toList]at hl
     refine⟨.top,_,[],F,φ,_,hrun,After.write hc ho hn rfl rfl rfl (by simp) (fun b hb=>setRow_other w L.b b _ hb) ?_,rfl,hK⟩
     have hh':=setRow_heap w L.b arr (arr.toList.take (L.base+i*L.sz+j)++cx.cells.toList++arr.toList.drop (L.base+i*L.sz+j+cx.cells.size)).toArray ty _ hh
     have hcell:∀p,w.cell? ⟨L.b,p,none⟩=arr[p]?:=fun p=>by simp[World.cell?,hh]
     simp only[ObjR]
     refine⟨hsz,.inr ⟨hn,⟨_,ty,hh',?_⟩,by simpa using hfit,?_⟩⟩
     ·simp;omega
     ·generalize hnd:D.nth xs i=nd at *
      cases nd <;> simp[D.isAgg]at g3
      rename_i ds
      simp only[D.C]at g4
      obtain⟨q1,q2⟩:=D.Cs_iff.1 g4
      refine D.Cr_write (hc.sameOf ho hn (fun b hb=>setRow_other w L.b b _ hb)) hh hh' hi hrow (cs:=cs.set j c0) (by simpa [es] using g1) rfl ?_ (fun j' hj'=>?_) (fun p hp=>?_)
      ·simp only[D.setPart,D.C]
       refine D.Cs_iff.2 ⟨by simpa using q1,fun m d' c' hm1 hm2=>?_⟩
       rw[List.getElem?_set]at hm1 hm2
       by_cases e:j=m
       ·subst e
        have:j<ds.length:=by omega
        simp only[if_true,this,show j<cs.length by omega]at hm1 hm2
        cases hm1;cases hm2
        rw[hc0]at k2
        exact⟨by simpa using hda,k2⟩
       ·simp only[e,if_false]at hm1 hm2
        exact q2 m d' c' hm1 hm2
      ·simp only[es]at hj' ⊢
       rw[hl,hsz]
       by_cases e:j=j'
       ·subst e
        rw[if_pos ⟨by omega,by omega⟩,hc0]
        simp[show j<cs.length by omega]
       ·rw[if_neg (by omega),List.getElem?_set,if_neg e]
        have:=g2 j' hj'
        rw[hcell]at this
        simpa [es] using this
      ·simp only[es]at hp
       rw[hl,hsz,if_neg (by omega)]
   ·exact h.elim
  ·
   rename_i cs hobj
   rw[hobj]at hr
   simp only[ObjR]at hr
   obtain⟨hsz,hr⟩:=hr
   obtain⟨hts,rfl,hi,h⟩:=h
   rcases hr with⟨hnil,_⟩|⟨_,arr,ty,hh,hsize,hfit,vs,hra,hcells⟩
   ·rw[hn]at hnil;cases hnil
   split at h
   ·rename_i v hv
    have hra2:=AV.asCells_R hv hx
    have hone:=(AV.Ra_iff.1 hra2).2
    simp only[AV.Ra]at hra2
    obtain⟨u,us,hu,hu1,hu2,rfl⟩:=hra2
    have k1:cx.cells.size=1:=by rw[← Array.length_toList,hu];rfl
    have hpos:L.base+i*L.sz+0+cx.cells.size<=arr.size:=by rw[hsize,k1,hsz];omega
    have hrun:=run_storeAt (P:=P) hτ (off:=L.base+i*L.sz+0) hh (by rw[k1,hts]) hpos hone
    have hl:=laid_in (arr:=arr) (cs:=cx.cells.toList) (off:=L.base+i*L.sz+0) (by simpa using hpos)
    simp only[Array.length_toList]at hl
    refine⟨.top,_,[],F,φ,_,hrun,After.write hc ho hn rfl rfl rfl (by simp) (fun b hb=>setRow_other w L.b b _ hb) ?_,rfl,h⟩
    have hh':=setRow_heap w L.b arr (arr.toList.take (L.base+i*L.sz+0)++cx.cells.toList++arr.toList.drop (L.base+i*L.sz+0+cx.cells.size)).toArray ty _ hh
    have hsame:=hc.sameOf ho hn (fun b hb=>setRow_other w L.b b (arr.toList.take (L.base+i*L.sz+0)++cx.cells.toList++arr.toList.drop (L.base+i*L.sz+0+cx.cells.size)).toArray hb)
    have hlen:=AV.Ra_length hra
    simp only[ObjR]
    refine⟨hsz,.inr ⟨hn,_,ty,hh',by simp;omega,by simpa using hfit,vs.set i u,?_,fun j hj=>?_⟩⟩
    ·exact AV.Ra_mono (fun _ h=>h) hsame (fun _ _ h=>h) _ _ (AV.Ra_set hra i _ u hu1 hu2)
    ·simp only[List.length_set]at hj
     rw[hl,List.getElem?_set]
     by_cases e:i=j
     ·subst e
      rw[if_pos ⟨by rw[hsz];omega,by rw[hsz,k1];omega⟩,if_pos rfl,if_pos (by omega),hu]
      rw[show L.base+i - (L.base+i*L.sz+0)=0 by rw[hsz];omega]
      rfl
     ·rw[if_neg (by rw[hsz,k1];omega),if_neg e]
      exact hcells j hj
   ·exact h.elim
  ·
   rename_i k cs hobj
   rw[hobj]at hr
   simp only[ObjR]at hr
   obtain⟨hsz,hr⟩:=hr
   rcases hr with⟨hnil,_⟩|⟨_,arr,ty,hh,hsize,hfit,vs0,hra,hcells⟩
   ·rw[hn]at hnil;cases hnil
   have hlen:=AV.Ra_length hra
   split at h
   ·rename_i vs hvs
    obtain⟨h1,h2,hK⟩:=h
    have hra2:=AV.asCells_R hvs hx
    have hlen2:=AV.Ra_length hra2
    have hone:=(AV.Ra_iff.1 hra2).2
    have hcs:cx.cells.size=vs.length:=by simpa using hlen2
    have e0:L.base+i*L.sz+j=L.base+(i*k+j):=by rw[hsz,Nat.add_assoc]
    rw[e0]
    have hpos:L.base+(i*k+j)+cx.cells.size<=arr.size:=by rw[hsize,hcs];omega
    have hrun:=run_storeAt (P:=P) hτ (off:=L.base+(i*k+j)) hh (by rw[hcs,h1]) hpos hone
    have hl:=laid_in (arr:=arr) (cs:=cx.cells.toList) (off:=L.base+(i*k+j)) (by simpa using hpos)
    simp only[Array.length_toList]at hl
    refine⟨.top,_,[],F,φ,_,hrun,After.write hc ho hn rfl rfl rfl (by simp) (fun b hb=>setRow_other w L.b b _ hb) ?_,rfl,hK⟩
    have hh':=setRow_heap w L.b arr (arr.toList.take (L.base+(i*k+j))++cx.cells.toList++arr.toList.drop (L.base+(i*k+j)+cx.cells.size)).toArray ty _ hh
    have hsame:=hc.sameOf ho hn (fun b hb=>setRow_other w L.b b (arr.toList.take (L.base+(i*k+j))++cx.cells.toList++arr.toList.drop (L.base+(i*k+j)+cx.cells.size)).toArray hb)
    have e:=spliceV_eq cx.cells.toList vs0 (i*k+j) (by simp;omega)
    simp only[ObjR]
    refine⟨hsz,.inr ⟨hn,_,ty,hh',by simp;omega,by rw[length_splice];exact hfit,spliceV vs0 (i*k+j) cx.cells.toList,?_,fun p hp=>?_⟩⟩
    ·exact AV.Ra_mono (fun _ h=>h) hsame (fun _ _ h=>h) _ _ (splice_R vs _ cs vs0 (i*k+j) hra2 hra)
    ·rw[length_splice]at hp
     rw[hl,e]
     by_cases hp1:i*k+j<=p/\p<i*k+j+cx.cells.size
     ·rw[if_pos ⟨by omega,by omega⟩,List.getElem?_append_left (by simp;omega),List.getElem?_append_right (by simp;omega)]
      congr 1
      simp;omega
     ·rw[if_neg (by omega),hcells p hp]
      rcases Nat.lt_or_ge p (i*k+j) with hq|hq
      ·rw[List.append_assoc,List.getElem?_append_left (by simp;omega),List.getElem?_take,if_pos hq]
      ·rw[List.getElem?_append_right (by simp;omega),List.getElem?_drop]
       congr 1
       simp;omega
   ·exact h.elim
  ·
   rename_i T u cs hobj
   rw[hobj]at hr
   simp only[ObjR]at hr
   obtain⟨_,hbase,arr,_,hh,hsize,hra⟩:=hr
   obtain⟨hts,rfl,rfl,h⟩:=h
   split at h
   ·rename_i v hv
    have hra2:=AV.asCells_R hv hx
    have hone:=(AV.Ra_iff.1 hra2).2
    simp only[AV.Ra]at hra2
    obtain⟨u',us,hu,hu1,hu2,rfl⟩:=hra2
    have k1:cx.cells.size=1:=by rw[← Array.length_toList,hu];rfl
    obtain⟨a0,rfl⟩:∃a0,arr=[a0]:=by
     match arr,hsize with
     | [a0],_=>exact⟨a0,rfl⟩
    simp only[hbase,Nat.zero_mul,Nat.add_zero,Nat.zero_add]
    have hrun:=run_storeAt (P:=P) hτ (off:=1) hh (by rw[k1,hts]) (by simp[k1]) hone
    refine⟨.top,_,[],F,φ,_,hrun,After.write hc ho hn rfl rfl rfl (by simp) (fun b hb=>setRow_other w L.b b _ hb) ?_,rfl,h⟩
    have hh':=setRow_heap w L.b _ ((bldP L u :: [a0]).toArray.toList.take 1++cx.cells.toList++(bldP L u :: [a0]).toArray.toList.drop (1+cx.cells.size)).toArray T _ hh
    simp only[ObjR]
    refine⟨hn,hbase,[u'],(),?_,rfl,?_⟩
    ·rw[hh'];simp[hu,k1]
    ·simp only[AV.Rs]
     exact⟨u',[],rfl,AV.R_mono (fun _ h=>h) (hc.sameOf ho hn (fun b hb=>setRow_other w L.b b _ hb)) (fun _ _ h=>h) _ _ hu2,rfl⟩
   ·exact h.elim
  ·
   rename_i cs hobj
   rw[hobj]at hr
   simp only[ObjR]at hr
   obtain⟨_,hbase,arr,ty,hh,hsize,hra⟩:=hr
   obtain⟨rfl,h⟩:=h
   have hlen:=AV.Ra_length hra
   split at h
   ·rename_i vs hvs
    obtain⟨h1,h2,hK⟩:=h
    have hra2:=AV.asCells_R hvs hx
    have hlen2:=AV.Ra_length hra2
    have hone:=(AV.Ra_iff.1 hra2).2
    have hcs:cx.cells.size=vs.length:=by simpa using hlen2
    simp only[hbase,Nat.zero_mul,Nat.add_zero,Nat.zero_add]
    have hrun:=run_storeAt (P:=P) hτ (off:=j) (arr:=arr.toArray) hh (by rw[hcs,h1]) (by simp;omega) hone
    refine⟨.top,_,[],F,φ,_,hrun,After.write hc ho hn rfl rfl rfl (by simp) (fun b hb=>setRow_other w L.b b _ hb) ?_,rfl,hK⟩
    have hh':=setRow_heap w L.b arr.toArray (arr.toArray.toList.take j++cx.cells.toList++arr.toArray.toList.drop (j+cx.cells.size)).toArray ty _ hh
    simp only[ObjR]
    have e:=spliceV_eq cx.cells.toList arr j (by simp;omega)
    rw[Array.length_toList]at e
    refine⟨hn,hbase,spliceV arr j cx.cells.toList,ty,by rw[e];exact hh',?_,?_⟩
    ·rw[e];simp;omega
    ·refine AV.Ra_mono (fun _ h=>h) (hc.sameOf ho hn (fun b hb=>setRow_other w L.b b _ hb)) (fun _ _ h=>h) _ _ (splice_R vs _ cs arr j hra2 hra)
   ·exact h.elim
  ·exact h.elim
 ·exact h.elim
end
end Go.AM
namespace Go.AM
open Go
section
variable {P:Program} {F:Nat->Prop} {φ:Nat->Option Loc} {own:List Obj} {w:World}
theorem makeMap_sound(hc:Conc F φ own w){t:TypeId}{K:AV->List Obj->List Nat->Prop}(h:K (.map own.length) (own++[.map []]) []):Does P F φ w (Instr.makeMap t none) K:=by
 let L:Loc:=⟨false,w.heap.size,0,0,0⟩
 have hw:∀b,b<w.heap.size->(w.alloc (.map #[] 0)).heap[b]?=w.heap[b]?:=fun b hb=>heap_alloc_old w _ b hb
 refine⟨_,.map (some w.heap.size),_,[],F,ext φ own.length L,w.alloc (.map #[] 0),?_,?_,?_,h⟩
 ·simp only[Instr.makeMap,Sem.run_bind,run_newObj,Result.andThen_ok,Sem.run_pure]
  rfl
 ·refine After.new hc rfl rfl rfl (by simp) hw (fun _=>⟨Nat.le_refl _,by simp[L]⟩) ?_
  simp only[ObjR]
  exact⟨rfl,#[],0,heap_alloc_new w _,by simp[mapR]⟩
 ·simp only[AV.R]
  exact⟨L,ext_self _ _ _,rfl,rfl⟩
def mapSet(k v:D):List (D×D)->List (D×D)
 | []=>[(k,v)]
 | x :: m=>if D.keyEq k x.1 then (k,v) :: m else x :: mapSet k v m
theorem mapR_push:∀{m:List (D×D)} {es:List MapEntry} {k v:D} {e:MapEntry},mapR F w m es->D.R F w k e.key->D.R F w v e.val->mapR F w (m++[(k,v)]) (es++[e])
 | [],es,k,v,e,h,h1,h2=>by
  simp only[mapR]at h
  subst h
  simp only[List.nil_append,mapR]
  exact⟨e,[],rfl,h1,h2,rfl⟩
 | x :: m,es,k,v,e,h,h1,h2=>by
  simp only[mapR]at h
  obtain⟨e',es',rfl,g1,g2,g3⟩:=h
  simp only[List.cons_append,mapR]
  exact⟨e',es'++[e],rfl,g1,g2,mapR_push g3 h1 h2⟩
theorem mapSet_none{k v:D}:∀{m:List (D×D)} {i:Nat},mapFindI k m i=none->mapSet k v m=m++[(k,v)]
 | [],_,_=>rfl
 | x :: m,i,h=>by
  simp only[mapFindI]at h
  split at h
  ·cases h
  ·rename_i hne
   simp only[mapSet,hne,if_false,List.cons_append]
   rw[mapSet_none h]
   simp
theorem mapR_replace{k v:D}{c cv:Value}(h1:D.R F w k c)(h2:D.R F w v cv):∀{m:List (D×D)} {es:List MapEntry} {i j:Nat} {u:D},mapFindI k m i=some (j,u)->mapR F w m es ->
  i<=j/\mapR F w (mapSet k v m) (es.modify (j - i) fun e=>{ e with key:=c,val:=cv })
 | [],_,_,_,_,h,_=>by simp[mapFindI]at h
 | x :: m,es,i,j,u,h,hm=>by
  simp only[mapR]at hm
  obtain⟨e,es',rfl,g1,g2,g3⟩:=hm
  simp only[mapFindI]at h
  by_cases hk:D.keyEq k x.1=true
  ·simp only[hk,if_true,Option.some.injEq,Prod.mk.injEq]at h
   obtain⟨rfl,_⟩:=h
   refine⟨Nat.le_refl _,?_⟩
   simp only[Nat.sub_self,List.modify_zero_cons,mapSet,hk,if_true,mapR]
   exact⟨_,es',rfl,h1,h2,g3⟩
  ·simp only[hk,if_false]at h
   obtain⟨k1,k2⟩:=mapR_replace h1 h2 h g3
   refine⟨by omega,?_⟩
   have e1:j - i=(j - (i+1))+1:=by omega
   rw[e1,List.modify_succ_cons]
   simp only[mapSet,hk,if_false,mapR]
   exact⟨e,_,rfl,g1,g2,k2⟩
def mapUpdatew(P:Program)(τ:Option Ty)(own:List Obj)(x k v:AV)(K:AV->List Obj->List Nat->Prop):Prop :=
 match τ,x,k.keyD with
 | some τ,.map o,some k=>(match τ.desc with
  | .map kt _=>(match tyOf P kt,own.getD o .dead,v.pure with
   | some τk,.map m,some v=>D.isKeyP P kt τk.desc k=true/\(m.all fun x=>D.isKeyP P kt τk.desc x.1)=true/\K .top (own.set o (.map (mapSet k v m))) []
   | _,_,_=>False)
  | _=>False)
 | _,_,_=>False
theorem mapUpdatew_sound(hc:Conc F φ own w){t:TypeId}{x k v:AV}{cx ck cv:Value}{K:AV->List Obj->List Nat->Prop}(hx:AV.R F φ w x cx)(hk:AV.R F φ w k ck)(hv:AV.R F φ w v cv)
  (h:mapUpdatew P (tyOf P t) own x k v K) :
  ∃v own' kl F' φ' w',(Instr.mapUpdate t cx ck cv).run P w=.ok () w'/\After F φ w F' φ' own' w' kl/\v=.top/\K v own' kl:=by
 unfold mapUpdatew at h
 split at h
 ·rename_i τ o k hτ hkd
  split at h
  ·rename_i kt et hd
   split at h
   ·rename_i τk m v' hτk hobj hpv
    obtain⟨h1,h2,hK⟩:=h
    have hu:=run_und (P:=P) w hτ
    rw[hd]at hu
    replace hk:=keyD_R hkd hk
    simp only[AV.R]at hx
    obtain⟨L,ho,hn,rfl⟩:=hx
    have hr:=getObj_rep hc ho
    rw[hobj]at hr
    simp only[ObjR]at hr
    obtain⟨_,es,clock,hh,hm⟩:=hr
    have hck:(Instr.checkKey false 10000 kt ck).run P w=.ok () w:=checkKey_ok _ (tyOf_spec hτk).1 h1 hk
    have hvr:=pure_R hpv hv
    have setrun:∀ob,(setObj L.b ob).run P w=.ok () { w with heap:=w.heap.setIfInBounds L.b ob }:=fun ob=>by simp only[setObj,Sem.run,hh]
    have hb:L.b<w.heap.size:=(hc.live o L ho hn).2
    have fin:∀(es':Array MapEntry) (clock':Nat),mapR F w (mapSet k v' m) es'.toList ->
      After F φ w F φ (own.set o (.map (mapSet k v' m))) { w with heap:=w.heap.setIfInBounds L.b (.map es' clock') } []:=by
     intro es' clock' hmr
     have hoth:∀b,b≠L.b->({ w with heap:=w.heap.setIfInBounds L.b (.map es' clock') }:World).heap[b]?=w.heap[b]?:=fun b hb=>by
      simp[Array.getElem?_setIfInBounds,Ne.symm hb]
     refine After.write hc ho hn rfl rfl rfl (by simp) hoth ?_
     simp only[ObjR]
     refine⟨hn,es',clock',?_,mapR_mono (fun _ h=>h) (hc.sameOf ho hn hoth) _ _ hmr⟩
     simp[Array.getElem?_setIfInBounds,hb]
    rcases findKey_ok (tyOf_spec hτk).1 h1 hk m es.toList h2 hm with⟨g1,g2⟩|⟨j,u,cu,e',g1,g2,g3,g5,k',g6,g7,g8,g9⟩
    ·refine⟨.top,_,[],F,φ,_,?_,fin (es.push { key:=ck,val:=cv,born:=clock }) (clock+1) ?_,rfl,hK⟩
     ·simp only[Instr.mapUpdate,Sem.run_bind,hu,Result.andThen_ok,run_getObj_map hh,hck,g2,Sem.run_pure,setrun]
     ·rw[mapSet_none g1,Array.toList_push]
      exact mapR_push hm hk hvr
    ·have hsb:(Instr.keyThatStays (((es[j]?).map (·.key)).getD ck) ck).run P w=.ok ck w:=by
      simp only[Array.getElem?_toList]at g5
      rw[g5]
      exact g9
     refine⟨.top,_,[],F,φ,_,?_,fin (es.modify j fun e=>{ e with key:=ck,val:=cv }) clock ?_,rfl,hK⟩
     ·simp only[Instr.mapUpdate,Sem.run_bind,hu,Result.andThen_ok,run_getObj_map hh,hck,g2,hsb,setrun]
     ·have:=(mapR_replace hk hvr g1 hm).2
      rw[Nat.sub_zero]at this
      rw[Array.toList_modify]
      exact this
   ·exact h.elim
  ·exact h.elim
 ·exact h.elim
def AV.elems(own:List Obj):AV->Option (Option (Option Nat)×List D)
 | .sl o off len=>(match own.getD o .dead with|.row ag xs=>if off+len<=xs.length then some (some ag,(xs.drop off).take len) else none|_=>none)
 | .dat (.sl ag xs)=>some (some ag,xs)
 | .nils=>some (none,[])
 | _=>none
theorem rowCells{ag:Option Nat}{b off:Nat}{xs:List D}(h:D.Cr F w ag b off xs):∃cs:List Value,cs.length=xs.length*es ag/\(∀j v,cs[j]?=some v->w.cell? ⟨b,off+j,none⟩=some v)/\(∀u∈cs,u.oneCell'=true) /\
  (∀i d,xs[i]?=some d->∃es',es'.length=es ag/\(∀j,j<es ag->cs[i*es ag+j]?=es'[j]?)/\d.isAgg=ag.isSome/\D.C F w d es'):=by
 induction xs generalizing off with
 | nil=>exact⟨[],by simp,by simp,by simp,by simp⟩
 | cons d xs ih =>
  simp only[D.Cr]at h
  obtain⟨⟨c0,h1,h2,h3,h4⟩,h5⟩:=h
  obtain⟨cs,g1,g2,g3,g4⟩:=ih h5
  refine⟨c0++cs,by simp[h1,g1,Nat.succ_mul];omega,fun j v hj=>?_,fun u hu=>?_,fun i d' hd=>?_⟩
  ·by_cases hlt:j<c0.length
   ·rw[List.getElem?_append_left hlt]at hj
    rw[h2 j (by omega)];exact hj
   ·rw[List.getElem?_append_right (by omega)]at hj
    have:=g2 _ _ hj
    rw[h1]at this hlt
    rw[← this]
    congr 2;omega
  ·rcases List.mem_append.1 hu with hu|hu
   ·cases d with
    | agg ds =>
     simp only[D.C]at h4
     obtain⟨q1,q2⟩:=D.Cs_iff.1 h4
     obtain⟨i,hi⟩:=List.getElem?_of_mem hu
     have hlt:i<ds.length:=by
      rw[← q1]
      rcases Nat.lt_or_ge i c0.length with h|h
      ·exact h
      ·rw[List.getElem?_eq_none h]at hi;cases hi
     obtain⟨r1,r2⟩:=q2 i _ u (List.getElem?_eq_getElem hlt) hi
     exact D.C_one r1 r2
    | _ =>
     obtain⟨c,rfl⟩:=D.C_single rfl h4
     simp at hu
     subst hu
     exact D.C_one rfl h4
   ·exact g3 u hu
  ·cases i with
   | zero =>
    simp at hd
    subst hd
    refine⟨c0,h1,fun j hj=>?_,h3,h4⟩
    rw[Nat.zero_mul,Nat.zero_add,List.getElem?_append_left (by omega)]
   | succ i =>
    obtain⟨e',r1,r2,r3,r4⟩:=g4 i d' (by simpa using hd)
    refine⟨e',r1,fun j hj=>?_,r3,r4⟩
    rw[List.getElem?_append_right (by rw[Nat.succ_mul];omega),← r2 j hj,h1]
    congr 1
    rw[Nat.succ_mul];omega
def Packed(F:Nat->Prop)(w:World)(ag:Option Nat)(ys:List D)(cs:List Value):Prop :=
 cs.length=ys.length*es ag/\(∀u∈cs,u.oneCell'=true) /\
  ∀i d,ys[i]?=some d->∃es',es'.length=es ag/\(∀j,j<es ag->cs[i*es ag+j]?=es'[j]?)/\d.isAgg=ag.isSome/\D.C F w d es'
theorem Packed.nil{ag:Option Nat}:Packed F w ag [] []:=⟨by simp,by simp,by simp⟩
theorem run_first(size n:Nat)(b:Addr)(len cap:Nat)(cs:List Value)(hl:n*size<=cs.length)(h:∀j v,cs[j]?=some v->w.cell? (b.add j)=some v) :
  (Builtin.firstCells size n (.slice (some b) len cap)).run P w=.ok (cs.take (n*size)).toArray w:=by
 refine run_firstCells_some (P:=P) w size n b len cap (cs.take (n*size)) (by simp;omega) (fun j v hj=>?_)
 rw[List.getElem?_take]at hj
 split at hj
 ·exact h j v hj
 ·cases hj
theorem elems_cells(hc:Conc F φ own w){x:AV}{c:Value}{tag:Option (Option Nat)}{ys:List D}{ag:Option Nat}(hx:AV.R F φ w x c)(he:x.elems own=some (tag,ys))(hag:tag=some ag∨ys=[]) :
  ∃a cap cs,c=.slice a ys.length cap/\ys.length<=maxLen/\Packed F w ag ys cs/\∀n,n<=ys.length->(Builtin.firstCells (es ag) n c).run P w=.ok (cs.take (n*es ag)).toArray w:=by
 have empty:∀a cap,ys=[]->c=.slice a 0 cap->∃a cap cs,c=.slice a ys.length cap/\ys.length<=maxLen/\Packed F w ag ys cs/\∀n,n<=ys.length->(Builtin.firstCells (es ag) n c).run P w=.ok (cs.take (n*es ag)).toArray w:=by
  intro a cap hy hcc
  subst hy;subst hcc
  refine⟨a,cap,[],rfl,by simp,Packed.nil,fun n hn=>?_⟩
  have:n=0:=by simpa using hn
  subst this
  cases a with
  | none=>simp[Builtin.firstCells]
  | some a=>simpa using run_first (P:=P) (w:=w) (es ag) 0 a 0 cap [] (by simp) (by simp)
 have full:∀b off cap,c=.slice (some ⟨b,off,none⟩) ys.length cap->ys.length<=maxLen->D.Cr F w ag b off ys->∃a cap cs,c=.slice a ys.length cap/\ys.length<=maxLen/\Packed F w ag ys cs/\∀n,n<=ys.length->(Builtin.firstCells (es ag) n c).run P w=.ok (cs.take (n*es ag)).toArray w:=by
  intro b off cap hcc hm hrow
  obtain⟨cs,g1,g2,g3,g4⟩:=rowCells hrow
  subst hcc
  refine⟨_,cap,cs,rfl,hm,⟨g1,g3,g4⟩,fun n hn=>run_first _ _ _ _ _ _ (by rw[g1];exact Nat.mul_le_mul_right _ hn) (fun j v hj=>by rw[Addr.add_mk];exact g2 j v hj)⟩
 cases x <;> simp only[AV.elems,reduceCtorEq]at he
 case dat d =>
  cases d <;> simp only[reduceCtorEq]at he
  rename_i ag' xs
  simp only[Option.some.injEq,Prod.mk.injEq]at he
  obtain⟨rfl,rfl⟩:=he
  obtain⟨a,cap,rfl,h1,h2,h3⟩:=R_sl.1 hx
  by_cases hxs:xs=[]
  ·exact empty a cap hxs (by rw[hxs];rfl)
  ·rcases h3 with h3|⟨b,off,rfl,hF,hrow⟩
   ·exact(hxs h3).elim
   ·have e:=hag.resolve_right hxs
    simp only[Option.some.injEq]at e
    subst e
    exact full b off cap rfl (by omega) hrow
 case nils =>
  simp only[Option.some.injEq,Prod.mk.injEq]at he
  obtain⟨rfl,rfl⟩:=he
  exact empty none 0 rfl (R_nils.1 hx)
 case sl o off len =>
  split at he
  ·rename_i ag' xs hobj
   split at he
   ·rename_i hle
    simp only[Option.some.injEq,Prod.mk.injEq]at he
    obtain⟨rfl,rfl⟩:=he
    have hlen:((xs.drop off).take len).length=len:=by simp;omega
    simp only[AV.R]at hx
    obtain⟨L,ho,hx⟩:=hx
    have hr:=getObj_rep hc ho
    rw[hobj]at hr
    simp only[ObjR]at hr
    obtain⟨hsz,hr⟩:=hr
    rcases hx with⟨hn,rfl,rfl,rfl⟩|⟨hn,c',cap,rfl,h1,h2,h3,h4⟩
    ·exact empty none 0 (by simp) rfl
    ·rcases hr with⟨hnil,_⟩|⟨_,_,hfit,hrow⟩
     ·rw[hn]at hnil;cases hnil
     by_cases h0:len=0
     ·subst h0
      exact empty _ cap (by simp) rfl
     ·have hne:(xs.drop off).take len≠[]:=by
       intro e
       rw[e]at hlen
       simp at hlen
       omega
      have e:=hag.resolve_right hne
      simp only[Option.some.injEq]at e
      subst e
      refine full L.b c' cap (by rw[hlen]) (by rw[hlen];omega) ?_
      rw[h3.resolve_left (by omega),hsz]
      exact D.Cr_drop _ _ hrow
   ·cases he
  ·cases he
end
end Go.AM
namespace Go.AM
open Go
section
variable {P:Program} {F:Nat->Prop} {φ:Nat->Option Loc} {own:List Obj} {w:World}
def appendRw(P:Program)(τ:Option Ty)(own:List Obj)(x y:AV)(K:AV->List Obj->List Nat->Prop):Prop :=
 match τ with
 | some τ=>(match τ.desc with
  | .slice e=>(match tyOf P e,y.elems own with
   | some τe,some (tag,ys) =>
    (tag=some τe.want∨ys=[])/\es τe.want=τe.size/\0<τe.size/\(∃z,τe.zero=some z/\z.cells.size=τe.size) /\
    (match x with
    | .sl o off len=>(match own.getD o .dead with
     | .row ag xs=>ag=τe.want/\off+len<=xs.length/\len+ys.length<=140737488355328/\(len+ys.length)*τe.bytes<=140737488355328 /\
       K (.sl o 0 (len+ys.length)) ((own.map (Obj.kill o)).set o (.row ag ((xs.drop off).take len++ys))) [o]
     | _=>False)
    | .nils=>ys.length<=140737488355328/\ys.length*τe.bytes<=140737488355328/\K (.sl own.length 0 ys.length) (own++[.row τe.want ys]) []
    | _=>False)
   | _,_=>False)
  | _=>False)
 | none=>False
theorem Conc.drew(h:Conc F φ own w):Conc F φ own w.drew:=h.same (Nat.le_refl _) (fun _ _=>rfl)
theorem same_drew:Same F w w.drew:=fun _ _=>rfl
theorem drew_same:Same F w.drew w:=fun _ _=>rfl
theorem R_drew{x:AV}{c:Value}(h:AV.R F φ w x c):AV.R F φ w.drew x c:=AV.R_mono (fun _ h=>h) same_drew (fun _ _ h=>h) _ _ h
theorem Packed.drew{ag:Option Nat}{ys:List D}{cs:List Value}(h:Packed F w.drew ag ys cs):Packed F w ag ys cs:=by
 refine⟨h.1,h.2.1,fun i d hd=>?_⟩
 obtain⟨e',h1,h2,h3,h4⟩:=h.2.2 i d hd
 exact⟨e',h1,h2,h3,D.C_mono (fun _ h=>h) drew_same _ _ h4⟩
theorem Packed.append{ag:Option Nat}{xs ys:List D}{cs cs':List Value}(h:Packed F w ag xs cs)(h':Packed F w ag ys cs'):Packed F w ag (xs++ys) (cs++cs'):=by
 refine⟨by rw[List.length_append,h.1,h'.1,List.length_append,Nat.add_mul],fun u hu=>?_,fun i d hd=>?_⟩
 ·rcases List.mem_append.1 hu with hu|hu
  ·exact h.2.1 u hu
  ·exact h'.2.1 u hu
 ·by_cases hi:i<xs.length
  ·rw[List.getElem?_append_left hi]at hd
   obtain⟨e',h1,h2,h3,h4⟩:=h.2.2 i d hd
   refine⟨e',h1,fun j hj=>?_,h3,h4⟩
   have:=Nat.mul_le_mul_right (es ag) (show i+1<=xs.length by omega)
   rw[Nat.add_mul]at this
   rw[List.getElem?_append_left (by rw[h.1];omega)]
   exact h2 j hj
  ·rw[List.getElem?_append_right (by omega)]at hd
   obtain⟨e',h1,h2,h3,h4⟩:=h'.2.2 _ d hd
   refine⟨e',h1,fun j hj=>?_,h3,h4⟩
   have e:i*es ag=xs.length*es ag+(i - xs.length)*es ag:=by
    rw[← Nat.add_mul];congr 1;omega
   rw[List.getElem?_append_right (by rw[h.1,e];omega),← h2 j hj,h.1,e]
   congr 1;omega
theorem Packed.take{ag:Option Nat}{xs:List D}{cs:List Value}(n:Nat)(h:Packed F w ag xs cs):Packed F w ag (xs.take n) (cs.take (n*es ag)):=by
 refine⟨?_,fun u hu=>h.2.1 u (List.mem_of_mem_take hu),fun i d hd=>?_⟩
 ·rw[List.length_take,h.1,List.length_take]
  rcases Nat.le_total n xs.length with h1|h1
  ·rw[Nat.min_eq_left h1,Nat.min_eq_left (Nat.mul_le_mul_right _ h1)]
  ·rw[Nat.min_eq_right h1,Nat.min_eq_right (Nat.mul_le_mul_right _ h1)]
 ·rw[List.getElem?_take]at hd
  split at hd
  ·rename_i hi
   obtain⟨e',h1,h2,h3,h4⟩:=h.2.2 i d hd
   refine⟨e',h1,fun j hj=>?_,h3,h4⟩
   have:=Nat.mul_le_mul_right (es ag) (show i+1<=n by omega)
   rw[Nat.add_mul]at this
   rw[List.getElem?_take,if_pos (by omega)]
   exact h2 j hj
  ·cases hd
theorem Cr_of_packed{ag:Option Nat}{ys:List D}{cs:List Value}{b base:Nat}{w':World}(hw:Same F w w')(h:Packed F w ag ys cs)(hcell:∀p,p<ys.length*es ag->w'.cell? ⟨b,base+p,none⟩=cs[p]?):D.Cr F w' ag b base ys:=by
 refine D.Cr_iff.2 fun i d hd=>?_
 obtain⟨e',h1,h2,h3,h4⟩:=h.2.2 i d hd
 have hi:i<ys.length:=by
  rcases Nat.lt_or_ge i ys.length with h|h
  ·exact h
  ·rw[List.getElem?_eq_none h]at hd;cases hd
 refine⟨e',h1,fun j hj=>?_,h3,D.C_mono (fun _ h=>h) hw _ _ h4⟩
 have:=Nat.mul_le_mul_right (es ag) (show i+1<=ys.length by omega)
 rw[Nat.add_mul]at this
 rw[← h2 j hj,Nat.add_assoc]
 exact hcell _ (by omega)
theorem run_append_inplaceG{t t' ty e:TypeId}{τ τe:Ty}(hτ:tyOf P t=some τ)(hd:τ.desc=.slice e)(hτe:tyOf P e=some τe){g c len cap m:Nat}{cy:Value}{arr news:Array Value}{tyb:TypeId}
  (hzt:∃d',(∀w:World,(underlying t').run P w=.ok d' w)/\(d'=.slice e∨d'=.string)) (hlen:∀w:World,(Builtin.lenOf cy).run P w=.ok m w)
  (hh:w.heap[g]?=some (.cells arr tyb (0,0))) (hroom:len+m<=cap) (hfit:c+(len+m)*τe.size<=arr.size) (hnl:news.size=m*τe.size) (h1:∀u∈news.toList,u.oneCell'=true)
  (hnew:(Builtin.firstCells τe.size m cy).run P w=.ok news w) :
  (Builtin.append_ #[t,t'] ty #[.slice (some ⟨g,c,none⟩) len cap,cy]).run P w =
   .ok (.slice (some ⟨g,c,none⟩) (len+m) cap) (w.setRow g (arr.toList.take (c+len*τe.size)++news.toList++arr.toList.drop (c+len*τe.size+m*τe.size)).toArray):=by
 have hu:=run_und (P:=P) w hτ
 rw[hd]at hu
 have hst:=run_storeCells_at P g (c+len*τe.size) tyb news.toList 0 arr w hh (by rw[Array.length_toList,hnl,Nat.add_zero,Nat.add_assoc,← Nat.add_mul];exact hfit) h1
 simp only[Nat.add_zero]at hst
 obtain⟨d',hu',hd'⟩:=hzt
 rcases hd' with rfl|rfl <;> simp only[Builtin.append_,List.getElem?_toArray,List.getElem?_cons_zero,List.getElem?_cons_succ,Sem.run_bind,hu,Result.andThen_ok,run_size w hτe,Sem.run_pure,Bool.false_eq_true,if_false,hu',hlen,hroom,if_true,Bool.not_false,hnew,Addr.add_mk,hst,Array.length_toList,hnl]
theorem run_append_growingG{t t' ty e:TypeId}{τ τe:Ty}(hτ:tyOf P t=some τ)(hd:τ.desc=.slice e)(hτe:tyOf P e=some τe){z:Value}(hz:τe.zero=some z){ax:Option Addr}{len cap m:Nat}{cy:Value}{olds news:Array Value}
  (hzt:∃d',(∀w:World,(underlying t').run P w=.ok d' w)/\(d'=.slice e∨d'=.string)) (hlen:∀w:World,(Builtin.lenOf cy).run P w=.ok m w)
  (hroom:cap<len+m) (h63:len+m<=140737488355328) (hby:(len+m)*τe.bytes<=140737488355328)
  (hold:(Builtin.firstCells τe.size len (.slice ax len cap)).run P w.drew=.ok olds w.drew) (hnew:(Builtin.firstCells τe.size m cy).run P w.drew=.ok news w.drew) :
  (Builtin.append_ #[t,t'] ty #[.slice ax len cap,cy]).run P w =
   .ok (.slice (some ⟨w.heap.size,0,none⟩) (len+m) (grownCap w (len+m) cap e)) (w.drew.alloc (.cells (olds++news++Builtin.zeroCells z.cells (grownCap w (len+m) cap e - (len+m))) e)):=by
 have hu:=run_und (P:=P) w hτ
 rw[hd]at hu
 obtain⟨i,hi,k1,k2,k3⟩:=run_info (P:=P) w hτe
 have hfit:=growslice_fits (bytes:=i.bytes) hroom (by rw[k2];exact hby)
 have n1:¬(len+m<=cap):=by omega
 have n2:¬(((len+m:Nat):Int) > IntKind.i64.max):=by
  simp only[IntKind.max,IntKind.signed,IntKind.bits,↓reduceIte,Nat.reduceSub,Int.reducePow,Int.reduceSub];omega
 have n3:¬(281474976710656<Builtin.nextslicecap (len+m) cap*i.bytes):=by omega
 have hch:(choose (.appendCap (len+m) cap e)).run P w=.ok (grownCap w (len+m) cap e) w.drew:=by
  simp only[run_choose,Question.forced,Bool.false_eq_true,if_false,grownCap];rfl
 obtain⟨i',hi',_,_,k3'⟩:=run_info (P:=P) w.drew hτe
 obtain⟨d',hu',hd'⟩:=hzt
 rcases hd' with rfl|rfl <;> simp only[Builtin.append_,List.getElem?_toArray,List.getElem?_cons_zero,List.getElem?_cons_succ,Sem.run_bind,hu,Result.andThen_ok,run_size w hτe,Sem.run_pure,Bool.false_eq_true,if_false,hu',hlen,n1,hi,n2,false_and,false_or,Nat.reducePow,gt_iff_lt,n3,hch,hi',run_askRoom,hold,Bool.not_false,if_true,hnew,run_zero w.drew hτe hz,newRow,run_newObj] <;> rfl
theorem run_append_inplace{t ty e:TypeId}{τ τe:Ty}(hτ:tyOf P t=some τ)(hd:τ.desc=.slice e)(hτe:tyOf P e=some τe){g c len cap m:Nat}{ay:Option Addr}{cy:Nat}{arr news:Array Value}{tyb:TypeId}
  (hh:w.heap[g]?=some (.cells arr tyb (0,0))) (hroom:len+m<=cap) (hfit:c+(len+m)*τe.size<=arr.size) (hnl:news.size=m*τe.size) (h1:∀u∈news.toList,u.oneCell'=true)
  (hnew:(Builtin.firstCells τe.size m (.slice ay m cy)).run P w=.ok news w) :
  (Builtin.append_ #[t,t] ty #[.slice (some ⟨g,c,none⟩) len cap,.slice ay m cy]).run P w =
   .ok (.slice (some ⟨g,c,none⟩) (len+m) cap) (w.setRow g (arr.toList.take (c+len*τe.size)++news.toList++arr.toList.drop (c+len*τe.size+m*τe.size)).toArray) :=
 run_append_inplaceG hτ hd hτe ⟨_,fun w=>by rw[← hd];exact run_und (P:=P) w hτ,.inl rfl⟩ (fun _=>rfl) hh hroom hfit hnl h1 hnew
theorem run_append_growing{t ty e:TypeId}{τ τe:Ty}(hτ:tyOf P t=some τ)(hd:τ.desc=.slice e)(hτe:tyOf P e=some τe){z:Value}(hz:τe.zero=some z){ax:Option Addr}{len cap m:Nat}{ay:Option Addr}{cy:Nat}{olds news:Array Value}
  (hroom:cap<len+m) (h63:len+m<=140737488355328) (hby:(len+m)*τe.bytes<=140737488355328)
  (hold:(Builtin.firstCells τe.size len (.slice ax len cap)).run P w.drew=.ok olds w.drew) (hnew:(Builtin.firstCells τe.size m (.slice ay m cy)).run P w.drew=.ok news w.drew) :
  (Builtin.append_ #[t,t] ty #[.slice ax len cap,.slice ay m cy]).run P w =
   .ok (.slice (some ⟨w.heap.size,0,none⟩) (len+m) (grownCap w (len+m) cap e)) (w.drew.alloc (.cells (olds++news++Builtin.zeroCells z.cells (grownCap w (len+m) cap e - (len+m))) e)) :=
 run_append_growingG hτ hd hτe hz ⟨_,fun w=>by rw[← hd];exact run_und (P:=P) w hτ,.inl rfl⟩ (fun _=>rfl) hroom h63 hby hold hnew
theorem AV.kills_length{o:Nat}:∀(cs:List AV),(AV.kills o cs).length=cs.length
 | []=>rfl
 | c :: cs=>by simp only[AV.kills,List.length_cons,AV.kills_length cs]
theorem afterMove(hc:Conc F φ own w){o:Nat}{L L':Loc}{obj':Obj}{w':World}(ho:φ o=some L)(hos:w'.os=w.os)(ht:w'.tape=w.tape)(hout:w'.output=w.output)(hs:w.heap.size<=w'.heap.size)
  (hoth:∀b,b<w.heap.size->(L.nil=false->b≠L.b)->w'.heap[b]?=w.heap[b]?) (hL':L'.nil=false->((w.heap.size<=L'.b)∨(L.nil=false/\L'.b=L.b))/\L'.b<w'.heap.size)
  (hobj':ObjR F (ext φ o L') w' (some L') obj') (hdr:w.drawn<=w'.drawn:=by first|exact Nat.le_refl _|exact Nat.le_succ _|exact Nat.le_add_right _ _|assumption):After F φ w F (ext φ o L') ((own.map (Obj.kill o)).set o obj') w' [o]:=by
 have holt:o<own.length:=by
  rcases Nat.lt_or_ge o own.length with h|h
  ·exact h
  ·rw[hc.out o h]at ho;cases ho
 have hne:∀o',o'≠o->ext φ o L' o'=φ o':=fun o' h=>by unfold ext;rw[if_neg h]
 have hFs:Same F w w':=fun b hb=>hoth b (hc.fb b hb) (fun hn e=>(hc.live o L ho hn).1 (e ▸ hb))
 refine⟨fun _ h=>h,⟨hos,ht,hout,hs,hFs,hdr⟩,?_,fun o' L'' hne' ho'=>by rw[hne o' (by simpa using hne')];exact ho',fun b hb hall=>hoth b hb (fun hn e=>hall o L ho hn e.symm),fun o' L'' ho' hn'=>?_,fun b hb=>.inl hb⟩
 rotate_left
 ·by_cases e:o'=o
  ·subst e
   rw[ext_self]at ho'
   cases ho'
   rcases(hL' hn').1 with h1|⟨h1,h2⟩
   ·exact .inl h1
   ·exact .inr ⟨o',L,ho,h1,h2.symm⟩
  ·rw[hne o' e]at ho'
   exact .inr ⟨o',L'',ho',hn',rfl⟩
 constructor
 ·exact fun b hb=>Nat.lt_of_lt_of_le (hc.fb b hb) hs
 ·intro o' L'' ho' hn'
  by_cases e:o'=o
  ·subst e
   rw[ext_self]at ho'
   cases ho'
   refine⟨fun hF=>?_,(hL' hn').2⟩
   rcases(hL' hn').1 with h1|⟨h1,h2⟩
   ·have:=hc.fb _ hF;omega
   ·rw[h2]at hF;exact(hc.live o' L ho h1).1 hF
  ·rw[hne o' e]at ho'
   exact⟨(hc.live o' L'' ho' hn').1,Nat.lt_of_lt_of_le (hc.live o' L'' ho' hn').2 hs⟩
 ·intro o1 o2 L1 L2 h1 h2 n1 n2 hn12
  by_cases e1:o1=o
  ·have e2:o2≠o:=fun e2=>hn12 (e1.trans e2.symm)
   subst e1
   rw[ext_self]at h1
   cases h1
   rw[hne o2 e2]at h2
   have hl2:=(hc.live o2 L2 h2 n2).2
   rcases(hL' n1).1 with h3|⟨h3,h4⟩
   ·omega
   ·rw[h4];exact hc.inj o1 o2 L L2 ho h2 h3 n2 hn12
  ·rw[hne o1 e1]at h1
   by_cases e2:o2=o
   ·subst e2
    rw[ext_self]at h2
    cases h2
    have hl1:=(hc.live o1 L1 h1 n1).2
    rcases(hL' n2).1 with h3|⟨h3,h4⟩
    ·omega
    ·rw[h4];exact hc.inj o1 o2 L1 L h1 ho n1 h3 hn12
   ·rw[hne o2 e2]at h2
    exact hc.inj o1 o2 L1 L2 h1 h2 n1 n2 hn12
 ·intro o' obj ho'
  rw[List.getElem?_set]at ho'
  by_cases e:o=o'
  ·subst e
   simp only[if_true,List.length_map,holt,Option.some.injEq]at ho'
   subst ho'
   rw[ext_self]
   exact hobj'
  ·simp only[e,if_false,List.getElem?_map,Option.map_eq_some_iff]at ho'
   obtain⟨ob,hob,rfl⟩:=ho'
   rw[hne o' (fun e'=>e e'.symm)]
   have hrep:=hc.rep o' ob hob
   have hblk:∀L'',φ o'=some L''->L''.nil=false->w'.heap[L''.b]?=w.heap[L''.b]?:=fun L'' h1 h2 =>
    hoth _ (hc.live o' L'' h1 h2).2 (fun hn e'=>hc.inj o' o L'' L h1 ho h2 hn (fun e''=>e e''.symm) e')
   cases hl:φ o' with
   | none=>rw[hl]at hrep;cases ob <;> simp only[ObjR,Obj.kill]at hrep ⊢
   | some L'' =>
    rw[hl]at hrep
    cases ob with
    | vec cs =>
     simp only[ObjR,Obj.kill]at hrep ⊢
     obtain⟨q1,q2⟩:=hrep
     refine⟨q1,?_⟩
     have hl':(AV.kills o cs).length=cs.length:=AV.kills_length _
     rcases q2 with⟨q2,q3⟩|⟨q2,arr,ty',q3,q4,q5,vs,q6,q7⟩
     ·subst q3;exact .inl ⟨q2,rfl⟩
     ·exact .inr ⟨q2,arr,ty',(hblk L'' hl q2).trans q3,q4,by rw[hl'];exact q5,vs,AV.Ra_kill (fun _ h=>h) hFs (fun o'' L3 hne' ho''=>by rw[hne o'' hne'];exact ho'') _ _ q6,by rw[hl'];exact q7⟩
    | tab k0 cs =>
     simp only[ObjR,Obj.kill]at hrep ⊢
     obtain⟨q1,q2⟩:=hrep
     refine⟨q1,?_⟩
     have hl':(AV.kills o cs).length=cs.length:=AV.kills_length _
     rcases q2 with⟨q2,q3⟩|⟨q2,arr,ty',q3,q4,q5,vs,q6,q7⟩
     ·subst q3;exact .inl ⟨q2,rfl⟩
     ·exact .inr ⟨q2,arr,ty',(hblk L'' hl q2).trans q3,q4,by rw[hl'];exact q5,vs,AV.Ra_kill (fun _ h=>h) hFs (fun o'' L3 hne' ho''=>by rw[hne o'' hne'];exact ho'') _ _ q6,by rw[hl'];exact q7⟩
    | box cs =>
     simp only[ObjR,Obj.kill]at hrep ⊢
     obtain⟨q1,q2,arr,ty',q3,q4,q5⟩:=hrep
     exact⟨q1,q2,arr,ty',(hblk L'' hl q1).trans q3,q4,AV.Ra_kill (fun _ h=>h) hFs (fun o'' L3 hne' ho''=>by rw[hne o'' hne'];exact ho'') _ _ q5⟩
    | lp r0 cs =>
     simp only[ObjR,Obj.kill]at hrep ⊢
     obtain⟨q1,q2,arr,ty',q3,q4,q5⟩:=hrep
     exact⟨q1,q2,arr,ty',(hblk L'' hl q1).trans q3,q4,AV.Rs_kill (fun _ h=>h) hFs (fun o'' L3 hne' ho''=>by rw[hne o'' hne'];exact ho'') _ _ q5⟩
    | bld T0 u0 cs =>
     simp only[ObjR,Obj.kill]at hrep ⊢
     obtain⟨q1,q2,arr,ty',q3,q4,q5⟩:=hrep
     exact⟨q1,q2,arr,ty',(hblk L'' hl q1).trans q3,q4,AV.Rs_kill (fun _ h=>h) hFs (fun o'' L3 hne' ho''=>by rw[hne o'' hne'];exact ho'') _ _ q5⟩
    | row ag' xs' =>
     simp only[Obj.kill]
     exact ObjR.same (φ':=ext φ o L') (φ:=ext φ o L') hFs (fun _ _ h=>h) (fun L3 h3 hn3=>by cases h3;exact hblk L'' hl hn3) (by simp only[ObjR]at hrep ⊢;exact hrep)
    | brow e0 bs0 =>
     simp only[Obj.kill]
     exact ObjR.same (φ':=ext φ o L') (φ:=ext φ o L') hFs (fun _ _ h=>h) (fun L3 h3 hn3=>by cases h3;exact hblk L'' hl hn3) (by simp only[ObjR]at hrep ⊢;exact hrep)
    | map m =>
     simp only[Obj.kill]
     exact ObjR.same (φ':=ext φ o L') (φ:=ext φ o L') hFs (fun _ _ h=>h) (fun L3 h3 hn3=>by cases h3;exact hblk L'' hl hn3) (by simp only[ObjR]at hrep ⊢;exact hrep)
    | dead=>simp only[ObjR,Obj.kill]
 ·intro o' ho'
  simp only[List.length_set,List.length_map]at ho'
  rw[hne o' (by omega)]
  exact hc.out o' ho'
 ·exact hc.glob.mono (fun _ h=>h) hFs
theorem grown_row(hc:Conc F φ own w){e:TypeId}{τe:Ty}{z:Value}{cap len:Nat}{xs ys:List D}{csx csy:List Value}(hes:es τe.want=τe.size)(hzs:z.cells.size=τe.size)(hpx:Packed F w τe.want xs csx)(hpy:Packed F w τe.want ys csy)
  (hxl:xs.length=len) (hb:len+ys.length<=140737488355328) {need:Nat} (hneed:need=len+ys.length) {w':World} {cells:Array Value}
  (hcells:cells=csx.toArray++csy.toArray++Builtin.zeroCells z.cells (grownCap w need cap e - need)) (hw':w'=w.drew.alloc (.cells cells e)) :
  (∀φ':Nat->Option Loc,ObjR F φ' w' (some ⟨false,w.heap.size,0,cells.size,τe.size⟩) (.row τe.want (xs++ys))) /\
  (∀(φ':Nat->Option Loc) (o:Nat),φ' o=some ⟨false,w.heap.size,0,cells.size,τe.size⟩->AV.R F φ' w' (.sl o 0 need) (.slice (some ⟨w.heap.size,0,none⟩) need (grownCap w need cap e))) /\
  w'.heap.size=w.heap.size+1/\(∀b,b<w.heap.size->w'.heap[b]?=w.heap[b]?):=by
 subst hneed
 have hge:=grownCap_ge w (len+ys.length) cap e
 have hcm:=grownCap_le_maxLen w (len+ys.length) cap e (by simp only[maxLen];omega)
 have hsize:cells.size=grownCap w (len+ys.length) cap e*τe.size:=by
  rw[hcells]
  simp only[Array.size_append,List.size_toArray,hpx.1,hpy.1,size_zeroCells,hzs,hes,hxl,← Nat.add_mul]
  congr 1;omega
 have hnew:w'.heap[w.heap.size]?=some (.cells cells e):=by rw[hw'];exact heap_alloc_new w.drew (.cells cells e)
 have hold:∀b,b<w.heap.size->w'.heap[b]?=w.heap[b]?:=fun b hb=>by rw[hw'];exact heap_alloc_old w.drew _ b hb
 have hpk:=hpx.append hpy
 refine⟨fun φ'=>?_,fun φ' o ho=>?_,by rw[hw',World.size_alloc];rfl,hold⟩
 ·simp only[ObjR]
  refine⟨hes.symm,.inr ⟨by first|rfl|trivial,⟨cells,e,hnew,rfl⟩,?_,?_⟩⟩
  ·rw[hsize,Nat.zero_add,List.length_append,hxl];exact Nat.mul_le_mul_right _ hge
  ·refine Cr_of_packed (hc.sameF hold) hpk (fun p hp=>?_)
   have e1:w'.cell? ⟨w.heap.size,0+p,none⟩=cells[0+p]?:=by simp[World.cell?,hnew]
   have hp':p<(csx.toArray++csy.toArray).size:=by
    simp only[Array.size_append,List.size_toArray,hpx.1,hpy.1,← Nat.add_mul];rw[List.length_append]at hp;exact hp
   rw[e1,Nat.zero_add,hcells,Array.getElem?_append_left hp',List.append_toArray,List.getElem?_toArray]
 ·simp only[AV.R]
  refine⟨_,ho,.inr ⟨by first|rfl|trivial,0,_,rfl,hge,hcm,.inr (by simp),?_⟩⟩
  simp only[Nat.zero_add]
  rw[hsize]
  exact Nat.le_refl _
theorem appendRw_core(hc:Conc F φ own w){t t' ty e:TypeId}{τ τe:Ty}{z:Value}{x:AV}{cx cy:Value}{ys:List D}{csy csy':List Value}{K:AV->List Obj->List Nat->Prop}(hτ:tyOf P t=some τ)(hd:τ.desc=.slice e)(hτe:tyOf P e=some τe)
  (hes:es τe.want=τe.size) (hpos:0<τe.size) (hz:τe.zero=some z) (hzs:z.cells.size=τe.size) (hx:AV.R F φ w x cx)
  (hzt:∃d',(∀w:World,(underlying t').run P w=.ok d' w)/\(d'=.slice e∨d'=.string)) (hlen':∀w:World,(Builtin.lenOf cy).run P w=.ok ys.length w)
  (hpy:Packed F w τe.want ys csy) (hpyd:Packed F w τe.want ys csy') (hfy1:(Builtin.firstCells τe.size ys.length cy).run P w=.ok csy.toArray w) (hfy2:(Builtin.firstCells τe.size ys.length cy).run P w.drew=.ok csy'.toArray w.drew)
  (h:match (generalizing:=false) x with
    | .sl o off len=>(match own.getD o .dead with
     | .row ag xs=>ag=τe.want/\off+len<=xs.length/\len+ys.length<=140737488355328/\(len+ys.length)*τe.bytes<=140737488355328 /\
       K (.sl o 0 (len+ys.length)) ((own.map (Obj.kill o)).set o (.row ag ((xs.drop off).take len++ys))) [o]
     | _=>False)
    | .nils=>ys.length<=140737488355328/\ys.length*τe.bytes<=140737488355328/\K (.sl own.length 0 ys.length) (own++[.row τe.want ys]) []
    | _=>False) :
  Does P F φ w (Builtin.append_ #[t,t'] ty #[cx,cy]) K:=by
 split at h
 ·
  rename_i o off len
  split at h
  ·rename_i ag xs hobj
   obtain⟨rfl,hle,hb1,hb2,hK⟩:=h
   have hxel:(AV.sl o off len).elems own=some (some τe.want,(xs.drop off).take len):=by simp only[AV.elems,hobj,hle,if_true]
   have hlen:((xs.drop off).take len).length=len:=by simp;omega
   obtain⟨ax,capx,csx,rfl,hmx,hpx,hfx⟩:=elems_cells (P:=P) hc.drew (R_drew hx) hxel (.inl rfl)
   rw[hlen]at hx hfx hmx ⊢
   have hfx1:=hfx len (Nat.le_refl _)
   rw[List.take_of_length_le (by rw[hpx.1,hlen];exact Nat.le_refl _),hes]at hfx1
   simp only[AV.R]at hx
   obtain⟨L,ho,hx⟩:=hx
   have hr:=getObj_rep hc ho
   rw[hobj]at hr
   simp only[ObjR]at hr
   obtain⟨hsz,hr⟩:=hr
   by_cases hroom:len+ys.length<=capx
   ·rcases hx with⟨hn,rfl,rfl,hxe⟩|⟨hn,c,cap,hxe,h1,h2,h3,h4⟩
    ·
     simp only[Value.slice.injEq]at hxe
     obtain⟨rfl,_,rfl⟩:=hxe
     have hys:ys=[]:=List.eq_nil_of_length_eq_zero (by omega)
     subst hys
     have hu:=run_und (P:=P) w hτ
     rw[hd]at hu
     refine⟨_,.slice none 0 0,_,[o],F,_,w,?_,afterMove hc (L':=L) ho rfl rfl rfl (Nat.le_refl _) (fun _ _ _=>rfl) (fun hn'=>by rw[hn]at hn';cases hn') (by simp only[ObjR];exact⟨hsz,.inl ⟨hn,by simp⟩⟩),?_,hK⟩
     ·simp only[List.length_nil]at hfy1 hlen' ⊢
      obtain⟨d',hu',hd'⟩:=hzt;rcases hd' with rfl|rfl <;> simp only[List.length_nil,Builtin.append_,List.getElem?_toArray,List.getElem?_cons_zero,List.getElem?_cons_succ,Sem.run_bind,hu,Result.andThen_ok,run_size w hτe,Sem.run_pure,Bool.false_eq_true,if_false,hu',hlen',Nat.add_zero,Nat.le_refl,if_true,Bool.not_false,hfy1]
     ·simp only[AV.R]
      exact⟨L,ext_self _ _ _,.inl ⟨hn,by simp⟩⟩
    ·simp only[Value.slice.injEq]at hxe
     obtain⟨rfl,_,rfl⟩:=hxe
     rcases hr with⟨hnil,_⟩|⟨_,⟨arr,tyb,hh,hsize⟩,hfit,hrow⟩
     ·rw[hn]at hnil;cases hnil
     rw[hes]at hsz
     by_cases h0:capx=0
     ·
      have hl0:len=0:=by omega
      have hys:ys=[]:=List.eq_nil_of_length_eq_zero (by omega)
      subst hys
      subst hl0
      subst h0
      have hu:=run_und (P:=P) w hτ
      rw[hd]at hu
      refine⟨_,.slice (some ⟨L.b,c,none⟩) 0 0,_,[o],F,_,w,?_,afterMove hc (L':=L) ho rfl rfl rfl (Nat.le_refl _) (fun _ _ _=>rfl) (fun _=>⟨.inr ⟨hn,rfl⟩,(hc.live o L ho hn).2⟩)
       (by simp only[ObjR];exact⟨by rw[hsz,hes],.inr ⟨hn,⟨arr,tyb,hh,hsize⟩,by simp;omega,by simp[D.Cr]⟩⟩),?_,hK⟩
      ·simp only[List.length_nil]at hfy1 hlen' ⊢
       have hst:(storeCells ((⟨L.b,c,none⟩:Addr).add (0*τe.size)) []).run P w=.ok () w:=rfl
       have hcsy:csy=[]:=List.eq_nil_of_length_eq_zero (by rw[hpy.1];simp)
       rw[hcsy]at hfy1
       obtain⟨d',hu',hd'⟩:=hzt;rcases hd' with rfl|rfl <;> simp only[List.length_nil,Builtin.append_,List.getElem?_toArray,List.getElem?_cons_zero,List.getElem?_cons_succ,Sem.run_bind,hu,Result.andThen_ok,run_size w hτe,Sem.run_pure,Bool.false_eq_true,if_false,hu',hlen',Nat.add_zero,Nat.le_refl,if_true,Bool.not_false,hfy1,List.toList_toArray,hst]
      ·simp only[AV.R]
       exact⟨L,ext_self _ _ _,.inr ⟨hn,c,0,rfl,Nat.le_refl _,Nat.zero_le _,.inl rfl,by simp;omega⟩⟩
     ·have hcc:=h3.resolve_left h0
      have hfit2:c+(len+ys.length)*τe.size<=arr.size:=by
       rw[hsize]
       rw[hsz]at h4 hcc
       have:=Nat.mul_le_mul_right τe.size hroom
       rw[Nat.add_mul]at h4
       omega
      have hnl:csy.toArray.size=ys.length*τe.size:=by rw[List.size_toArray,hpy.1,hes]
      have hrun:=run_append_inplaceG (P:=P) (ty:=ty) hτ hd hτe hzt hlen' (c:=c) (len:=len) (cap:=capx) hh hroom hfit2 hnl (by simpa using hpy.2.1) hfy1
      let L':Loc:=⟨false,L.b,c,L.n,L.sz⟩
      refine⟨_,_,_,[o],F,ext φ o L',_,hrun,afterMove hc (L':=L') ho rfl rfl rfl (by simp) (fun b _ hb=>setRow_other w L.b b _ (hb hn)) (fun _=>⟨.inr ⟨hn,rfl⟩,by simpa [L'] using (hc.live o L ho hn).2⟩) ?_,?_,hK⟩
      ·have hh':=setRow_heap w L.b arr (arr.toList.take (c+len*τe.size)++csy.toArray.toList++arr.toList.drop (c+len*τe.size+ys.length*τe.size)).toArray tyb _ hh
       have hfit3:(c+len*τe.size)+csy.toArray.toList.length<=arr.size:=by
        rw[Array.length_toList,hnl,Nat.add_assoc,← Nat.add_mul];exact hfit2
       have hl:=laid_in (arr:=arr) (cs:=csy.toArray.toList) (off:=c+len*τe.size) hfit3
       rw[Array.length_toList,hnl]at hl
       simp only[ObjR]
       refine⟨by simp[L',hsz,hes],.inr ⟨rfl,⟨_,tyb,hh',?_⟩,?_,?_⟩⟩
       ·simp only[L',List.size_toArray,List.length_append,List.length_take,List.length_drop,Array.length_toList]
        have hcl:csy.length=ys.length*τe.size:=by rw[hpy.1,hes]
        rw[Array.length_toList,hnl]at hfit3
        simp only[List.toList_toArray]at *
        omega
       ·simp only[L',List.length_append,hlen,hsz]
        rw[← hsize];exact hfit2
       ·
        obtain⟨_,_,csx2,hx2,_,hpx2,_⟩:=elems_cells (P:=P) (x:=.sl o off len) hc (c:=.slice (some ⟨L.b,c,none⟩) len capx) (by simp only[AV.R];exact⟨L,ho,.inr ⟨hn,c,capx,rfl,h1,h2,h3,h4⟩⟩) hxel (.inl rfl)
        have hrowx:D.Cr F w τe.want L.b c ((xs.drop off).take len):=by
         have:=D.Cr_drop (F:=F) (w:=w) off len hrow
         rw[hes]at this
         rw[hcc,hsz];exact this
        obtain⟨cs1,q1,q2,q3,q4⟩:=rowCells hrowx
        have hp1:Packed F w τe.want ((xs.drop off).take len) cs1:=⟨q1,q3,q4⟩
        refine Cr_of_packed (hc.sameOf ho hn (fun b hb=>setRow_other w L.b b _ hb)) (hp1.append hpy) (fun p hp=>?_)
        have e1:(w.setRow L.b (arr.toList.take (c+len*τe.size)++csy.toArray.toList++arr.toList.drop (c+len*τe.size+ys.length*τe.size)).toArray).cell? ⟨L.b,c+p,none⟩=(arr.toList.take (c+len*τe.size)++csy.toArray.toList++arr.toList.drop (c+len*τe.size+ys.length*τe.size)).toArray[c+p]?:=by
         simp only[World.cell?,hh'];simp
        simp only[L']
        rw[e1,hl]
        rw[List.length_append,hlen,hes,Nat.add_mul]at hp
        rw[hlen,hes]at q1
        by_cases hp1':p<len*τe.size
        ·rw[if_neg (by omega),List.getElem?_append_left (by omega)]
         have hg:cs1[p]?=some cs1[p]:=List.getElem?_eq_getElem (by omega)
         have:=q2 p _ hg
         rw[hg,← this]
         simp[World.cell?,hh]
        ·rw[if_pos ⟨by omega,by omega⟩,List.getElem?_append_right (by omega),q1]
         simp only[List.toList_toArray]
         congr 1;omega
      ·simp only[AV.R]
       refine⟨L',ext_self _ _ _,.inr ⟨rfl,c,capx,rfl,hroom,h2,.inr (by simp[L']),?_⟩⟩
       simp only[L',Nat.zero_add]
       rw[hcc]
       rw[Nat.add_mul]at h4
       omega
   ·
    have hrun:=run_append_growingG (P:=P) (ty:=ty) hτ hd hτe hz hzt hlen' (ax:=ax) (by omega) hb1 hb2 hfx1 hfy2
    obtain⟨r1,r2,r3,r4⟩:=grown_row (e:=e) (cap:=capx) hc hes hzs hpx.drew hpyd hlen hb1 (need:=len+ys.length) rfl rfl rfl
    refine⟨_,_,_,[o],F,ext φ o _,_,hrun,afterMove hc ho rfl rfl rfl (by omega) (fun b hb _=>r4 b hb) (fun _=>⟨.inl (Nat.le_refl _),by simp only;omega⟩) (r1 _),r2 _ o (ext_self _ _ _),hK⟩
  ·exact h.elim
 ·
  obtain⟨hb1,hb2,hK⟩:=h
  have hxe:=R_nils.1 hx
  subst hxe
  by_cases hys:ys=[]
  ·subst hys
   have hu:=run_und (P:=P) w hτ
   rw[hd]at hu
   let L:Loc:=⟨true,0,0,0,τe.size⟩
   refine⟨_,.slice none 0 0,_,[],F,ext φ own.length L,w,?_,After.new hc rfl rfl rfl (Nat.le_refl _) (fun _ _=>rfl) (fun hn'=>by cases hn') (by simp only[ObjR];exact⟨by simp[L,hes],.inl ⟨rfl,by trivial⟩⟩),?_,hK⟩
   ·simp only[List.length_nil]at hfy1 hlen' ⊢
    obtain⟨d',hu',hd'⟩:=hzt;rcases hd' with rfl|rfl <;> simp only[List.length_nil,Builtin.append_,List.getElem?_toArray,List.getElem?_cons_zero,List.getElem?_cons_succ,Sem.run_bind,hu,Result.andThen_ok,run_size w hτe,Sem.run_pure,Bool.false_eq_true,if_false,hu',hlen',Nat.add_zero,Nat.le_refl,if_true,Bool.not_false,hfy1]
   ·simp only[AV.R]
    exact⟨L,ext_self _ _ _,.inl ⟨rfl,by simp⟩⟩
  ·have hpos':0<ys.length:=List.length_pos_iff.2 hys
   have hf0:(Builtin.firstCells τe.size 0 (.slice none 0 0)).run P w.drew=.ok ([]:List Value).toArray w.drew:=by simp[Builtin.firstCells]
   have hrun:=run_append_growingG (P:=P) (w:=w) (ty:=ty) hτ hd hτe hz hzt hlen' (ax:=none) (len:=0) (cap:=0) (by omega) (by omega) (by simpa using hb2) hf0 hfy2
   obtain⟨r1,r2,r3,r4⟩:=grown_row (e:=e) (cap:=0) (len:=0) hc hes hzs (Packed.nil (F:=F) (w:=w) (ag:=τe.want)) hpyd rfl (by omega) (need:=0+ys.length) rfl rfl rfl
   simp only[List.nil_append]at r1
   rw[Nat.zero_add]at hrun r1 r2 r3 r4
   refine⟨_,_,_,[],F,ext φ own.length _,_,hrun,After.new hc rfl rfl rfl (by omega) r4 (fun _=>⟨Nat.le_refl _,by simp only;omega⟩) (r1 _),r2 _ own.length (ext_self _ _ _),hK⟩
 ·exact h.elim
theorem appendRw_sound(hc:Conc F φ own w){t ty:TypeId}{x y:AV}{cx cy:Value}{K:AV->List Obj->List Nat->Prop}(hx:AV.R F φ w x cx)(hy:AV.R F φ w y cy)(h:appendRw P (tyOf P t) own x y K) :
  Does P F φ w (Builtin.append_ #[t,t] ty #[cx,cy]) K:=by
 unfold appendRw at h
 split at h
 ·rename_i τ hτ
  split at h
  ·rename_i e hd
   split at h
   ·rename_i τe tag ys hτe hel
    obtain⟨htag,hes,hpos,⟨z,hz,hzs⟩,h⟩:=h
    obtain⟨ay,capy,csy,rfl,hmy,hpy,hfy⟩:=elems_cells (P:=P) hc hy hel htag
    obtain⟨ay',capy',csy',hcy',_,hpy',hfy'⟩:=elems_cells (P:=P) hc.drew (R_drew hy) hel htag
    have hfy1:=hfy ys.length (Nat.le_refl _)
    have hfy2:=hfy' ys.length (Nat.le_refl _)
    rw[List.take_of_length_le (by rw[hpy.1];exact Nat.le_refl _),hes]at hfy1
    rw[List.take_of_length_le (by rw[hpy'.1];exact Nat.le_refl _),hes]at hfy2
    have hpyd:=hpy'.drew
    exact appendRw_core hc hτ hd hτe hes hpos hz hzs hx ⟨_,fun w=>by rw[← hd];exact run_und (P:=P) w hτ,.inl rfl⟩ (fun _=>rfl) hpy hpyd hfy1 hfy2 h
   ·exact h.elim
  ·exact h.elim
 ·exact h.elim
def AV.vcells(own:List Obj):AV->Option (List AV)
 | .sl o off len=>(match own.getD o .dead with|.vec cs=>if off+len<=cs.length then some ((cs.drop off).take len) else none|_=>none)
 | _=>none
def appendVw(P:Program)(τ:Option Ty)(own:List Obj)(o off len:Nat)(cs:List AV)(y:AV)(K:AV->List Obj->List Nat->Prop):Prop :=
 match τ with
 | some τ=>(match τ.desc with
  | .slice e=>(match tyOf P e,y.vcells own with
   | some τe,some ys =>
    τe.size=1/\(∃z,τe.zero=some z/\z.cells.size=τe.size)/\off+len<=cs.length/\len+ys.length<=140737488355328/\(len+ys.length)*τe.bytes<=140737488355328 /\
     K (.sl o 0 (len+ys.length)) ((own.map (Obj.kill o)).set o (.vec (AV.kills o ((cs.drop off).take len++ys)))) [o]
   | _,_=>False)
  | _=>False)
 | none=>False
def appendNw(P:Program)(τ:Option Ty)(own:List Obj)(ys:List AV)(K:AV->List Obj->List Nat->Prop):Prop :=
 match τ with
 | some τ=>(match τ.desc with
  | .slice e=>(match tyOf P e with
   | some τe =>
    τe.size=1/\(∃z,τe.zero=some z/\z.cells.size=τe.size)/\ys.length<=140737488355328/\ys.length*τe.bytes<=140737488355328/\0<ys.length /\
     K (.sl own.length 0 ys.length) (own++[.vec ys]) []
   | none=>False)
  | _=>False)
 | none=>False
def AV.tcells(own:List Obj):AV->Option (Nat×Nat×List AV)
 | .sl o off len=>(match own.getD o .dead with|.tab k cs=>if (off+len)*k<=cs.length then some (k,len,(cs.drop (off*k)).take (len*k)) else none|_=>none)
 | _=>none
def appendTw(P:Program)(τ:Option Ty)(own:List Obj)(o off len k:Nat)(cs:List AV)(y:AV)(K:AV->List Obj->List Nat->Prop):Prop :=
 match τ with
 | some τ=>(match τ.desc with
  | .slice e=>(match tyOf P e,y.tcells own with
   | some τe,some (k',m,ys) =>
    τe.size=k/\k'=k/\0<k/\(∃z,τe.zero=some z/\z.cells.size=τe.size)/\(off+len)*k<=cs.length/\len+m<=140737488355328/\(len+m)*τe.bytes<=140737488355328 /\
     K (.sl o 0 (len+m)) ((own.map (Obj.kill o)).set o (.tab k (AV.kills o ((cs.drop (off*k)).take (len*k)++ys)))) [o]
   | _,_=>False)
  | _=>False)
 | none=>False
def appendw(P:Program)(τ:Option Ty)(own:List Obj)(x y:AV)(K:AV->List Obj->List Nat->Prop):Prop :=
 match x with
 | .sl o off len=>(match own.getD o .dead with
  | .vec cs=>appendVw P τ own o off len cs y K
  | .tab k cs=>appendTw P τ own o off len k cs y K
  | _=>appendRw P τ own x y K)
 | .nils=>(match y.vcells own with
  | some ys=>appendNw P τ own ys K
  | none=>appendRw P τ own x y K)
 | _=>appendRw P τ own x y K
theorem AV.Ra_app:∀{as bs:List AV} {vs us:List Value},AV.Ra F φ w as vs->AV.Ra F φ w bs us->AV.Ra F φ w (as++bs) (vs++us)
 | [],bs,vs,us,h,k=>by simp only[AV.Ra]at h;subst h;simpa using k
 | a :: as,bs,vs,us,h,k=>by
  simp only[AV.Ra]at h
  obtain⟨v,vs',rfl,h0,h2,h3⟩:=h
  simp only[List.cons_append,AV.Ra]
  exact⟨v,_,rfl,h0,h2,AV.Ra_app h3 k⟩
theorem vcells_cells(hc:Conc F φ own w){x:AV}{c:Value}{ys:List AV}(hx:AV.R F φ w x c)(he:x.vcells own=some ys) :
  ∃a cap vs,c=.slice a ys.length cap/\ys.length<=cap/\cap<=maxLen/\AV.Ra F φ w ys vs/\∀n,n<=ys.length->(Builtin.firstCells 1 n c).run P w=.ok (vs.take n).toArray w:=by
 unfold AV.vcells at he
 split at he
 ·rename_i o off len
  split at he
  ·rename_i cs hobj
   split at he
   ·rename_i hle
    cases he
    simp only[AV.R]at hx
    obtain⟨L,ho,hx⟩:=hx
    have hr:=getObj_rep hc ho
    rw[hobj]at hr
    simp only[ObjR]at hr
    obtain⟨hsz,hr⟩:=hr
    have hlen:((cs.drop off).take len).length=len:=by simp;omega
    rcases hx with⟨hn,rfl,rfl,rfl⟩|⟨hn,c0,cap,rfl,h1,h2,h3,h4⟩
    ·refine⟨none,0,[],by simp,by simp,by simp,by simp[AV.Ra],fun n hn'=>?_⟩
     have:n=0:=by simpa using hn'
     subst this
     simp[Builtin.firstCells]
    ·rcases hr with⟨hnil,_⟩|⟨_,arr,ty,hh,hsize,hfit,vs,hvs,hcells⟩
     ·rw[hn]at hnil;cases hnil
     rw[hsz]at h3
     have hvl:=AV.Ra_length hvs
     refine⟨some ⟨L.b,c0,none⟩,cap,(vs.drop off).take len,by rw[hlen],by rw[hlen];exact h1,h2,AV.Ra_take len (AV.Ra_drop off hvs),fun n hn'=>?_⟩
     rw[hlen]at hn'
     have:=run_first (P:=P) (w:=w) 1 n ⟨L.b,c0,none⟩ len cap ((vs.drop off).take len) (by simp;omega) (fun j v hj=>?_)
     ·simpa using this
     ·rw[List.getElem?_take]at hj
      split at hj
      ·rename_i hjl
       rw[List.getElem?_drop]at hj
       have hc0:c0=L.base+off*1:=by
        rcases h3 with h3|h3
        ·omega
        ·exact h3
       have hadd:(⟨L.b,c0,none⟩:Addr).add j=⟨L.b,c0+j,none⟩:=by unfold Addr.add;split <;> simp_all
       rw[hadd]
       simp only[World.cell?,hh]
       rw[← hj,← hcells (off+j) (by omega),hc0]
       simp[Nat.add_assoc]
      ·cases hj
   ·cases he
  ·cases he
 ·cases he
theorem appendVw_sound(hc:Conc F φ own w){t ty:TypeId}{o off len:Nat}{cs:List AV}{y:AV}{cx cy:Value}{K:AV->List Obj->List Nat->Prop}(hobj:own.getD o .dead=.vec cs)(hx:AV.R F φ w (.sl o off len) cx)(hy:AV.R F φ w y cy)
  (h:appendVw P (tyOf P t) own o off len cs y K):Does P F φ w (Builtin.append_ #[t,t] ty #[cx,cy]) K:=by
 unfold appendVw at h
 split at h
 ·rename_i τ hτ
  split at h
  ·rename_i e hd
   split at h
   ·rename_i τe ys hτe hys
    obtain⟨hs1,⟨z,hz,hzs⟩,hle,hb1,hb2,hK⟩:=h
    rw[hs1]at hzs
    obtain⟨ay,capy,vy,rfl,hyc,hyc2,hvy,hfy⟩:=vcells_cells (P:=P) hc hy hys
    obtain⟨ay',capy',vy',hcy',_,_,hvy',hfy'⟩:=vcells_cells (P:=P) hc.drew (R_drew hy) hys
    have hxv:(AV.sl o off len).vcells own=some ((cs.drop off).take len):=by simp only[AV.vcells,hobj,hle,if_true]
    have hlen:((cs.drop off).take len).length=len:=by simp;omega
    obtain⟨ax',capx',vx',hcx',_,_,hvx',hfx'⟩:=vcells_cells (P:=P) hc.drew (R_drew hx) hxv
    have hvyl:=AV.Ra_length hvy
    have hvyl':=AV.Ra_length hvy'
    have hvxl':=AV.Ra_length hvx'
    rw[hlen]at hvxl' hcx' hfx'
    have hfy1:=hfy ys.length (Nat.le_refl _)
    have hfy2:=hfy' ys.length (Nat.le_refl _)
    have hfx1:=hfx' len (Nat.le_refl _)
    rw[List.take_of_length_le (by omega)]at hfy1 hfy2 hfx1
    simp only[AV.R]at hx
    obtain⟨L,ho,hx⟩:=hx
    have hr:=getObj_rep hc ho
    rw[hobj]at hr
    simp only[ObjR]at hr
    obtain⟨hsz,hr⟩:=hr
    have hlenall:((cs.drop off).take len++ys).length=len+ys.length:=by rw[List.length_append,hlen]
    have hkl:(AV.kills o ((cs.drop off).take len++ys)).length=len+ys.length:=by rw[AV.kills_length,hlenall]
    rw[hcx']at hx ⊢
    by_cases hroom:len+ys.length<=capx'
    ·rcases hx with⟨hn,rfl,rfl,hxe⟩|⟨hn,c,cap,hxe,h1,h2,h3,h4⟩
     ·simp only[Value.slice.injEq]at hxe
      obtain⟨rfl,_,rfl⟩:=hxe
      have hye:ys=[]:=List.eq_nil_of_length_eq_zero (by omega)
      subst hye
      have hu:=run_und (P:=P) w hτ
      rw[hd]at hu
      refine⟨_,.slice none 0 0,_,[o],F,_,w,?_,afterMove hc (L':=L) ho rfl rfl rfl (Nat.le_refl _) (fun _ _ _=>rfl) (fun hn'=>by rw[hn]at hn';cases hn') (by simp only[ObjR];exact⟨hsz,.inl ⟨hn,by simp[AV.kills]⟩⟩),?_,hK⟩
      ·simp only[List.length_nil]at hfy1 ⊢
       simp only[List.length_nil,Builtin.append_,List.getElem?_toArray,List.getElem?_cons_zero,List.getElem?_cons_succ,Sem.run_bind,hu,Result.andThen_ok,run_size w hτe,hs1,Sem.run_pure,Bool.false_eq_true,if_false,Builtin.lenOf,Nat.add_zero,Nat.le_refl,if_true,Bool.not_false,hfy1]
      ·simp only[AV.R]
       exact⟨L,ext_self _ _ _,.inl ⟨hn,by simp⟩⟩
     ·simp only[Value.slice.injEq]at hxe
      obtain⟨rfl,_,rfl⟩:=hxe
      rcases hr with⟨hnil,_⟩|⟨_,arr,tyb,hh,hsize,hfit,vs,hvs,hcells⟩
      ·rw[hn]at hnil;cases hnil
      have hvl:=AV.Ra_length hvs
      rw[hsz]at h3 h4
      simp only[Nat.mul_one]at h3 h4
      by_cases h0:capx'=0
      ·have hl0:len=0:=by omega
       have hye:ys=[]:=List.eq_nil_of_length_eq_zero (by omega)
       subst hye
       subst hl0
       subst h0
       have hu:=run_und (P:=P) w hτ
       rw[hd]at hu
       refine⟨_,.slice (some ⟨L.b,c,none⟩) 0 0,_,[o],F,_,w,?_,afterMove hc (L':=L) ho rfl rfl rfl (Nat.le_refl _) (fun _ _ _=>rfl) (fun _=>⟨.inr ⟨hn,rfl⟩,(hc.live o L ho hn).2⟩)
        (by simp only[ObjR];exact⟨hsz,.inr ⟨hn,arr,tyb,hh,hsize,by simp[AV.kills];omega,[],by simp[AV.kills,AV.Ra],by simp[AV.kills]⟩⟩),?_,hK⟩
       ·simp only[List.length_nil]at hfy1 ⊢
        have hst:(storeCells ((⟨L.b,c,none⟩:Addr).add (0*τe.size)) []).run P w=.ok () w:=rfl
        rw[hs1]at hst
        have hvy0:vy=[]:=List.eq_nil_of_length_eq_zero (by simpa using hvyl)
        rw[hvy0]at hfy1
        simp only[List.length_nil,Builtin.append_,List.getElem?_toArray,List.getElem?_cons_zero,List.getElem?_cons_succ,Sem.run_bind,hu,Result.andThen_ok,run_size w hτe,hs1,Sem.run_pure,Bool.false_eq_true,if_false,Builtin.lenOf,Nat.add_zero,Nat.le_refl,if_true,Bool.not_true,Bool.not_false,hfy1,hst,Nat.zero_le]
       ·simp only[AV.R]
        exact⟨L,ext_self _ _ _,.inr ⟨hn,c,0,rfl,Nat.le_refl _,Nat.zero_le _,.inl rfl,by simp;omega⟩⟩
      ·have hcc:=h3.resolve_left h0
       have hfit2:c+(len+ys.length)*τe.size<=arr.size:=by rw[hs1,hsize];omega
       have hnl:vy.toArray.size=ys.length*τe.size:=by rw[List.size_toArray,hvyl,hs1,Nat.mul_one]
       have hfy1':(Builtin.firstCells τe.size ys.length (.slice ay ys.length capy)).run P w=.ok vy.toArray w:=by rw[hs1];exact hfy1
       have hrun:=run_append_inplace (P:=P) (ty:=ty) hτ hd hτe (c:=c) (len:=len) (cap:=capx') hh hroom hfit2 hnl (by simpa using (AV.Ra_iff.1 hvy).2) hfy1'
       rw[hs1]at hrun
       simp only[Nat.mul_one]at hrun
       let L':Loc:=⟨false,L.b,c,L.n,L.sz⟩
       have hbl:c+len+vy.length<=arr.size:=by rw[hsize,hvyl];omega
       have hh':=setRow_heap w L.b arr (arr.toList.take (c+len)++vy.toArray.toList++arr.toList.drop (c+len+ys.length)).toArray tyb _ hh
       have hother:∀b,b≠L.b->(w.setRow L.b (arr.toList.take (c+len)++vy.toArray.toList++arr.toList.drop (c+len+ys.length)).toArray).heap[b]?=w.heap[b]?:=fun b hb=>setRow_other w L.b b _ hb
       have hSame:=hc.sameOf ho hn hother
       refine⟨_,_,_,[o],F,ext φ o L',_,hrun,afterMove hc (L':=L') ho rfl rfl rfl (by simp) (fun b _ hb=>setRow_other w L.b b _ (hb hn)) (fun _=>⟨.inr ⟨hn,rfl⟩,by simpa [L'] using (hc.live o L ho hn).2⟩) ?_,?_,hK⟩
       ·have hl:=laid_in (arr:=arr) (cs:=vy) (off:=c+len) (by omega)
        rw[hvyl]at hl
        simp only[ObjR]
        refine⟨hsz,.inr ⟨rfl,_,tyb,hh',?_,?_,(vs.drop off).take len++vy,?_,?_⟩⟩
        ·simp only[L',List.size_toArray,List.length_append,List.length_take,List.length_drop,Array.length_toList,List.toList_toArray]
         omega
        ·simp only[L',hkl];omega
        ·refine AV.Ra_kill (fun _ h=>h) hSame (fun o' L3 hne ho'=>by unfold ext;rw[if_neg hne];exact ho') _ _ (AV.Ra_app (AV.Ra_take len (AV.Ra_drop off hvs)) hvy)
        ·intro j hj
         rw[hkl]at hj
         simp only[L',List.toList_toArray]
         rw[hl]
         have hvt:((vs.drop off).take len).length=len:=by simp;omega
         by_cases hjl:j<len
         ·rw[if_neg (by omega),List.getElem?_append_left (by omega),List.getElem?_take,if_pos hjl,List.getElem?_drop,← hcells (off+j) (by omega),hcc,Nat.add_assoc]
         ·rw[if_pos ⟨by omega,by omega⟩,List.getElem?_append_right (by omega),hvt]
          congr 1;omega
       ·simp only[AV.R]
        refine⟨L',ext_self _ _ _,.inr ⟨rfl,c,capx',rfl,hroom,h2,.inr (by simp[L']),?_⟩⟩
        simp only[L',Nat.zero_add,hsz,Nat.mul_one]
        omega
    ·have hfx1':(Builtin.firstCells τe.size len (.slice ax' len capx')).run P w.drew=.ok vx'.toArray w.drew:=by rw[hs1,← hcx'];exact hfx1
     have hfy2':(Builtin.firstCells τe.size ys.length (.slice ay ys.length capy)).run P w.drew=.ok vy'.toArray w.drew:=by rw[hs1];exact hfy2
     have hrun:=run_append_growing (P:=P) (ty:=ty) hτ hd hτe hz (ax:=ax') (ay:=ay) (cy:=capy) (by omega) hb1 hb2 hfx1' hfy2'
     have hge:=grownCap_ge w (len+ys.length) capx' e
     have hcm:=grownCap_le_maxLen w (len+ys.length) capx' e (by simp only[maxLen];omega)
     have hsize:(vx'.toArray++vy'.toArray++Builtin.zeroCells z.cells (grownCap w (len+ys.length) capx' e - (len+ys.length))).size=grownCap w (len+ys.length) capx' e:=by
      simp only[Array.size_append,List.size_toArray,size_zeroCells,hzs,hvxl',hvyl',Nat.mul_one]
      omega
     have hnew:(w.drew.alloc (.cells (vx'.toArray++vy'.toArray++Builtin.zeroCells z.cells (grownCap w (len+ys.length) capx' e - (len+ys.length))) e)).heap[w.heap.size]?=some (.cells _ e):=heap_alloc_new w.drew _
     have hold:∀b,b<w.heap.size->(w.drew.alloc (.cells (vx'.toArray++vy'.toArray++Builtin.zeroCells z.cells (grownCap w (len+ys.length) capx' e - (len+ys.length))) e)).heap[b]?=w.heap[b]?:=fun b hb=>heap_alloc_old w.drew _ b hb
     have hszn:(w.drew.alloc (.cells (vx'.toArray++vy'.toArray++Builtin.zeroCells z.cells (grownCap w (len+ys.length) capx' e - (len+ys.length))) e)).heap.size=w.heap.size+1:=by rw[World.size_alloc];rfl
     let L':Loc:=⟨false,w.heap.size,0,grownCap w (len+ys.length) capx' e,1⟩
     refine⟨_,_,_,[o],F,ext φ o L',_,hrun,afterMove hc (L':=L') ho rfl rfl rfl (by omega) (fun b hb _=>hold b hb) (fun _=>⟨.inl (Nat.le_refl _),by simp only[L'];omega⟩) ?_,?_,hK⟩
     ·simp only[ObjR]
      refine⟨rfl,.inr ⟨rfl,_,e,hnew,hsize,?_,vx'++vy',?_,?_⟩⟩
      ·simp only[L',hkl];omega
      ·refine AV.Ra_kill (F:=F) (F':=F) (φ:=φ) (w:=w) (fun _ h=>h) (hc.sameF hold) (fun o' L3 hne ho'=>by unfold ext;rw[if_neg hne];exact ho') _ _ (AV.Ra_mono (fun _ h=>h) drew_same (fun _ _ h=>h) _ _ (AV.Ra_app hvx' hvy'))
      ·intro j hj
       rw[hkl]at hj
       simp only[L',Nat.zero_add]
       rw[Array.getElem?_append_left (by simp only[Array.size_append,List.size_toArray,hvxl',hvyl'];exact hj),List.append_toArray,List.getElem?_toArray]
     ·simp only[AV.R]
      refine⟨L',ext_self _ _ _,.inr ⟨rfl,0,_,rfl,hge,hcm,.inr (by simp[L']),?_⟩⟩
      simp only[L',Nat.zero_add,Nat.mul_one]
      exact Nat.le_refl _
   ·exact h.elim
  ·exact h.elim
 ·exact h.elim
theorem tcells_cells(hc:Conc F φ own w){x:AV}{c:Value}{k m:Nat}{ys:List AV}(hx:AV.R F φ w x c)(he:x.tcells own=some (k,m,ys)) :
  ∃a cap vs,c=.slice a m cap/\m<=cap/\cap<=maxLen/\ys.length=m*k/\AV.Ra F φ w ys vs/\(Builtin.firstCells k m c).run P w=.ok vs.toArray w:=by
 unfold AV.tcells at he
 split at he
 ·rename_i o off len
  split at he
  ·rename_i k0 cs hobj
   split at he
   ·rename_i hle
    cases he
    simp only[AV.R]at hx
    obtain⟨L,ho,hx⟩:=hx
    have hr:=getObj_rep hc ho
    rw[hobj]at hr
    simp only[ObjR]at hr
    obtain⟨hsz,hr⟩:=hr
    rw[Nat.add_mul]at hle
    have hlen:((cs.drop (off*k)).take (m*k)).length=m*k:=by simp;omega
    rcases hx with⟨hn,rfl,rfl,rfl⟩|⟨hn,c0,cap,rfl,h1,h2,h3,h4⟩
    ·refine⟨none,0,[],rfl,Nat.le_refl _,Nat.zero_le _,by simp,by simp[AV.Ra],?_⟩
     simp[Builtin.firstCells]
    ·rcases hr with⟨hnil,_⟩|⟨_,arr,ty,hh,hsize,hfit,vs,hvs,hcells⟩
     ·rw[hn]at hnil;cases hnil
     rw[hsz]at h3
     have hvl:=AV.Ra_length hvs
     refine⟨some ⟨L.b,c0,none⟩,cap,(vs.drop (off*k)).take (m*k),rfl,h1,h2,hlen,AV.Ra_take _ (AV.Ra_drop _ hvs),?_⟩
     have:=run_first (P:=P) (w:=w) k m ⟨L.b,c0,none⟩ m cap ((vs.drop (off*k)).take (m*k)) (by simp;omega) (fun j v hj=>?_)
     ·rw[this,List.take_of_length_le (by rw[List.length_take];omega)]
     ·rw[List.getElem?_take]at hj
      split at hj
      ·rename_i hjl
       rw[List.getElem?_drop]at hj
       have hc0:c0=L.base+off*k:=by
        rcases h3 with h3|h3
        ·have:m=0:=by omega
         subst this;omega
        ·exact h3
       have hadd:(⟨L.b,c0,none⟩:Addr).add j=⟨L.b,c0+j,none⟩:=by unfold Addr.add;split <;> simp_all
       rw[hadd]
       simp only[World.cell?,hh]
       rw[← hj,← hcells (off*k+j) (by omega),hc0]
       simp[Nat.add_assoc]
      ·cases hj
   ·cases he
  ·cases he
 ·cases he
theorem appendTw_sound(hc:Conc F φ own w){t ty:TypeId}{o off len k:Nat}{cs:List AV}{y:AV}{cx cy:Value}{K:AV->List Obj->List Nat->Prop}(hobj:own.getD o .dead=.tab k cs)(hx:AV.R F φ w (.sl o off len) cx)(hy:AV.R F φ w y cy)
  (h:appendTw P (tyOf P t) own o off len k cs y K):Does P F φ w (Builtin.append_ #[t,t] ty #[cx,cy]) K:=by
 unfold appendTw at h
 split at h
 ·rename_i τ hτ
  split at h
  ·rename_i e hd
   split at h
   ·rename_i τe k' m ys hτe hys
    obtain⟨hs1,rfl,hk0,⟨z,hz,hzs⟩,hle,hb1,hb2,hK⟩:=h
    rw[hs1]at hzs
    obtain⟨ay,capy,vy,rfl,hyc,hyc2,hyl,hvy,hfy1⟩:=tcells_cells (P:=P) hc hy hys
    obtain⟨ay',capy',vy',hcy',_,_,_,hvy',hfy2⟩:=tcells_cells (P:=P) hc.drew (R_drew hy) hys
    have hxv:(AV.sl o off len).tcells own=some (k',len,(cs.drop (off*k')).take (len*k')):=by simp only[AV.tcells,hobj,hle,if_true]
    obtain⟨ax',capx',vx',hcx',_,_,hlen,hvx',hfx1⟩:=tcells_cells (P:=P) hc.drew (R_drew hx) hxv
    have hvyl:=AV.Ra_length hvy
    have hvyl':=AV.Ra_length hvy'
    have hvxl':=AV.Ra_length hvx'
    rw[hlen]at hvxl'
    rw[hyl]at hvyl hvyl'
    simp only[AV.R]at hx
    obtain⟨L,ho,hx⟩:=hx
    have hr:=getObj_rep hc ho
    rw[hobj]at hr
    simp only[ObjR]at hr
    obtain⟨hsz,hr⟩:=hr
    have hmul:(len+m)*k'=len*k'+m*k':=Nat.add_mul _ _ _
    have hle':=hle
    rw[Nat.add_mul]at hle'
    have hlenall:((cs.drop (off*k')).take (len*k')++ys).length=len*k'+m*k':=by rw[List.length_append,hlen,hyl]
    have hkl:(AV.kills o ((cs.drop (off*k')).take (len*k')++ys)).length=len*k'+m*k':=by rw[AV.kills_length,hlenall]
    rw[hcx']at hx ⊢
    by_cases hroom:len+m<=capx'
    ·rcases hx with⟨hn,rfl,rfl,hxe⟩|⟨hn,c,cap,hxe,h1,h2,h3,h4⟩
     ·simp only[Value.slice.injEq]at hxe
      obtain⟨rfl,_,rfl⟩:=hxe
      have hm0:m=0:=by omega
      subst hm0
      have hye:ys=[]:=List.eq_nil_of_length_eq_zero (by omega)
      subst hye
      have hvy0:vy=[]:=List.eq_nil_of_length_eq_zero (by simpa using hvyl)
      rw[hvy0]at hfy1
      have hu:=run_und (P:=P) w hτ
      rw[hd]at hu
      refine⟨_,.slice none 0 0,_,[o],F,_,w,?_,afterMove hc (L':=L) ho rfl rfl rfl (Nat.le_refl _) (fun _ _ _=>rfl) (fun hn'=>by rw[hn]at hn';cases hn') (by simp only[ObjR];exact⟨hsz,.inl ⟨hn,by simp[AV.kills]⟩⟩),?_,hK⟩
      ·simp only[Builtin.append_,List.getElem?_toArray,List.getElem?_cons_zero,List.getElem?_cons_succ,Sem.run_bind,hu,Result.andThen_ok,run_size w hτe,hs1,Sem.run_pure,Bool.false_eq_true,if_false,Builtin.lenOf,Nat.add_zero,Nat.le_refl,if_true,Bool.not_false,hfy1]
      ·simp only[AV.R]
       exact⟨L,ext_self _ _ _,.inl ⟨hn,by simp⟩⟩
     ·simp only[Value.slice.injEq]at hxe
      obtain⟨rfl,_,rfl⟩:=hxe
      rcases hr with⟨hnil,_⟩|⟨_,arr,tyb,hh,hsize,hfit,vs,hvs,hcells⟩
      ·rw[hn]at hnil;cases hnil
      have hvl:=AV.Ra_length hvs
      rw[hsz]at h3 h4
      by_cases h0:capx'=0
      ·have hl0:len=0:=by omega
       have hm0:m=0:=by omega
       subst hl0
       subst hm0
       subst h0
       have hye:ys=[]:=List.eq_nil_of_length_eq_zero (by omega)
       subst hye
       have hu:=run_und (P:=P) w hτ
       rw[hd]at hu
       refine⟨_,.slice (some ⟨L.b,c,none⟩) 0 0,_,[o],F,_,w,?_,afterMove hc (L':=L) ho rfl rfl rfl (Nat.le_refl _) (fun _ _ _=>rfl) (fun _=>⟨.inr ⟨hn,rfl⟩,(hc.live o L ho hn).2⟩)
        (by simp only[ObjR];exact⟨hsz,.inr ⟨hn,arr,tyb,hh,hsize,by simp[AV.kills];omega,[],by simp[AV.kills,AV.Ra],by simp[AV.kills]⟩⟩),?_,hK⟩
       ·have hst:(storeCells ((⟨L.b,c,none⟩:Addr).add (0*τe.size)) []).run P w=.ok () w:=rfl
        rw[hs1]at hst
        have hvy0:vy=[]:=List.eq_nil_of_length_eq_zero (by simpa using hvyl)
        rw[hvy0]at hfy1
        simp only[Builtin.append_,List.getElem?_toArray,List.getElem?_cons_zero,List.getElem?_cons_succ,Sem.run_bind,hu,Result.andThen_ok,run_size w hτe,hs1,Sem.run_pure,Bool.false_eq_true,if_false,Builtin.lenOf,Nat.add_zero,Nat.le_refl,if_true,Bool.not_false,hfy1,hst]
       ·simp only[AV.R]
        exact⟨L,ext_self _ _ _,.inr ⟨hn,c,0,rfl,Nat.le_refl _,Nat.zero_le _,.inl rfl,by simp;omega⟩⟩
      ·have hcc:=h3.resolve_left h0
       have hcapk:(len+m)*k'<=capx'*k':=Nat.mul_le_mul_right _ hroom
       rw[Nat.add_mul off capx']at h4
       have hfit2:c+(len+m)*τe.size<=arr.size:=by rw[hs1,hsize];omega
       have hnl:vy.toArray.size=m*τe.size:=by rw[List.size_toArray,hvyl,hs1]
       have hfy1':(Builtin.firstCells τe.size m (.slice ay m capy)).run P w=.ok vy.toArray w:=by rw[hs1];exact hfy1
       have hrun:=run_append_inplace (P:=P) (ty:=ty) hτ hd hτe (c:=c) (len:=len) (cap:=capx') hh hroom hfit2 hnl (by simpa using (AV.Ra_iff.1 hvy).2) hfy1'
       rw[hs1]at hrun
       let L':Loc:=⟨false,L.b,c,L.n,L.sz⟩
       have hbl:c+len*k'+vy.length<=arr.size:=by rw[hsize,hvyl];omega
       have hh':=setRow_heap w L.b arr (arr.toList.take (c+len*k')++vy.toArray.toList++arr.toList.drop (c+len*k'+m*k')).toArray tyb _ hh
       have hother:∀b,b≠L.b->(w.setRow L.b (arr.toList.take (c+len*k')++vy.toArray.toList++arr.toList.drop (c+len*k'+m*k')).toArray).heap[b]?=w.heap[b]?:=fun b hb=>setRow_other w L.b b _ hb
       have hSame:=hc.sameOf ho hn hother
       refine⟨_,_,_,[o],F,ext φ o L',_,hrun,afterMove hc (L':=L') ho rfl rfl rfl (by simp) (fun b _ hb=>setRow_other w L.b b _ (hb hn)) (fun _=>⟨.inr ⟨hn,rfl⟩,by simpa [L'] using (hc.live o L ho hn).2⟩) ?_,?_,hK⟩
       ·have hl:=laid_in (arr:=arr) (cs:=vy) (off:=c+len*k') (by omega)
        rw[hvyl]at hl
        simp only[ObjR]
        refine⟨hsz,.inr ⟨rfl,_,tyb,hh',?_,?_,(vs.drop (off*k')).take (len*k')++vy,?_,?_⟩⟩
        ·simp only[L',List.size_toArray,List.length_append,List.length_take,List.length_drop,Array.length_toList,List.toList_toArray]
         omega
        ·simp only[L',hkl];omega
        ·refine AV.Ra_kill (fun _ h=>h) hSame (fun o' L3 hne ho'=>by unfold ext;rw[if_neg hne];exact ho') _ _ (AV.Ra_app (AV.Ra_take _ (AV.Ra_drop _ hvs)) hvy)
        ·intro j hj
         rw[hkl]at hj
         simp only[L',List.toList_toArray]
         rw[hl]
         have hvt:((vs.drop (off*k')).take (len*k')).length=len*k':=by simp;omega
         by_cases hjl:j<len*k'
         ·rw[if_neg (by omega),List.getElem?_append_left (by omega),List.getElem?_take,if_pos hjl,List.getElem?_drop,← hcells (off*k'+j) (by omega),hcc,Nat.add_assoc]
         ·rw[if_pos ⟨by omega,by omega⟩,List.getElem?_append_right (by omega),hvt]
          congr 1;omega
       ·simp only[AV.R]
        refine⟨L',ext_self _ _ _,.inr ⟨rfl,c,capx',rfl,hroom,h2,.inr (by simp[L']),?_⟩⟩
        simp only[L',Nat.zero_add,hsz]
        omega
    ·have hfx1':(Builtin.firstCells τe.size len (.slice ax' len capx')).run P w.drew=.ok vx'.toArray w.drew:=by rw[hs1,← hcx'];exact hfx1
     have hfy2':(Builtin.firstCells τe.size m (.slice ay m capy)).run P w.drew=.ok vy'.toArray w.drew:=by rw[hs1];exact hfy2
     have hrun:=run_append_growing (P:=P) (ty:=ty) hτ hd hτe hz (ax:=ax') (ay:=ay) (cy:=capy) (by omega) hb1 hb2 hfx1' hfy2'
     have hge:=grownCap_ge w (len+m) capx' e
     have hcm:=grownCap_le_maxLen w (len+m) capx' e (by simp only[maxLen];omega)
     have hgk:(len+m)*k'<=grownCap w (len+m) capx' e*k':=Nat.mul_le_mul_right _ hge
     have hsize:(vx'.toArray++vy'.toArray++Builtin.zeroCells z.cells (grownCap w (len+m) capx' e - (len+m))).size=grownCap w (len+m) capx' e*k':=by
      simp only[Array.size_append,List.size_toArray,size_zeroCells,hzs,hvxl',hvyl',Nat.sub_mul]
      omega
     have hnew:(w.drew.alloc (.cells (vx'.toArray++vy'.toArray++Builtin.zeroCells z.cells (grownCap w (len+m) capx' e - (len+m))) e)).heap[w.heap.size]?=some (.cells _ e):=heap_alloc_new w.drew _
     have hold:∀b,b<w.heap.size->(w.drew.alloc (.cells (vx'.toArray++vy'.toArray++Builtin.zeroCells z.cells (grownCap w (len+m) capx' e - (len+m))) e)).heap[b]?=w.heap[b]?:=fun b hb=>heap_alloc_old w.drew _ b hb
     have hszn:(w.drew.alloc (.cells (vx'.toArray++vy'.toArray++Builtin.zeroCells z.cells (grownCap w (len+m) capx' e - (len+m))) e)).heap.size=w.heap.size+1:=by rw[World.size_alloc];rfl
     let L':Loc:=⟨false,w.heap.size,0,grownCap w (len+m) capx' e*k',k'⟩
     refine⟨_,_,_,[o],F,ext φ o L',_,hrun,afterMove hc (L':=L') ho rfl rfl rfl (by omega) (fun b hb _=>hold b hb) (fun _=>⟨.inl (Nat.le_refl _),by simp only[L'];omega⟩) ?_,?_,hK⟩
     ·simp only[ObjR]
      refine⟨rfl,.inr ⟨rfl,_,e,hnew,hsize,?_,vx'++vy',?_,?_⟩⟩
      ·simp only[L',hkl];omega
      ·refine AV.Ra_kill (F:=F) (F':=F) (φ:=φ) (w:=w) (fun _ h=>h) (hc.sameF hold) (fun o' L3 hne ho'=>by unfold ext;rw[if_neg hne];exact ho') _ _ (AV.Ra_mono (fun _ h=>h) drew_same (fun _ _ h=>h) _ _ (AV.Ra_app hvx' hvy'))
      ·intro j hj
       rw[hkl]at hj
       simp only[L',Nat.zero_add]
       rw[Array.getElem?_append_left (by simp only[Array.size_append,List.size_toArray,hvxl',hvyl'];exact hj),List.append_toArray,List.getElem?_toArray]
     ·simp only[AV.R]
      refine⟨L',ext_self _ _ _,.inr ⟨rfl,0,_,rfl,hge,hcm,.inr (by simp[L']),?_⟩⟩
      simp only[L',Nat.zero_add]
      exact Nat.le_refl _
   ·exact h.elim
  ·exact h.elim
 ·exact h.elim
theorem appendNw_sound(hc:Conc F φ own w){t ty:TypeId}{ys:List AV}{y:AV}{cy:Value}{K:AV->List Obj->List Nat->Prop}(hy:AV.R F φ w y cy)(hys:y.vcells own=some ys)
  (h:appendNw P (tyOf P t) own ys K):Does P F φ w (Builtin.append_ #[t,t] ty #[.slice none 0 0,cy]) K:=by
 unfold appendNw at h
 split at h
 ·rename_i τ hτ
  split at h
  ·rename_i e hd
   split at h
   ·rename_i τe hτe
    obtain⟨hs1,⟨z,hz,hzs⟩,hb1,hb2,hpos,hK⟩:=h
    rw[hs1]at hzs
    obtain⟨ay,capy,vy,rfl,hyc,hyc2,hvy,hfy⟩:=vcells_cells (P:=P) hc hy hys
    obtain⟨ay',capy',vy',hcy',_,_,hvy',hfy'⟩:=vcells_cells (P:=P) hc.drew (R_drew hy) hys
    have hvyl':=AV.Ra_length hvy'
    have hfy2:=hfy' ys.length (Nat.le_refl _)
    rw[List.take_of_length_le (by omega)]at hfy2
    have hf0:(Builtin.firstCells τe.size 0 (.slice none 0 0)).run P w.drew=.ok ([]:List Value).toArray w.drew:=by simp[Builtin.firstCells]
    have hfy2':(Builtin.firstCells τe.size ys.length (.slice ay ys.length capy)).run P w.drew=.ok vy'.toArray w.drew:=by rw[hs1];exact hfy2
    have hrun:=run_append_growing (P:=P) (w:=w) (ty:=ty) hτ hd hτe hz (ax:=none) (len:=0) (cap:=0) (ay:=ay) (cy:=capy) (by omega) (by omega) (by simpa using hb2) hf0 hfy2'
    simp only[Nat.zero_add]at hrun
    have hge:=grownCap_ge w ys.length 0 e
    have hcm:=grownCap_le_maxLen w ys.length 0 e (by simp only[maxLen];omega)
    have hsize:(([]:List Value).toArray++vy'.toArray++Builtin.zeroCells z.cells (grownCap w ys.length 0 e - ys.length)).size=grownCap w ys.length 0 e:=by
     simp only[Array.size_append,List.size_toArray,size_zeroCells,hzs,hvyl',Nat.mul_one,List.length_nil]
     omega
    refine newVec_sound hc (cs:=ys) (css:=([]:List Value).toArray++vy'.toArray++Builtin.zeroCells z.cells (grownCap w ys.length 0 e - ys.length)) (len:=ys.length) (cap:=grownCap w ys.length 0 e) (w0:=w.drew) (e:=e) rfl hge hcm hsize
     (AV.Ra_mono (fun _ h=>h) drew_same (fun _ _ h=>h) _ _ hvy') (fun j hj=>?_) rfl rfl rfl rfl hK hrun
    rw[Array.getElem?_append_left (by simp only[Array.size_append,List.size_toArray,hvyl',List.length_nil];omega),List.append_toArray,List.getElem?_toArray]
    rfl
   ·exact h.elim
  ·exact h.elim
 ·exact h.elim
theorem appendw_sound(hc:Conc F φ own w){t ty:TypeId}{x y:AV}{cx cy:Value}{K:AV->List Obj->List Nat->Prop}(hx:AV.R F φ w x cx)(hy:AV.R F φ w y cy)(h:appendw P (tyOf P t) own x y K) :
  Does P F φ w (Builtin.append_ #[t,t] ty #[cx,cy]) K:=by
 unfold appendw at h
 split at h
 ·split at h
  ·rename_i hobj;exact appendVw_sound hc hobj hx hy h
  ·rename_i hobj;exact appendTw_sound hc hobj hx hy h
  ·exact appendRw_sound hc hx hy h
 ·split at h
  ·rename_i hys
   have:=R_nils.1 hx
   subst this
   exact appendNw_sound hc hy hys h
  ·exact appendRw_sound hc hx hy h
 ·exact appendRw_sound hc hx hy h
def u8V(b:UInt8):Value:=.int .u8 (b.toNat:Int)
def appendSw(P:Program)(τ:Option Ty)(own:List Obj)(x:AV)(s:List UInt8)(K:AV->List Obj->List Nat->Prop):Prop :=
 match τ with
 | some τ=>(match τ.desc with
  | .slice e=>(match tyOf P e with
   | some τe=>τe.size=1/\τe.bytes=1/\(∃z,τe.zero=some z/\z.cells.size=τe.size) /\
    (match x with
    | .sl o off len=>(match own.getD o .dead with
     | .brow e' bs=>e'=e/\off=0/\len=bs.length/\len+s.length<=140737488355328 /\
       K (.sl o 0 (len+s.length)) ((own.map (Obj.kill o)).set o (.brow e (bs++s))) [o]
     | _=>False)
    | .nils=>s.length<=140737488355328/\0<s.length/\K (.sl own.length 0 s.length) (own++[.brow e s]) []
    | _=>False)
   | none=>False)
  | _=>False)
 | none=>False
theorem run_str_first{s:List UInt8}(w:World):(Builtin.firstCells 1 s.length (.string ⟨s.toArray⟩)).run P w=.ok (s.map u8V).toArray w:=by
 have e:(ByteArray.mk s.toArray).extract 0 s.length=⟨s.toArray⟩:=by
  apply ByteArray.ext
  simp
 simp only[Builtin.firstCells,e,Sem.run_pure,List.map_toArray]
 rfl
theorem u8V_one(s:List UInt8):∀u∈s.map u8V,u.oneCell'=true:=fun u hu=>by
 obtain⟨b,_,rfl⟩:=List.mem_map.1 hu
 rfl
theorem grown_brow(hc:Conc F φ own w){e:TypeId}{z:Value}{cap:Nat}{bs s:List UInt8}(hzs:z.cells.size=1)(hb:bs.length+s.length<=140737488355328){w':World}{cells:Array Value}
  (hcells:cells=(bs.map u8V).toArray++(s.map u8V).toArray++Builtin.zeroCells z.cells (grownCap w (bs.length+s.length) cap e - (bs.length+s.length))) (hw':w'=w.drew.alloc (.cells cells e)) :
  (∀φ':Nat->Option Loc,ObjR F φ' w' (some ⟨false,w.heap.size,0,cells.size,1⟩) (.brow e (bs++s))) /\
  (∀(φ':Nat->Option Loc) (o:Nat),φ' o=some ⟨false,w.heap.size,0,cells.size,1⟩->AV.R F φ' w' (.sl o 0 (bs.length+s.length)) (.slice (some ⟨w.heap.size,0,none⟩) (bs.length+s.length) (grownCap w (bs.length+s.length) cap e))) /\
  w'.heap.size=w.heap.size+1/\(∀b,b<w.heap.size->w'.heap[b]?=w.heap[b]?):=by
 have hge:=grownCap_ge w (bs.length+s.length) cap e
 have hcm:=grownCap_le_maxLen w (bs.length+s.length) cap e (by simp only[maxLen];omega)
 have hsize:cells.size=grownCap w (bs.length+s.length) cap e:=by
  rw[hcells]
  simp only[Array.size_append,List.size_toArray,List.length_map,size_zeroCells,hzs,Nat.mul_one]
  omega
 have hnew:w'.heap[w.heap.size]?=some (.cells cells e):=by rw[hw'];exact heap_alloc_new w.drew (.cells cells e)
 have hold:∀b,b<w.heap.size->w'.heap[b]?=w.heap[b]?:=fun b hb=>by rw[hw'];exact heap_alloc_old w.drew _ b hb
 refine⟨fun φ'=>?_,fun φ' o ho=>?_,by rw[hw',World.size_alloc];rfl,hold⟩
 ·simp only[ObjR]
  refine⟨by first|rfl|trivial,.inr ⟨by first|rfl|trivial,cells,hnew,rfl,by first|rfl|trivial,by rw[List.length_append];omega,fun j hj=>?_⟩⟩
  rw[hcells,Array.getElem?_append_left (by simpa using hj),List.append_toArray,List.getElem?_toArray,← List.map_append,List.getElem?_map]
  rfl
 ·simp only[AV.R]
  refine⟨_,ho,.inr ⟨by first|rfl|trivial,0,_,rfl,hge,hcm,.inr (by simp),?_⟩⟩
  simp only[Nat.zero_add]
  rw[hsize]
  omega
theorem appendSw_sound(hc:Conc F φ own w){t t' ty:TypeId}{x:AV}{s:List UInt8}{cx cy:Value}{τ':Ty}{K:AV->List Obj->List Nat->Prop}(hτ':tyOf P t'=some τ')(hs':τ'.desc=.string)(hx:AV.R F φ w x cx)(hy:AV.R F φ w (.dat (.str s)) cy)
  (h:appendSw P (tyOf P t) own x s K):Does P F φ w (Builtin.append_ #[t,t'] ty #[cx,cy]) K:=by
 unfold appendSw at h
 split at h
 ·rename_i τ hτ
  split at h
  ·rename_i e hd
   split at h
   ·rename_i τe hτe
    obtain⟨hsz,hby,⟨z,hz,hzs⟩,h⟩:=h
    simp only[AV.R,D.R,D.C]at hy
    obtain⟨hcy,hmax⟩:=hy
    simp only[List.cons.injEq,and_true]at hcy
    subst hcy
    rw[hsz]at hzs
    have hzt:∃d',(∀w:World,(underlying t').run P w=.ok d' w)/\(d'=.slice e∨d'=.string):=⟨_,fun w=>by rw[← hs'];exact run_und (P:=P) w hτ',.inr rfl⟩
    have hlen:∀w:World,(Builtin.lenOf (.string ⟨s.toArray⟩)).run P w=.ok s.length w:=fun _=>by simp[Builtin.lenOf,ByteArray.size]
    have hfy:∀w:World,(Builtin.firstCells τe.size s.length (.string ⟨s.toArray⟩)).run P w=.ok (s.map u8V).toArray w:=fun w=>by rw[hsz];exact run_str_first w
    split at h
    ·rename_i o off len
     split at h
     ·rename_i e' bs hobj
      obtain⟨rfl,rfl,rfl,hb1,hK⟩:=h
      simp only[AV.R]at hx
      obtain⟨L,ho,hx⟩:=hx
      have hr:=getObj_rep hc ho
      rw[hobj]at hr
      simp only[ObjR]at hr
      obtain⟨hLsz,hr⟩:=hr
      rcases hx with⟨hn,hl0,_,hxe⟩|⟨hn,c,cap,hxe,h1,h2,h3,h4⟩
      ·
       subst hxe
       have hbs:bs=[]:=List.eq_nil_of_length_eq_zero (by omega)
       subst hbs
       by_cases hs0:s.length=0
       ·have hse:s=[]:=List.eq_nil_of_length_eq_zero hs0
        subst hse
        have hu:=run_und (P:=P) w hτ
        rw[hd]at hu
        refine⟨_,.slice none 0 0,_,[o],F,_,w,?_,afterMove hc (L':=L) ho rfl rfl rfl (Nat.le_refl _) (fun _ _ _=>rfl) (fun hn'=>by rw[hn]at hn';cases hn') (by simp only[ObjR];exact⟨hLsz,.inl ⟨hn,by simp⟩⟩),?_,hK⟩
        ·obtain⟨d',hu',hd'⟩:=hzt
         have hfy1:=hfy w
         simp only[List.length_nil]at hlen hfy1
         rcases hd' with rfl|rfl <;> simp only[List.length_nil,Builtin.append_,List.getElem?_toArray,List.getElem?_cons_zero,List.getElem?_cons_succ,Sem.run_bind,hu,Result.andThen_ok,run_size w hτe,Sem.run_pure,Bool.false_eq_true,if_false,hu',hlen,Nat.add_zero,Nat.le_refl,if_true,Bool.not_false,hfy1]
        ·simp only[AV.R]
         exact⟨L,ext_self _ _ _,.inl ⟨hn,by simp⟩⟩
       ·have hf0:(Builtin.firstCells τe.size 0 (.slice none 0 0)).run P w.drew=.ok (([]:List UInt8).map u8V).toArray w.drew:=by simp[Builtin.firstCells]
        have hrun:=run_append_growingG (P:=P) (w:=w) (ty:=ty) hτ hd hτe hz hzt hlen (ax:=none) (len:=0) (cap:=0) (by omega) (by omega) (by rw[hby];omega) hf0 (hfy _)
        obtain⟨r1,r2,r3,r4⟩:=grown_brow (e:=e') (cap:=0) (bs:=[]) (s:=s) hc hzs (by simpa using hb1) rfl rfl
        simp only[List.length_nil,List.map_nil]at r1 r2 r3 r4 hK hrun ⊢
        refine⟨_,_,_,[o],F,ext φ o _,_,hrun,afterMove hc ho rfl rfl rfl (by omega) (fun b hb _=>r4 b hb) (fun _=>⟨.inl (Nat.le_refl _),by simp only;omega⟩) (r1 _),r2 _ o (ext_self _ _ _),hK⟩
      ·subst hxe
       rcases hr with⟨hnil,_⟩|⟨_,arr,hh,hsize,hbase0,hfit,hcells⟩
       ·rw[hn]at hnil;cases hnil
       rw[hLsz]at h3 h4
       simp only[Nat.mul_one,Nat.add_zero]at h3 h4
       by_cases hroom:bs.length+s.length<=cap
       ·by_cases hc0:cap=0
        ·have hbs:bs=[]:=List.eq_nil_of_length_eq_zero (by omega)
         have hse:s=[]:=List.eq_nil_of_length_eq_zero (by omega)
         subst hbs;subst hse;subst hc0
         have hu:=run_und (P:=P) w hτ
         rw[hd]at hu
         refine⟨_,.slice (some ⟨L.b,c,none⟩) 0 0,_,[o],F,_,w,?_,afterMove hc (L':=L) ho rfl rfl rfl (Nat.le_refl _) (fun _ _ _=>rfl) (fun _=>⟨.inr ⟨hn,rfl⟩,(hc.live o L ho hn).2⟩)
          (by simp only[ObjR];exact⟨hLsz,.inr ⟨hn,arr,hh,hsize,hbase0,by simpa using hfit,by simp⟩⟩),?_,hK⟩
         ·obtain⟨d',hu',hd'⟩:=hzt
          have hfy1:=hfy w
          have hst:(storeCells ((⟨L.b,c,none⟩:Addr).add (0*τe.size)) []).run P w=.ok () w:=rfl
          simp only[List.length_nil,List.map_nil]at hlen hfy1
          rcases hd' with rfl|rfl <;> simp only[List.length_nil,Builtin.append_,List.getElem?_toArray,List.getElem?_cons_zero,List.getElem?_cons_succ,Sem.run_bind,hu,Result.andThen_ok,run_size w hτe,Sem.run_pure,Bool.false_eq_true,if_false,hu',hlen,Nat.add_zero,Nat.le_refl,if_true,Bool.not_false,hfy1,List.toList_toArray,hst]
         ·simp only[AV.R]
          exact⟨L,ext_self _ _ _,.inr ⟨hn,c,0,rfl,Nat.le_refl _,Nat.zero_le _,.inl rfl,by simp;omega⟩⟩
        ·have hcc:c=0:=(h3.resolve_left hc0).trans hbase0
         have hfit2:c+(bs.length+s.length)*τe.size<=arr.size:=by rw[hsz,hsize];omega
         have hrun:=run_append_inplaceG (P:=P) (ty:=ty) hτ hd hτe hzt hlen (c:=c) (len:=bs.length) (cap:=cap) hh hroom hfit2 (by simp[hsz]) (by simpa using u8V_one s) (hfy w)
         rw[hsz]at hrun
         simp only[Nat.mul_one,List.toList_toArray]at hrun
         let L':Loc:=⟨false,L.b,c,L.n,1⟩
         have hh':=setRow_heap w L.b arr (arr.toList.take (c+bs.length)++s.map u8V++arr.toList.drop (c+bs.length+s.length)).toArray e' _ hh
         refine⟨_,_,_,[o],F,ext φ o L',_,hrun,afterMove hc (L':=L') ho rfl rfl rfl (by simp) (fun b _ hb=>setRow_other w L.b b _ (hb hn)) (fun _=>⟨.inr ⟨hn,rfl⟩,by simpa [L'] using (hc.live o L ho hn).2⟩) ?_,?_,hK⟩
         ·have hl:=laid_in (arr:=arr) (cs:=s.map u8V) (off:=c+bs.length) (by simp;omega)
          simp only[List.length_map]at hl
          simp only[ObjR]
          refine⟨by first|rfl|trivial,.inr ⟨by first|rfl|trivial,_,hh',?_,?_,?_,fun j hj=>?_⟩⟩
          ·simp only[L',List.size_toArray,List.length_append,List.length_take,List.length_drop,Array.length_toList,List.length_map]
           omega
          ·exact hcc
          ·simp only[L',List.length_append];omega
          ·rw[List.length_append]at hj
           rw[hl]
           by_cases hjb:j<bs.length
           ·rw[if_neg (by omega),List.getElem?_append_left hjb,← hcells j hjb]
           ·rw[if_pos ⟨by omega,by omega⟩,List.getElem?_append_right (by omega),List.getElem?_map]
            have ej:j - (c+bs.length)=j - bs.length:=by omega
            rw[ej]
            rfl
         ·simp only[AV.R]
          refine⟨L',ext_self _ _ _,.inr ⟨rfl,c,cap,rfl,hroom,h2,.inr (by simp[L']),?_⟩⟩
          simp only[L',Nat.mul_one]
          omega
       ·have hfx:(Builtin.firstCells τe.size bs.length (.slice (some ⟨L.b,c,none⟩) bs.length cap)).run P w.drew=.ok (bs.map u8V).toArray w.drew:=by
         rw[hsz]
         have:=run_first (P:=P) (w:=w.drew) 1 bs.length ⟨L.b,c,none⟩ bs.length cap (bs.map u8V) (by simp) (fun j v hj=>?_)
         ·rw[this,Nat.mul_one,List.take_of_length_le (by simp)]
         ·rw[List.getElem?_map,Option.map_eq_some_iff]at hj
          obtain⟨b,hb,rfl⟩:=hj
          have hjl:j<bs.length:=by
           rcases Nat.lt_or_ge j bs.length with h|h
           ·exact h
           ·rw[List.getElem?_eq_none h]at hb;cases hb
          rw[Addr.add_mk]
          have hcc:c=0:=by
           rcases h3 with h3|h3
           ·omega
           ·omega
          have hcj:=hcells j hjl
          rw[hb]at hcj
          show World.cell? w ⟨L.b,c+j,none⟩=_
          simp only[World.cell?,hh,hcc,Nat.zero_add]
          exact hcj
        have hrun:=run_append_growingG (P:=P) (ty:=ty) hτ hd hτe hz hzt hlen (ax:=some ⟨L.b,c,none⟩) (len:=bs.length) (cap:=cap) (by omega) hb1 (by rw[hby];omega) hfx (hfy _)
        obtain⟨r1,r2,r3,r4⟩:=grown_brow (e:=e') (cap:=cap) (bs:=bs) (s:=s) hc hzs hb1 rfl rfl
        refine⟨_,_,_,[o],F,ext φ o _,_,hrun,afterMove hc ho rfl rfl rfl (by omega) (fun b hb _=>r4 b hb) (fun _=>⟨.inl (Nat.le_refl _),by simp only;omega⟩) (r1 _),r2 _ o (ext_self _ _ _),hK⟩
     ·exact h.elim
    ·obtain⟨hb1,hs0,hK⟩:=h
     have hxe:=R_nils.1 hx
     subst hxe
     have hf0:(Builtin.firstCells τe.size 0 (.slice none 0 0)).run P w.drew=.ok (([]:List UInt8).map u8V).toArray w.drew:=by simp[Builtin.firstCells]
     have hrun:=run_append_growingG (P:=P) (w:=w) (ty:=ty) hτ hd hτe hz hzt hlen (ax:=none) (len:=0) (cap:=0) (by omega) (by omega) (by rw[hby];omega) hf0 (hfy _)
     obtain⟨r1,r2,r3,r4⟩:=grown_brow (e:=e) (cap:=0) (bs:=[]) (s:=s) hc hzs (by simpa using hb1) rfl rfl
     simp only[List.length_nil,List.nil_append,Nat.zero_add,List.map_nil]at r1 r2 r3 r4 hrun
     refine⟨_,_,_,[],F,ext φ own.length _,_,hrun,After.new hc rfl rfl rfl (by omega) r4 (fun _=>⟨Nat.le_refl _,by simp only;omega⟩) (r1 _),r2 _ own.length (ext_self _ _ _),hK⟩
    ·exact h.elim
   ·exact h.elim
  ·exact h.elim
 ·exact h.elim
def appTw(P:Program)(own:List Obj)(t t':TypeId)(x y:AV)(K:AV->List Obj->List Nat->Prop):Prop :=
 if t=t' then appendw P (tyOf P t) own x y K else
 match tyOf P t',y with
 | some τ',.dat (.str s)=>τ'.desc=.string/\appendSw P (tyOf P t) own x s K
 | _,_=>False
theorem appTw_same{t:TypeId}{x y:AV}{K:AV->List Obj->List Nat->Prop}:appTw P own t t x y K=appendw P (tyOf P t) own x y K:=by unfold appTw;rw[if_pos rfl]
theorem appTw_sound(hc:Conc F φ own w){t t' ty:TypeId}{x y:AV}{cx cy:Value}{K:AV->List Obj->List Nat->Prop}(hx:AV.R F φ w x cx)(hy:AV.R F φ w y cy)(h:appTw P own t t' x y K) :
  Does P F φ w (Builtin.append_ #[t,t'] ty #[cx,cy]) K:=by
 unfold appTw at h
 split at h
 ·rename_i e;subst e;exact appendw_sound hc hx hy h
 ·split at h
  ·rename_i hτ'
   exact appendSw_sound hc hτ' h.1 hx hy h.2
  ·exact h.elim
def copyw(P:Program)(τ:Option Ty)(own:List Obj)(x y:AV)(K:AV->List Obj->List Nat->Prop):Prop :=
 match τ with
 | some τ=>(match τ.desc with
  | .slice e=>(match tyOf P e,y.elems own with
   | some τe,some (tag,ys) =>
    (tag=some τe.want∨ys=[])/\es τe.want=τe.size /\
    (match x with
    | .sl o off len=>(match own.getD o .dead with
     | .row ag xs=>ag=τe.want/\off+len<=xs.length /\
       K (.dat (.int .i64 (min ys.length len:Nat))) (own.set o (.row ag (xs.take off++ys.take len++xs.drop (off+min ys.length len)))) []
     | _=>False)
    | _=>False)
   | _,_=>False)
  | _=>False)
 | none=>False
theorem copyw_sound(hc:Conc F φ own w){t sT ty:TypeId}{x y:AV}{cx cy:Value}{K:AV->List Obj->List Nat->Prop}(hx:AV.R F φ w x cx)(hy:AV.R F φ w y cy)(h:copyw P (tyOf P t) own x y K) :
  Does P F φ w (Builtin.copy_ #[t,sT] ty #[cx,cy]) K:=by
 unfold copyw at h
 split at h
 ·rename_i τ hτ
  split at h
  ·rename_i e hd
   split at h
   ·rename_i τe tag ys hτe hel
    obtain⟨htag,hes,h⟩:=h
    obtain⟨ay,capy,csy,rfl,hmy,hpy,hfy⟩:=elems_cells (P:=P) hc hy hel htag
    split at h
    ·rename_i o off len
     split at h
     ·rename_i ag xs hobj
      obtain⟨rfl,hle,hK⟩:=h
      have hu:=run_und (P:=P) w hτ
      rw[hd]at hu
      have hf:=hfy (min ys.length len) (Nat.min_le_left _ _)
      rw[hes]at hf
      have hnat:Nat.min ys.length len=min ys.length len:=rfl
      simp only[AV.R]at hx
      obtain⟨L,ho,hx⟩:=hx
      have hr:=getObj_rep hc ho
      rw[hobj]at hr
      simp only[ObjR]at hr
      obtain⟨hsz,hr⟩:=hr
      have hmm:min ys.length len<=maxLen:=Nat.le_trans (Nat.min_le_left _ _) hmy
      rcases hx with⟨hn,rfl,rfl,rfl⟩|⟨hn,c,cap,rfl,h1,h2,h3,h4⟩
      ·
       rcases hr with⟨_,hxs⟩|⟨hn',_⟩
       ·subst hxs
        have e0:min ys.length 0=0:=by omega
        rw[e0]at hf hK
        have hset:own.set o (.row τe.want (([]:List D).take 0++ys.take 0++([]:List D).drop (0+0)))=own:=by
         apply List.ext_getElem?
         intro i
         rw[List.getElem?_set]
         split
         ·rename_i e
          subst e
          split
          ·rename_i hlt
           have:own[o]?=some (own.getD o .dead):=by simp[List.getElem?_eq_getElem hlt]
           rw[this,hobj];simp
          ·rename_i hge
           rw[List.getElem?_eq_none (by omega)]
         ·rfl
        rw[hset]at hK
        refine⟨_,.int .i64 0,own,[],F,φ,w,?_,After.refl hc,R_int.2 ⟨rfl,by rw[inR_i64];omega⟩,hK⟩
        simp only[Builtin.copy_,List.getElem?_toArray,List.getElem?_cons_zero,List.getElem?_cons_succ,Sem.run_bind,hu,Result.andThen_ok,Builtin.lenOf,Sem.run_pure,run_size w hτe,hnat,e0,hf,goInt]
        rfl
       ·rw[hn]at hn';cases hn'
      ·rcases hr with⟨hnil,_⟩|⟨_,⟨arr,tyb,hh,hsize⟩,hfit,hrow⟩
       ·rw[hn]at hnil;cases hnil
       rw[hes]at hsz
       have hpk:=hpy.take (min ys.length len)
       have hcl:(csy.take (min ys.length len*τe.size)).length=min ys.length len*τe.size:=by
        rw[← hes];have:=hpk.1;rw[this];congr 1;simp
       have hoff:c=L.base+off*L.sz∨min ys.length len=0:=by
        rcases h3 with h3|h3
        ·right;omega
        ·exact .inl h3
       by_cases hz:min ys.length len=0
       ·
        rw[hz]at hf hK hcl
        have hset:own.set o (.row τe.want (xs.take off++ys.take len++xs.drop (off+0)))=own:=by
         have e1:ys.take len=[]:=by
          apply List.eq_nil_of_length_eq_zero
          rw[List.length_take];omega
         apply List.ext_getElem?
         intro i
         rw[List.getElem?_set]
         split
         ·rename_i e
          subst e
          split
          ·rename_i hlt
           have:own[o]?=some (own.getD o .dead):=by simp[List.getElem?_eq_getElem hlt]
           rw[this,hobj,e1];simp
          ·rename_i hge
           rw[List.getElem?_eq_none (by omega)]
         ·rfl
        rw[hset]at hK
        have hnil:csy.take (0*τe.size)=[]:=by simp
        rw[hnil]at hf
        have hst:(storeCells ⟨L.b,c,none⟩ []).run P w=.ok () w:=rfl
        refine⟨_,.int .i64 0,own,[],F,φ,w,?_,After.refl hc,R_int.2 ⟨rfl,by rw[inR_i64];omega⟩,hK⟩
        simp only[Builtin.copy_,List.getElem?_toArray,List.getElem?_cons_zero,List.getElem?_cons_succ,Sem.run_bind,hu,Result.andThen_ok,Builtin.lenOf,Sem.run_pure,run_size w hτe,hnat,hz,hf,goInt,List.toList_toArray,hst]
        rfl
       ·have hcc:=hoff.resolve_right hz
        rw[hsz]at hcc
        have hmul:=Nat.mul_le_mul_right τe.size (Nat.min_le_right ys.length len)
        have hfit2:c+min ys.length len*τe.size<=arr.size:=by
         rw[hsize]
         rw[hsz]at hfit
         have:=Nat.mul_le_mul_right τe.size hle
         rw[Nat.add_mul]at this
         omega
        have hst:=run_storeCells_at P L.b c tyb (csy.take (min ys.length len*τe.size)) 0 arr w hh (by rw[hcl];exact hfit2) (fun u hu=>hpk.2.1 u (by rw[hes];exact hu))
        simp only[Nat.add_zero]at hst
        have hl:=laid_in (arr:=arr) (cs:=csy.take (min ys.length len*τe.size)) (off:=c) (by rw[hcl];exact hfit2)
        have hh':=setRow_heap w L.b arr (arr.toList.take c++csy.take (min ys.length len*τe.size)++arr.toList.drop (c+(csy.take (min ys.length len*τe.size)).length)).toArray tyb _ hh
        refine⟨_,.int .i64 (min ys.length len:Nat),_,[],F,φ,w.setRow L.b (arr.toList.take c++csy.take (min ys.length len*τe.size)++arr.toList.drop (c+(csy.take (min ys.length len*τe.size)).length)).toArray,?_,After.write hc ho hn rfl rfl rfl (by simp) (fun b hb=>setRow_other w L.b b _ hb) ?_,R_int.2 ⟨rfl,inR_len hmm⟩,hK⟩
        ·simp only[Builtin.copy_,List.getElem?_toArray,List.getElem?_cons_zero,List.getElem?_cons_succ,Sem.run_bind,hu,Result.andThen_ok,Builtin.lenOf,Sem.run_pure,run_size w hτe,hnat,hf,goInt,List.toList_toArray,hst,hcl]
        ·simp only[ObjR]
         have hxl:(xs.take off++ys.take len++xs.drop (off+min ys.length len)).length=xs.length:=by
          simp only[List.length_append,List.length_take,List.length_drop];omega
         refine⟨by rw[hsz,hes],.inr ⟨hn,⟨_,tyb,hh',?_⟩,by rw[hxl];exact hfit,?_⟩⟩
         ·simp only[List.size_toArray,List.length_append,List.length_drop,hcl,Array.length_toList]
          rw[List.length_take,Array.length_toList]
          omega
         ·have hsame:=hc.sameOf ho hn (fun b hb=>setRow_other w L.b b (arr.toList.take c++csy.take (min ys.length len*τe.size)++arr.toList.drop (c+(csy.take (min ys.length len*τe.size)).length)).toArray hb)
          have hcell:∀p,w.cell? ⟨L.b,p,none⟩=arr[p]?:=fun p=>by simp[World.cell?,hh]
          refine D.Cr_iff.2 fun i d hdd=>?_
          have hcell':∀p,(w.setRow L.b (arr.toList.take c++csy.take (min ys.length len*τe.size)++arr.toList.drop (c+(csy.take (min ys.length len*τe.size)).length)).toArray).cell? ⟨L.b,p,none⟩=if c<=p/\p<c+min ys.length len*τe.size then (csy.take (min ys.length len*τe.size))[p - c]? else arr[p]?:=fun p=>by
           rw[cell_of_row _ L.b p _ tyb _ hh',hl p,hcl]
          by_cases hin:off<=i/\i<off+min ys.length len
          ·have e1:(xs.take off++ys.take len++xs.drop (off+min ys.length len))[i]?=ys[i - off]?:=by
            rw[List.append_assoc,List.getElem?_append_right (by simp;omega),List.getElem?_append_left (by simp;omega),List.getElem?_take]
            have:(xs.take off).length=off:=by simp;omega
            rw[this,if_pos (by omega)]
           rw[e1]at hdd
           obtain⟨cs',g1,g2,g3,g4⟩:=hpy.2.2 _ d hdd
           refine⟨cs',g1,fun j hj=>?_,g3,D.C_mono (fun _ h=>h) hsame _ _ g4⟩
           rw[hes]at hj ⊢
           have hij:i*τe.size=off*τe.size+(i - off)*τe.size:=by rw[← Nat.add_mul];congr 1;omega
           have hup:=Nat.mul_le_mul_right τe.size (show (i - off)+1<=min ys.length len by omega)
           rw[Nat.add_mul]at hup
           rw[hcell',if_pos ⟨by omega,by omega⟩,List.getElem?_take,if_pos (by omega)]
           have:=g2 j (by rw[hes];exact hj)
           rw[hes]at this
           rw[← this]
           congr 1;omega
          ·have e1:(xs.take off++ys.take len++xs.drop (off+min ys.length len))[i]?=xs[i]?:=by
            by_cases hlo:i<off
            ·rw[List.append_assoc,List.getElem?_append_left (by simp;omega),List.getElem?_take,if_pos hlo]
            ·rw[List.getElem?_append_right (by simp;omega),List.getElem?_drop]
             congr 1
             simp only[List.length_append,List.length_take]
             omega
           rw[e1]at hdd
           obtain⟨cs',g1,g2,g3,g4⟩:=D.Cr_iff.1 hrow _ d hdd
           refine⟨cs',g1,fun j hj=>?_,g3,D.C_mono (fun _ h=>h) hsame _ _ g4⟩
           rw[hcell',if_neg ?_,← hcell]
           ·exact g2 j hj
           ·rw[hes]at hj ⊢
            rcases Nat.lt_or_ge i off with h|h
            ·have:=Nat.mul_le_mul_right τe.size (show i+1<=off by omega)
             rw[Nat.add_mul]at this
             omega
            ·have:=Nat.mul_le_mul_right τe.size (show off+min ys.length len<=i by omega)
             rw[Nat.add_mul]at this
             omega
     ·exact h.elim
    ·exact h.elim
   ·exact h.elim
  ·exact h.elim
 ·exact h.elim
def zero1:Option Value->Bool
 | some (.string _)=>true
 | some (.int _ _)=>true
 | some (.bool _)=>true
 | _=>false
theorem zero1_some{z:Option Value}(h:zero1 z=true):∃v,z=some v/\v.cells=#[v]/\v.oneCell'=true:=by
 unfold zero1 at h
 split at h
 ·exact⟨_,rfl,rfl,rfl⟩
 ·exact⟨_,rfl,rfl,rfl⟩
 ·exact⟨_,rfl,rfl,rfl⟩
 ·cases h
def clearw(P:Program)(τ:Option Ty)(own:List Obj)(x:AV)(K:AV->List Obj->List Nat->Prop):Prop :=
 match τ with
 | some τ=>(match τ.desc with
  | .slice e=>(match tyOf P e,x with
   | some τe,.sl o off len=>(match own.getD o .dead with
    | .row none xs=>τe.size=1/\zero1 τe.zero=true/\off+len=xs.length/\K (.tup []) (own.set o (.row none (xs.take off))) []
    | _=>False)
   | _,_=>False)
  | _=>False)
 | none=>False
theorem set_same{own:List Obj}{o:Nat}{x:Obj}(h:own.getD o .dead=x):own.set o x=own:=by
 apply List.ext_getElem?
 intro i
 rw[List.getElem?_set]
 split
 ·rename_i e
  subst e
  split
  ·rename_i hlt
   have:own[o]?=some (own.getD o .dead):=by simp[List.getElem?_eq_getElem hlt]
   rw[this,h]
  ·rename_i hge
   rw[List.getElem?_eq_none (by omega)]
 ·rfl
theorem clearw_sound(hc:Conc F φ own w){t ty:TypeId}{x:AV}{cx:Value}{K:AV->List Obj->List Nat->Prop}(hx:AV.R F φ w x cx)(h:clearw P (tyOf P t) own x K) :
  Does P F φ w (Builtin.clear_ #[t] ty #[cx]) K:=by
 unfold clearw at h
 split at h
 ·rename_i τ hτ
  split at h
  ·rename_i e hd
   split at h
   ·rename_i τe o off len hτe
    split at h
    ·rename_i xs hobj
     obtain⟨hs1,hz1,hle,hK⟩:=h
     obtain⟨z,hz,hzc,hzo⟩:=zero1_some hz1
     have hu:=run_und (P:=P) w hτ
     rw[hd]at hu
     simp only[AV.R]at hx
     obtain⟨L,ho,hx⟩:=hx
     have hr:=getObj_rep hc ho
     rw[hobj]at hr
     simp only[ObjR,es]at hr
     obtain⟨hsz,hr⟩:=hr
     have tup:∀F φ w,AV.R F φ w (.tup []) (.tuple #[]):=fun F φ w=>by simp only[AV.R];exact⟨[],rfl,by simp only[AV.Rs]⟩
     rcases hx with⟨hn,rfl,rfl,rfl⟩|⟨hn,c,cap,rfl,h1,h2,h3,h4⟩
     ·have hxs:xs=[]:=List.eq_nil_of_length_eq_zero (by omega)
      subst hxs
      rw[show ([]:List D).take 0=[] from rfl,set_same hobj]at hK
      refine⟨_,.tuple #[],own,[],F,φ,w,?_,After.refl hc,tup _ _ _,hK⟩
      simp only[Builtin.clear_,List.getElem?_toArray,List.getElem?_cons_zero,Sem.run_bind,hu,Result.andThen_ok,Sem.run_pure]
     ·rcases hr with⟨hnil,_⟩|⟨_,⟨arr,tyb,hh,hsize⟩,hfit,hrow⟩
      ·rw[hn]at hnil;cases hnil
      by_cases h0:len=0
      ·subst h0
       rw[show xs.take off=xs by rw[List.take_of_length_le (by omega)],set_same hobj]at hK
       refine⟨_,.tuple #[],own,[],F,φ,w,?_,After.refl hc,tup _ _ _,hK⟩
       simp only[Builtin.clear_,List.getElem?_toArray,List.getElem?_cons_zero,Sem.run_bind,hu,Result.andThen_ok,Sem.run_pure]
      ·have hcc:c=L.base+off:=by
        rcases h3 with h3|h3
        ·omega
        ·rw[h3,hsz,Nat.mul_one]
       have hzl:(Builtin.zeroCells z.cells len).toList.length=len:=by rw[Array.length_toList,size_zeroCells,hzc];simp
       have hzm:∀u∈(Builtin.zeroCells z.cells len).toList,u.oneCell'=true:=fun u hu=>by
        rw[hzc]at hu
        simp only[Builtin.zeroCells,Array.toList_map,List.mem_map]at hu
        obtain⟨i,_,rfl⟩:=hu
        have:i % (#[z]:Array Value).size=0:=by simp[Nat.mod_one]
        rw[this];exact hzo
       rw[hsz,Nat.mul_one]at hfit
       generalize hzs:(Builtin.zeroCells z.cells len).toList=zs at *
       have hst:=run_storeCells_at P L.b c tyb zs 0 arr w hh (by rw[hzl,hsize];omega) hzm
       simp only[Nat.add_zero]at hst
       have hl:=laid_in (arr:=arr) (cs:=zs) (off:=c) (by rw[hzl,hsize];omega)
       have hh':=setRow_heap w L.b arr (arr.toList.take c++zs++arr.toList.drop (c+zs.length)).toArray tyb _ hh
       refine⟨_,.tuple #[],_,[],F,φ,w.setRow L.b (arr.toList.take c++zs++arr.toList.drop (c+zs.length)).toArray,?_,After.write hc ho hn rfl rfl rfl (by simp) (fun b hb=>setRow_other w L.b b _ hb) ?_,tup _ _ _,hK⟩
       ·obtain⟨k,rfl⟩:∃k,len=k+1:=⟨len - 1,by omega⟩
        simp only[Builtin.clear_,List.getElem?_toArray,List.getElem?_cons_zero,Sem.run_bind,hu,Result.andThen_ok,Sem.run_pure,run_zero w hτe hz,hzs,hst]
       ·simp only[ObjR,es]
        refine⟨hsz,.inr ⟨hn,⟨_,tyb,hh',?_⟩,by rw[List.length_take,hsz];omega,?_⟩⟩
        ·simp only[List.size_toArray,List.length_append,List.length_drop,hzl,Array.length_toList]
         rw[List.length_take,Array.length_toList]
         omega
        ·have hsame:=hc.sameOf ho hn (fun b hb=>setRow_other w L.b b (arr.toList.take c++zs++arr.toList.drop (c+zs.length)).toArray hb)
         have hcell:∀p,w.cell? ⟨L.b,p,none⟩=arr[p]?:=fun p=>by simp[World.cell?,hh]
         refine D.Cr_iff.2 fun i d hdd=>?_
         have hi:i<off:=by
          rcases Nat.lt_or_ge i off with h|h
          ·exact h
          ·rw[List.getElem?_take,if_neg (by omega)]at hdd;cases hdd
         rw[List.getElem?_take,if_pos hi]at hdd
         obtain⟨cs',g1,g2,g3,g4⟩:=D.Cr_iff.1 hrow _ d hdd
         refine⟨cs',g1,fun j hj=>?_,g3,D.C_mono (fun _ h=>h) hsame _ _ g4⟩
         simp only[es]at hj ⊢
         rw[cell_of_row _ L.b _ _ tyb _ hh',hl,if_neg (by omega),← hcell]
         have:=g2 j (by simpa [es] using hj)
         simpa [es] using this
    ·exact h.elim
   ·exact h.elim
  ·exact h.elim
 ·exact h.elim
end
end Go.AM

