/- Own work over the model of the kit. -/
import Derived.Test.YtmmbjdgmhdjbjaaGreatDoorD10
set_option linter.unnecessarySimpa false
set_option linter.unusedSimpArgs false
set_option linter.unusedVariables false
namespace Go.AM
open Go
section
variable {P:Program}
def Ss(v v0:Value):Prop:=v=v0∨∃q n n0,v=.int q n/\v0=.int q n0/\inR q n
def pV(cs cs0:List Value):Prop:=cs.length=cs0.length/\∀(i:Nat) (v v0:Value),cs[i]?=some v->cs0[i]?=some v0->Ss v v0
theorem qk{cs cs0:List Value}(k:Nat)(h:pV cs cs0):pV (cs.drop k) (cs0.drop k) :=
 ⟨by simp[h.1],fun i v v0 h1 h2=>h.2 (k+i) v v0 (by simpa using h1) (by simpa using h2)⟩
theorem qP{cs cs0:List Value}(k:Nat)(h:pV cs cs0):pV (cs.take k) (cs0.take k) :=
 ⟨by simp[h.1],fun i v v0 h1 h2=>by
  rw[List.getElem?_take]at h1 h2
  split at h1
  ·rename_i hk
   rw[if_pos hk]at h2
   exact h.2 i v v0 h1 h2
  ·cases h1⟩
theorem Bp:pV [] []:=⟨rfl,fun i v v0 h=>by simp at h⟩
theorem A7{v v0:Value}{cs cs0:List Value}(h:Ss v v0)(hs:pV cs cs0):pV (v :: cs) (v0 :: cs0) :=
 ⟨by simp[hs.1],fun i a b h1 h2=>by
  cases i with
  | zero=>simp only[List.getElem?_cons_zero,Option.some.injEq]at h1 h2;subst h1 h2;exact h
  | succ i=>exact hs.2 i a b (by simpa using h1) (by simpa using h2)⟩
theorem GE{q:IntKind}{n n0:Int}(h:inR q n):Ss (.int q n) (.int q n0):=.inr ⟨q,n,n0,rfl,rfl,h⟩
theorem nQ{α β:Type}{f g:α->Option β}:∀{l:List α},(∀x∈l,(f x).isSome=true->(g x).isSome=true)->(l.mapM f).isSome=true->(l.mapM g).isSome=true
 | [],_,_=>rfl
 | x :: l,h,hf=>by
  rw[List.mapM_cons]at hf ⊢
  cases e:f x with
  | none=>rw[e]at hf;cases hf
  | some y =>
   have hg:=h x (List.mem_cons_self ..) (by rw[e];rfl)
   rw[e]at hf
   cases e2:l.mapM f with
   | none=>rw[e2]at hf;cases hf
   | some ys =>
    have ih:=nQ (f:=f) (g:=g) (fun x hx=>h x (List.mem_cons_of_mem _ hx)) (by rw[e2];rfl)
    cases e3:g x with
    | none=>rw[e3]at hg;cases hg
    | some z =>
     cases e4:l.mapM g with
     | none=>rw[e4]at ih;cases ih
     | some zs=>rfl
theorem fJ:∀(d:Nat) (t:TypeId) (cs cs0:List Value),pV cs cs0->(P.keyLits d t cs0).isSome=true->(P.keyLits d t cs).isSome=true
 | 0,_,_,_,_,h=>h
 | d+1,t,cs,cs0,hr,h=>by
  have one:∀v0,cs0=[v0]->∃v,cs=[v]/\Ss v v0:=fun v0 e=>by
   subst e
   match cs,hr with
   | [v],hr=>exact⟨v,rfl,hr.2 0 v v0 rfl rfl⟩
   | [],hr=>exact absurd hr.1 (by simp)
   | _ :: _ :: _,hr=>exact absurd hr.1 (by simp)
  unfold Program.keyLits at h ⊢
  split at h
  ·rename_i b hu
   obtain⟨v,rfl,hv⟩:=one _ rfl
   rcases hv with rfl|⟨q,n,n0,rfl,h0,_⟩
   ·rw[hu];rfl
   ·cases h0
  ·rename_i q q' n hu
   obtain⟨v,rfl,hv⟩:=one _ rfl
   rcases hv with rfl|⟨q2,n2,n0,rfl,h0,hw⟩
   ·rw[hu];exact h
   ·injection h0 with e1 e2
    subst e1
    rw[hu]
    simp only
    split at h
    ·rename_i hc
     rw[if_pos ⟨hc.1,hc.1 ▸ hw⟩];rfl
    ·cases h
  ·rename_i s hu
   obtain⟨v,rfl,hv⟩:=one _ rfl
   rcases hv with rfl|⟨q,n,n0,rfl,h0,_⟩
   ·rw[hu];exact h
   ·cases h0
  ·rename_i n e hu
   rw[hu]
   simp only
   split at h
   ·rename_i hl
    rw[if_pos (by rw[hr.1];exact hl)]
    rw[Option.isSome_map]at h ⊢
    exact nQ (fun i _ hi=>fJ d e _ _ (qP _ (qk _ hr)) hi) h
   ·cases h
  ·rename_i fs hu
   rw[hu]
   simp only
   split at h
   ·rename_i hl
    rw[if_pos ⟨by rw[hr.1];exact hl.1,hl.2⟩]
    rw[Option.isSome_map]at h ⊢
    exact nQ (fun i _ hi=>fJ d _ _ _ (qP _ (qk _ hr)) hi) h
   ·cases h
  ·cases h
theorem yY{t:TypeId}{cs cs0:List Value}(hr:pV cs cs0)(h:(keyOf P t (.agg cs0.toArray)).isSome=true):(keyOf P t (.agg cs.toArray)).isSome=true:=by
 have hf:Value.formed P t (.agg cs.toArray)=Value.formed P t (.agg cs0.toArray):=by
  simp only[Value.formed,List.size_toArray,hr.1]
 unfold keyOf at h ⊢
 split at h
 ·rw[hf]
  split at h
  ·rename_i hc
   simp only[hc,if_true]at h ⊢
   rw[Option.isSome_map]at h ⊢
   exact fJ _ _ _ _ (by simpa [Value.cells] using hr) (by simpa [Value.cells] using h)
  ·cases h
 ·rw[hf]
  split at h
  ·rename_i hc
   simp only[hc,if_true]at h ⊢
   rw[Option.isSome_map]at h ⊢
   exact fJ _ _ _ _ (by simpa [Value.cells] using hr) (by simpa [Value.cells] using h)
  ·cases h
 ·unfold mapKey at h ⊢
  split at h <;> simp_all
def B7:List D->List D->Prop
 | [],[]=>True
 | .int q n :: r,.int q0 n0 :: r0=>q=q0/\inR q n/\B7 r r0
 | _,_=>False
theorem Au:∀{as bs:List D},B7 as bs->pV (as.map D.val) (bs.map D.val)
 | [],[],_=>Bp
 | .int q n :: r,.int q0 n0 :: r0,h=>by
  obtain⟨rfl,h1,h2⟩:=h
  exact A7 (GE h1) (Au h2)
theorem po:∀{as bs:List D},B7 as bs->D.flats as=true
 | [],[],_=>rfl
 | .int q n :: r,.int q0 n0 :: r0,h=>by
  obtain⟨rfl,h1,h2⟩:=h
  simp only[D.flats,D.flat,po h2,Bool.true_and]
theorem A4{t:TypeId}{as bs:List D}(h0:cI P t (.agg bs)=true)(h:B7 as bs):cI P t (.agg as)=true:=by
 simp only[cI,Bool.and_eq_true]at h0 ⊢
 exact⟨⟨h0.1.1,po h⟩,yY (Au h) h0.2⟩
theorem DO{t:TypeId}{d:TypeDesc}{as bs:List D}(h0:cI P t (.agg bs)=true)(h:B7 as bs):D.isKeyP P t d (.agg as)=true:=by
 unfold D.isKeyP;rw[A4 h0 h,Bool.or_true]
end
end Go.AM

