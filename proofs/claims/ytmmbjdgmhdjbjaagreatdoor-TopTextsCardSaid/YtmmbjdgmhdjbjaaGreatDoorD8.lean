/- Own work over the model of the kit. -/
import Derived.Test.YtmmbjdgmhdjbjaaGreatDoorD7
import Derived.Scope
set_option linter.unnecessarySimpa false
set_option linter.unusedSimpArgs false
set_option linter.unusedVariables false
namespace Go.AM
open Go
section
variable {P:Program} {t:TypeId} {K:AV->Prop} {a b:Int}
@[go_sem] theorem Uo:aL P .add t (.dat (.int .u64 a)) (.dat (.int .u64 b)) K=K (.dat (.int .u64 (IntKind.u64.wrap (a+b)))):=by simp[aL,jm,fY,jB,mS,nT,bT]
@[go_sem] theorem Ud:aL P .sub t (.dat (.int .u64 a)) (.dat (.int .u64 b)) K=K (.dat (.int .u64 (IntKind.u64.wrap (a - b)))):=by simp[aL,jm,fY,jB,mS,nT,bT]
@[go_sem] theorem Tz:aL P .mul t (.dat (.int .u64 a)) (.dat (.int .u64 b)) K=K (.dat (.int .u64 (IntKind.u64.wrap (a*b)))):=by simp[aL,jm,fY,jB,mS,nT,bT]
@[go_sem] theorem W5:unw .neg (.dat (.int .u64 a)) K=K (.dat (.int .u64 (IntKind.u64.wrap (0 - a)))):=by simp[unw,nT,bT]
@[go_sem] theorem Yl:unw .xor (.dat (.int .u64 a)) K=K (.dat (.int .u64 (mD .xor .u64 IntKind.u64.max a))):=by simp[unw,IntKind.signed]
@[go_sem] theorem Vz:bT .u64=false:=Eq.trans rfl rfl
@[go_sem] theorem aa5:bT .u8=false:=Eq.trans rfl rfl
@[go_sem] theorem VW:bT .i64=true:=Eq.trans rfl rfl
@[go_sem] theorem Yh:bT .i32=true:=Eq.trans rfl rfl
@[go_sem] theorem Xn:bT .u32=false:=Eq.trans rfl rfl
@[go_sem] theorem U3 {τ:Ty} {ag:Option Nat} {xs:List D}:fY (some τ) (.dat (.sl ag xs))=(match τ.desc with|.slice _=>true|_=>false):=Eq.trans rfl rfl
@[go_sem] theorem Td {τ:Ty} {o i n:Nat}:fY (some τ) (.sl o i n)=(match τ.desc with|.slice _=>true|_=>false):=Eq.trans rfl rfl
@[go_sem] theorem Pb {τ:Ty}:fY (some τ) .nils=(match τ.desc with|.slice _=>true|_=>false):=Eq.trans rfl rfl
@[go_sem] theorem Si {ag:Option Nat} {xs:List D}:aL P .eql t (.dat (.sl ag xs)) .nils K=(fY (aw P t) (.dat (.sl ag xs))=true/\xs≠[]/\K (.dat (.bool false))):=Eq.trans rfl rfl
@[go_sem] theorem V8 {ag:Option Nat} {xs:List D}:aL P .neq t (.dat (.sl ag xs)) .nils K=(fY (aw P t) (.dat (.sl ag xs))=true/\xs≠[]/\K (.dat (.bool true))):=Eq.trans rfl rfl
@[go_sem] theorem T8 {o i n:Nat}:aL P .eql t (.sl o i n) .nils K=(fY (aw P t) (.sl o i n)=true/\0<n/\K (.dat (.bool false))):=Eq.trans rfl rfl
@[go_sem] theorem Se {o i n:Nat}:aL P .neq t (.sl o i n) .nils K=(fY (aw P t) (.sl o i n)=true/\0<n/\K (.dat (.bool true))):=Eq.trans rfl rfl
@[go_sem] theorem Rn:aL P .eql t .nils .nils K=(fY (aw P t) .nils=true/\K (.dat (.bool true))):=Eq.trans rfl rfl
@[go_sem] theorem Oy:aL P .neq t .nils .nils K=(fY (aw P t) .nils=true/\K (.dat (.bool false))):=Eq.trans rfl rfl
end
section
variable {P:Program} {Γ:Nat->a8} {c:Ctx}
end
theorem d9{s:List AV}{own:List Obj}{n0:Nat}{mv:List Nat}(o j:Nat)(ag:Option Nat){cs:List AV}(ho:own[o]?=some (.box cs))(hj:cs.getD j .top=.nils)(h0:n0<=own.length) :
  Le ⟨s,own,n0,mv⟩ ⟨s,own.set o (.box (cs.set j (.sl own.length 0 0)))++[.row ag []],n0,mv⟩:=by
 rintro c a w ⟨hd,hn,F,φ,h2,h3,h4⟩
 let L:Loc:=⟨true,0,0,0,es ag⟩
 have gM:=dO h3 L
 have h4':=AV.Rs_mono (fun _ h=>h) (Same.refl F w) gM _ _ h4
 have h5:=h3.new (L:=L) (obj:=Obj.row ag []) (Nat.le_refl _) (fun _ _=>rfl) (fun hn'=>by cases hn') (by simp only[ObjR];exact⟨rfl,.inl ⟨rfl,trivial⟩⟩)
 refine⟨hd,hn,F,ext φ own.length L,⟨h2.sub,h2.ext,fun o L' hlt hm h=>gM o L' (h2.keep o L' hlt hm h),h2.rest,fun o L' ho' hn'=>?_,h2.frsh⟩,?_,h4'⟩
 ·unfold ext at ho'
  split at ho'
  ·cases ho';cases hn'
  ·exact h2.orig o L' ho' hn'
 ·have pt:o<own.length:=by
   rcases Nat.lt_or_ge o own.length with h|h
   ·exact h
   ·rw[List.getElem?_eq_none h]at ho;cases ho
  refine⟨h5.fb,h5.live,h5.inj,fun o' obj ho'=>?_,fun o' ho'=>h5.out o' (by simpa using ho'),h5.glob⟩
  have dB:own.set o (.box (cs.set j (.sl own.length 0 0)))++[Obj.row ag []]=(own++[Obj.row ag []]).set o (Obj.box (cs.set j (.sl own.length 0 0))):=by rw[List.set_append_left _ _ pt]
  simp only at ho'
  rw[dB,List.getElem?_set]at ho'
  by_cases e:o=o'
  ·subst e
   simp only[if_true,List.length_append,List.length_cons,List.length_nil,show o<own.length+(0+1) by omega,Option.some.injEq]at ho'
   subst ho'
   have hr:=h5.rep o (.box cs) (by rw[List.getElem?_append_left pt];exact ho)
   cases hl:ext φ own.length L o with
   | none=>rw[hl]at hr;simp only[ObjR]at hr
   | some L' =>
    rw[hl]at hr
    simp only[ObjR]at hr ⊢
    obtain⟨q1,q2,arr,ty,q3,q4,q5⟩:=hr
    refine⟨q1,q2,arr,ty,q3,q4,?_⟩
    have jt:=AV.Rs_get (AV.Ra_iff.1 q5).1 j
    rw[hj]at jt
    have hv:=cR.1 jt
    have key:=AV.Ra_set q5 j (.sl own.length 0 0) (.slice none 0 0) rfl (by
     simp only[AV.R]
     exact⟨L,aM _ _ _,.inl ⟨rfl,by simp⟩⟩)
    have jM:arr.set j (.slice none 0 0)=arr:=by
     apply List.ext_getElem?
     intro k
     rw[List.getElem?_set]
     split
     ·rename_i hk
      subst hk
      split
      ·rename_i hlt
       rw[← hv]
       simp[List.getD_eq_getElem?_getD,List.getElem?_eq_getElem hlt]
      ·rename_i hge
       rw[List.getElem?_eq_none (by omega)]
     ·rfl
    rw[jM]at key
    exact key
  ·simp only[e,if_false]at ho'
   exact h5.rep o' obj ho'
theorem jI{s:List AV}{own:List Obj}{n0:Nat}{mv:List Nat}(o:Nat):Le ⟨s,own,n0,mv⟩ ⟨s,own.set o .dead,n0,mv⟩:=by
 rintro c a w ⟨hd,hn,F,φ,h2,h3,h4⟩
 refine⟨hd,hn,F,φ,h2,{ h3 with rep:=fun o' obj ho'=>?_,out:=fun o' ho'=>h3.out o' (by simpa using ho') },h4⟩
 simp only at ho'
 rw[List.getElem?_set]at ho'
 by_cases e:o=o'
 ·subst e
  split at ho'
  ·split at ho'
   ·cases ho'
    cases φ o <;> simp only[ObjR]
   ·cases ho'
  ·rename_i h;exact(h rfl).elim
 ·simp only[e,if_false]at ho'
  exact h3.rep o' obj ho'
section
variable {P:Program} {Γ:Nat->a8} {ob:Nat}
theorem oF{pf mf ms:List Nat}(hΓ:OkG P Γ)(hpf:aQ Γ pf)(hmf:bF Γ mf){ops:Array Oper}{Q:Exit->S->Prop}{L:List Nat}(gk:gx ops=true)(dk:e9 ops=true)(cO:dC ops.size L=true)(hnd:fC L=true){c:Ctx}:∀(fuel:Nat) (listed:Array Bool) (σ:S) (a:Act) (w:World),listed.size=ops.size->cL pf mf ms ops (L.filter fun i=>!listed.getD i true)=true ->
  (L.filter fun i=>!listed.getD i true).length<=fuel->St c σ a w->bh P Γ ops ob ms Q (L.filter fun i=>!listed.getD i true) σ->wpAnyIn (fen c.rd) 0 P .any ops (lift c Q) fuel listed a w:=by
 have kT:=dP hnd
 simp only[dC,Bool.and_eq_true,List.all_eq_true,List.mem_range,List.contains_eq_mem,decide_eq_true_eq]at cO
 obtain⟨⟨jk,hlen⟩,hlt⟩:=cO
 have ready:∀(listed:Array Bool),listed.size=ops.size->Region.ready .any ops listed=[]->(L.filter fun i=>!listed.getD i true)=[]:=by
  intro listed hsz hr
  rw[List.filter_eq_nil_iff]
  have key:∀i,i<ops.size->listed.getD i true=true:=by
   intro i
   induction i using Nat.strongRecOn with
   | _ i ih =>
    intro eH
    cases hx:listed.getD i true with
    | true=>rfl
    | false =>
     exfalso
     have:i∈Region.ready .any ops listed:=by
      refine mem_ready.2 ⟨hx,ops[i],Array.getElem?_eq_getElem eH,fun e he hb=>?_⟩
      have hw:Region.waitsFor .any ops i e.on=true:=by
       simp only[Region.waitsFor,Array.getElem?_eq_getElem eH,Array.any_eq_true']
       exact⟨e,he,by simp[hb]⟩
      have hon:e.on<ops.size:=by
       have h1:=Array.all_eq_true'.1 dk ops[i] (Array.getElem_mem eH)
       have h2:=Array.all_eq_true'.1 h1 e he
       simpa [hb] using h2
      have re:e.on<i:=by
       have h1:=List.all_eq_true.1 gk i (List.mem_range.2 eH)
       have h2:=List.all_eq_true.1 h1 e.on (List.mem_range.2 hon)
       simpa [hw] using h2
      have h3:=ih e.on re hon
      have h4:e.on<listed.size:=by omega
      simp[h4]at h3 ⊢
      exact h3
     rw[hr]at this
     cases this
  intro i hi
  simp only[Bool.not_eq_true',Bool.not_eq_false]
  exact key i (hlt i hi)
 intro fuel
 induction fuel with
 | zero =>
  intro listed σ a w hsz fX hf hst hch
  have h0:(L.filter fun i=>!listed.getD i true)=[]:=List.eq_nil_of_length_eq_zero (by omega)
  rw[h0]at hch
  refine⟨?_,bn hst hch⟩
  rw[List.eq_nil_iff_forall_not_mem]
  intro i hi
  obtain⟨g1,o,g2,_⟩:=mem_ready.1 hi
  have hi':i<ops.size:=(Array.getElem?_eq_some_iff.1 g2).1
  have:i∈(L.filter fun i=>!listed.getD i true):=List.mem_filter.2 ⟨jk i hi',by simp[g1]⟩
  rw[h0]at this
  cases this
 | succ fuel ih =>
  intro listed σ a w hsz fX hf hst hch
  refine⟨fun hr=>?_,fun i hi=>?_⟩
  ·rw[ready listed hsz hr]at hch
   exact bn hst hch
  ·obtain⟨g1,o,g2,g3⟩:=mem_ready.1 hi
   have hi':i<ops.size:=(Array.getElem?_eq_some_iff.1 g2).1
   obtain⟨pre,post,e1,e2⟩:=en kT (jk i hi') (f:=fun i=>!listed.getD i true) (by simp[g1])
   have hfr:=fF fX pre i post e1
   rw[e1]at hch
   have hb:=oS hpf hmf g2 pre post σ (fun p hp=>by
    rcases hfr p hp with h|h
    ·exfalso
     have hpm:p∈(L.filter fun i=>!listed.getD i true):=by rw[e1];simp[hp]
     have hun:=(List.mem_filter.1 hpm).2
     simp only[Region.waitsFor,g2,Array.any_eq_true',Bool.and_eq_true,beq_iff_eq]at h
     obtain⟨e,he,hb,hon⟩:=h
     have hl:=g3 e he hb
     rw[hon]at hl
     have:listed.getD p true=false:=by simpa using hun
     rw[getD_both this]at hl
     cases hl
    ·exact h) hch
   unfold wpOpIn
   simp only[g2]
   have eV:(L.filter fun j=>!(listed.setIfInBounds i true).getD j true)=pre++post:=by
    rw[← e2]
    refine List.filter_congr fun j hj=>?_
    have hj':=hlt j hj
    by_cases e:i=j
    ·subst e
     simp[hsz,hi']
    ·have e':¬(j=i):=fun h=>e h.symm
     simp[Array.getElem?_setIfInBounds_ne e,e']
   have Em:cL pf mf ms ops (L.filter fun j=>!(listed.setIfInBounds i true).getD j true)=true:=by
    have e3:(L.filter fun j=>!(listed.setIfInBounds i true).getD j true)=(L.filter fun j=>!listed.getD j true).filter (fun j=>decide (j≠i)):=by
     rw[List.filter_filter]
     refine List.filter_congr fun j hj=>?_
     by_cases e:i=j
     ·subst e
      have hj':=hlt i hj
      simp[hsz,hj']
     ·have e':¬(j=i):=fun h=>e h.symm
      simp[Array.getElem?_setIfInBounds_ne e,e']
    rw[e3]
    exact fh _ fX
   have dV:(L.filter fun j=>!(listed.setIfInBounds i true).getD j true).length<=fuel:=by
    rw[eV]
    rw[e1]at hf
    simp only[List.length_append,List.length_cons]at hf ⊢
    omega
   rcases cf hΓ (Q:=lift c Q) hst hb.2 with⟨hw,hwp⟩|⟨hw,σ',bA,hK⟩
   ·rw[if_pos hw]
    refine Oper.wpIn_mono ?_ hwp
    rintro a' w' ⟨σ',bA,hK⟩
    exact ih _ σ' a' w' (by simp[hsz]) Em dV bA (by rw[eV];exact hK)
   ·rw[if_neg (by simp[hw])]
    exact⟨fun _ _=>trivial,ih _ σ' _ w (by simp[hsz]) Em dV bA (by rw[eV];exact hK)⟩
def fI(x:Nat)(pf mf ms:List Nat)(ops:Array Oper):List Nat->Bool
 | []=>true
 | p :: r=>(r.all fun i=>Region.waitsFor .any ops i p || kY pf mf ms ops p i || (p == x)) && fI x pf mf ms ops r
def sN(pf mf ms:List Nat)(ops:Array Oper)(pre:List Nat)(x y:Nat)(r1 r2:List Nat):Bool :=
 (pre.all fun p=>match ops[p]? with|some o=>be pf o|none=>false) && fI x pf mf ms ops (pre++x :: r1) && fI y pf mf ms ops (pre++y :: r2) && gx ops && e9 ops &&
  dC ops.size (pre++x :: r1) && fC (pre++x :: r1) && dC ops.size (pre++y :: r2) && fC (pre++y :: r2) && (r1.all fun i=>i == y || Region.waitsFor .any ops i x || Region.waitsFor .any ops i y)
theorem fl{x:Nat}{pf mf ms:List Nat}{ops:Array Oper}{f:Nat->Bool}(hx:f x=false):∀{L:List Nat},fI x pf mf ms ops L=true->cL pf mf ms ops (L.filter f)=true
 | [],_=>rfl
 | q :: r,h=>by
  simp only[fI,Bool.and_eq_true]at h
  simp only[List.filter_cons]
  split
  ·rename_i hq
   simp only[cL,Bool.and_eq_true]
   refine⟨List.all_eq_true.2 fun i hi=>?_,fl hx h.2⟩
   have h1:=List.all_eq_true.1 h.1 i (List.mem_filter.1 hi).1
   simp only[Bool.or_eq_true]at h1
   rcases h1 with h1|h1
   ·simpa using h1
   ·simp only[beq_iff_eq]at h1
    rw[h1,hx]at hq
    cases hq
  ·exact fl hx h.2
theorem mw{x:Nat}{pf mf ms:List Nat}{ops:Array Oper}:∀{L:List Nat},fI x pf mf ms ops L=true->∀pre i post,L=pre++i :: post->∀p∈pre,p=x∨Region.waitsFor .any ops i p=true∨kY pf mf ms ops p i=true
 | [],_,pre,i,post,e,p,hp=>by cases pre <;> cases e
 | q :: r,h,pre,i,post,e,p,hp=>by
  simp only[fI,Bool.and_eq_true]at h
  cases pre with
  | nil=>cases hp
  | cons a pre =>
   simp only[List.cons_append,List.cons.injEq]at e
   obtain⟨rfl,e⟩:=e
   rcases List.mem_cons.1 hp with rfl|hp
   ·have:=List.all_eq_true.1 h.1 i (by rw[e];simp)
    simp only[Bool.or_eq_true,beq_iff_eq]at this
    rcases this with(h1|h1)|h1
    ·exact .inr (.inl h1)
    ·exact .inr (.inr h1)
    ·exact .inl h1
   ·exact mw h.2 pre i post e p hp
theorem qL{ops:Array Oper}{ms:List Nat}{Q:Exit->S->Prop}:∀(pre r:List Nat) (σ:S),bh P Γ ops ob ms (fun _ s=>bh P Γ ops ob ms Q r s) pre σ=bh P Γ ops ob ms Q (pre++r) σ
 | [],r,σ=>rfl
 | i :: pre,r,σ=>by
  simp only[List.cons_append,bh]
  have:bh P Γ ops ob ms (fun _ s=>bh P Γ ops ob ms Q r s) pre=bh P Γ ops ob ms Q (pre++r):=funext fun s=>qL pre r s
  rw[this]
theorem jH{pf:List Nat}(hpf:aQ Γ pf){ops:Array Oper}{ms:List Nat}{Q Q':Exit->S->Prop}(hq:∀e s,Q e s->Q' e s):∀(pre:List Nat) (σ:S),(∀p∈pre,∃o,ops[p]?=some o/\be pf o=true)->bh P Γ ops ob ms Q pre σ->bh P Γ ops ob ms Q' pre σ
 | [],σ,_,h=>hq _ _ h
 | i :: pre,σ,hv,h=>by
  obtain⟨o,ho,hvo⟩:=hv i (by simp)
  simp only[bh,ho]at h ⊢
  exact⟨h.1,dz hpf hvo (fun σ' hσ'=>jH hpf hq pre σ' (fun p hp=>hv p (by simp[hp])) hσ') h.2⟩
theorem kw{ops:Array Oper}(gk:gx ops=true)(dk:e9 ops=true){listed:Array Bool}(hsz:listed.size=ops.size)(hr:Region.ready .any ops listed=[]):∀i,i<ops.size->listed.getD i true=true:=by
 intro i
 induction i using Nat.strongRecOn with
 | _ i ih =>
  intro eH
  cases hx:listed.getD i true with
  | true=>rfl
  | false =>
   exfalso
   have:i∈Region.ready .any ops listed:=by
    refine mem_ready.2 ⟨hx,ops[i],Array.getElem?_eq_getElem eH,fun e he hb=>?_⟩
    have hw:Region.waitsFor .any ops i e.on=true:=by
     simp only[Region.waitsFor,Array.getElem?_eq_getElem eH,Array.any_eq_true']
     exact⟨e,he,by simp[hb]⟩
    have hon:e.on<ops.size:=by
     have h1:=Array.all_eq_true'.1 dk ops[i] (Array.getElem_mem eH)
     have h2:=Array.all_eq_true'.1 h1 e he
     simpa [hb] using h2
    have re:e.on<i:=by
     have h1:=List.all_eq_true.1 gk i (List.mem_range.2 eH)
     have h2:=List.all_eq_true.1 h1 e.on (List.mem_range.2 hon)
     simpa [hw] using h2
    have h3:=ih e.on re hon
    have h4:e.on<listed.size:=by omega
    simp[h4]at h3 ⊢
    exact h3
   rw[hr]at this
   cases this
theorem ft{ops:Array Oper}{listed:Array Bool}{i p:Nat}{o:Oper}(g2:ops[i]?=some o)(g3:∀e∈o.after,Region.binds .any e=true->listed.getD e.on false=true)(hun:listed.getD p true=false):Region.waitsFor .any ops i p=false:=by
 cases h:Region.waitsFor .any ops i p with
 | false=>rfl
 | true =>
  exfalso
  simp only[Region.waitsFor,g2,Array.any_eq_true',Bool.and_eq_true,beq_iff_eq]at h
  obtain⟨e,he,hb,hon⟩:=h
  have hl:=g3 e he hb
  rw[hon]at hl
  rw[getD_both hun]at hl
  cases hl
theorem IE{pf mf ms:List Nat}(hΓ:OkG P Γ)(hpf:aQ Γ pf)(hmf:bF Γ mf){ops:Array Oper}{Q:Exit->S->Prop}{pre r:List Nat}{x:Nat}(hp:fI x pf mf ms ops (pre++x :: r)=true)
  (gk:gx ops=true) (dk:e9 ops=true) (cO:dC ops.size (pre++x :: r)=true) (hnd:fC (pre++x :: r)=true) {c:Ctx} {fuel:Nat} {listed:Array Bool} {σ:S} {a:Act} {w:World} (hsz:listed.size=ops.size)
  (hun:∀i,i∉pre->i<ops.size->listed.getD i true=false) (hf:(pre.filter fun i=>!listed.getD i true).length+r.length<=fuel) (hst:St c σ a w) {o:Oper} (g2:ops[x]?=some o) (g3:∀e∈o.after,Region.binds .any e=true->listed.getD e.on false=true)
  (h:bh P Γ ops ob ms (fun _ s=>bh P Γ ops ob ms Q (x :: r) s) (pre.filter fun i=>!listed.getD i true) σ):wpOpIn (fen c.rd) 0 P ops (lift c Q) x (wpAnyIn (fen c.rd) 0 P .any ops (lift c Q) fuel (listed.setIfInBounds x true)) a w:=by
 have kT:=dP hnd
 have HT:=cO
 simp only[dC,Bool.and_eq_true,List.all_eq_true,List.mem_range,List.contains_eq_mem,decide_eq_true_eq]at HT
 obtain⟨⟨_,_⟩,hlt⟩:=HT
 have hx:x<ops.size:=(Array.getElem?_eq_some_iff.1 g2).1
 have hd:=List.nodup_append.1 kT
 have Ad:x∉pre:=fun h=>hd.2.2 x h x (by simp) rfl
 have YW:∀i∈r,i∉pre:=fun i hi h=>hd.2.2 i h i (by simp[hi]) rfl
 have hxr:x∉r:=(List.nodup_cons.1 hd.2.1).1
 have dB:∀j,j≠x->(listed.setIfInBounds x true).getD j true=listed.getD j true:=fun j hj=>by
  simp[Array.getElem?_setIfInBounds_ne (fun e:x=j=>hj e.symm)]
 have jM:(listed.setIfInBounds x true).getD x true=true:=by simp[hsz,hx]
 have HU:((pre++x :: r).filter fun i=>!(listed.setIfInBounds x true).getD i true)=(pre.filter fun i=>!listed.getD i true)++r:=by
  rw[List.filter_append,List.filter_cons,jM]
  simp only[Bool.not_true,Bool.false_eq_true,if_false]
  congr 1
  ·exact List.filter_congr fun j hj=>by rw[dB j (fun e=>Ad (e ▸ hj))]
  ·rw[List.filter_eq_self]
   intro j hj
   rw[dB j (fun e=>hxr (e ▸ hj)),hun j (YW j hj) (hlt j (by simp[hj]))]
   rfl
 rw[qL]at h
 have hb:=oS hpf hmf g2 (pre.filter fun i=>!listed.getD i true) r σ (fun p hpm=>by
  obtain⟨hp1,hp2⟩:=List.mem_filter.1 hpm
  rcases mw hp pre x r rfl p hp1 with h1|h1|h1
  ·exact(Ad (h1 ▸ hp1)).elim
  ·rw[ft g2 g3 (by simpa using hp2)]at h1;cases h1
  ·exact h1) h
 have fX:cL pf mf ms ops ((pre++x :: r).filter fun i=>!(listed.setIfInBounds x true).getD i true)=true:=fl (by simp only[jM];rfl) hp
 have go:=oF (ob:=ob) (ms:=ms) hΓ hpf hmf gk dk cO hnd (Q:=Q) (c:=c) fuel (listed.setIfInBounds x true)
 unfold wpOpIn
 simp only[g2]
 rcases cf hΓ (Q:=lift c Q) hst hb.2 with⟨hw,hwp⟩|⟨hw,σ',bA,hK⟩
 ·rw[if_pos hw]
  refine Oper.wpIn_mono ?_ hwp
  rintro a' w' ⟨σ',bA,hK⟩
  exact go σ' a' w' (by simp[hsz]) fX (by rw[HU,List.length_append];exact hf) bA (by rw[HU];exact hK)
 ·rw[if_neg (by simp[hw])]
  exact⟨fun _ _=>trivial,go σ' _ w (by simp[hsz]) fX (by rw[HU,List.length_append];exact hf) bA (by rw[HU];exact hK)⟩
theorem pp{pf mf ms:List Nat}(hΓ:OkG P Γ)(hpf:aQ Γ pf)(hmf:bF Γ mf){ops:Array Oper}{Q:Exit->S->Prop}{pre r1 r2:List Nat}{x y:Nat}(hok:sN pf mf ms ops pre x y r1 r2=true){c:Ctx}:∀(fuel:Nat) (listed:Array Bool) (σ:S) (a:Act) (w:World),listed.size=ops.size ->
  (∀i,i∉pre->i<ops.size->listed.getD i true=false)->(pre.filter fun i=>!listed.getD i true).length+r1.length+1<=fuel->St c σ a w ->
  bh P Γ ops ob ms (fun _ s=>bh P Γ ops ob ms Q (x :: r1) s/\bh P Γ ops ob ms Q (y :: r2) s) (pre.filter fun i=>!listed.getD i true) σ->wpAnyIn (fen c.rd) 0 P .any ops (lift c Q) fuel listed a w:=by
 simp only[sN,Bool.and_eq_true]at hok
 obtain⟨⟨⟨⟨⟨⟨⟨⟨⟨hv,hp1⟩,hp2⟩,gk⟩,dk⟩,hall1⟩,hnd1⟩,hall2⟩,hnd2⟩,hw⟩:=hok
 have hv':∀p∈pre,∃o,ops[p]?=some o/\be pf o=true:=fun p hp=>by
  have:=List.all_eq_true.1 hv p hp
  cases ho:ops[p]? with
  | none=>rw[ho]at this;cases this
  | some o=>rw[ho]at this;exact⟨o,rfl,this⟩
 have hn1:=List.nodup_append.1 (dP hnd1)
 have hn2:=List.nodup_append.1 (dP hnd2)
 have hl1:(pre++x :: r1).length=ops.size:=by
  have h:=hall1
  simp only[dC,Bool.and_eq_true,decide_eq_true_eq]at h
  exact h.1.2
 have hl2:(pre++y :: r2).length=ops.size:=by
  have h:=hall2
  simp only[dC,Bool.and_eq_true,decide_eq_true_eq]at h
  exact h.1.2
 have hlen:r1.length=r2.length:=by simp only[List.length_append,List.length_cons]at hl1 hl2;omega
 have jk:∀i,i<ops.size->i∈pre++x :: r1:=fun i hi=>by
  have h:=hall1
  simp only[dC,Bool.and_eq_true,List.all_eq_true,List.mem_range,List.contains_eq_mem,decide_eq_true_eq]at h
  exact h.1.1 i hi
 have hxs:x<ops.size:=by
  have h:=hall1
  simp only[dC,Bool.and_eq_true,List.all_eq_true,decide_eq_true_eq]at h
  exact h.2 x (by simp)
 have hys:y<ops.size:=by
  have h:=hall2
  simp only[dC,Bool.and_eq_true,List.all_eq_true,decide_eq_true_eq]at h
  exact h.2 y (by simp)
 have Ad:x∉pre:=fun h=>hn1.2.2 x h x (by simp) rfl
 have YX:y∉pre:=fun h=>hn2.2.2 y h y (by simp) rfl
 intro fuel
 induction fuel with
 | zero=>intro listed σ a w hsz hun hf;omega
 | succ fuel ih =>
  intro listed σ a w hsz hun hf hst hch
  refine⟨fun hr=>?_,fun i hi=>?_⟩
  ·have:=kw gk dk hsz hr x hxs
   rw[hun x Ad hxs]at this
   cases this
  ·obtain⟨g1,o,g2,g3⟩:=mem_ready.1 hi
   have hi':i<ops.size:=(Array.getElem?_eq_some_iff.1 g2).1
   by_cases ex:i=x
   ·subst ex
    exact IE hΓ hpf hmf hp1 gk dk hall1 hnd1 hsz hun (by omega) hst g2 g3 (jH hpf (fun _ _ h=>h.1) _ _ (fun p hp=>hv' p (List.mem_filter.1 hp).1) hch)
   ·by_cases ey:i=y
    ·subst ey
     exact IE hΓ hpf hmf hp2 gk dk hall2 hnd2 hsz hun (by omega) hst g2 g3 (jH hpf (fun _ _ h=>h.2) _ _ (fun p hp=>hv' p (List.mem_filter.1 hp).1) hch)
    ·have hm:=jk i hi'
     have hpm:i∈pre:=by
      rcases List.mem_append.1 hm with h|h
      ·exact h
      ·exfalso
       rcases List.mem_cons.1 h with h|h
       ·exact ex h
       ·have:=List.all_eq_true.1 hw i h
        simp only[Bool.or_eq_true,beq_iff_eq]at this
        rcases this with(h1|h1)|h1
        ·exact ey h1
        ·rw[ft g2 g3 (hun x Ad hxs)]at h1;cases h1
        ·rw[ft g2 g3 (hun y YX hys)]at h1;cases h1
     obtain⟨p1,p2,e1,e2⟩:=en hn1.1 hpm (f:=fun i=>!listed.getD i true) (by simp[g1])
     have fX:cL pf mf ms ops (pre.filter fun i=>!listed.getD i true)=true:=by
      have e:((pre++x :: r1).filter fun j=>!listed.getD j true && pre.contains j)=pre.filter fun i=>!listed.getD i true:=by
       rw[List.filter_append]
       have e3:((x :: r1).filter fun j=>!listed.getD j true && pre.contains j)=[]:=by
        rw[List.filter_eq_nil_iff]
        intro j hj
        have:j∉pre:=fun h=>hn1.2.2 j h j hj rfl
        simp[this]
       rw[e3,List.append_nil]
       exact List.filter_congr fun j hj=>by simp[hj]
      rw[← e]
      exact fl (by simp[Ad]) hp1
     rw[e1]at hch
     have hb:=oS hpf hmf g2 p1 p2 σ (fun p hp=>by
      rcases fF fX p1 i p2 e1 p hp with h1|h1
      ·have hp':p∈pre.filter fun i=>!listed.getD i true:=by rw[e1];simp[hp]
       rw[ft g2 g3 (by simpa using (List.mem_filter.1 hp').2)]at h1;cases h1
      ·exact h1) hch
     have eV:(pre.filter fun j=>!(listed.setIfInBounds i true).getD j true)=p1++p2:=by
      rw[← e2]
      refine List.filter_congr fun j hj=>?_
      by_cases e:i=j
      ·subst e
       simp[hsz,hi']
      ·have e':¬(j=i):=fun h=>e h.symm
       simp[Array.getElem?_setIfInBounds_ne e,e']
     have aaz:∀j,j∉pre->j<ops.size->(listed.setIfInBounds i true).getD j true=false:=fun j hj hjs=>by
      have e:i≠j:=fun e=>hj (e ▸ hpm)
      have:=hun j hj hjs
      simpa [Array.getElem?_setIfInBounds_ne e] using this
     have dV:(pre.filter fun j=>!(listed.setIfInBounds i true).getD j true).length+r1.length+1<=fuel:=by
      rw[eV]
      rw[e1]at hf
      simp only[List.length_append,List.length_cons]at hf ⊢
      omega
     unfold wpOpIn
     simp only[g2]
     rcases cf hΓ (Q:=lift c Q) hst hb.2 with⟨hw',hwp⟩|⟨hw',σ',bA,hK⟩
     ·rw[if_pos hw']
      refine Oper.wpIn_mono ?_ hwp
      rintro a' w' ⟨σ',bA,hK⟩
      exact ih _ σ' a' w' (by simp[hsz]) aaz dV bA (by rw[eV];exact hK)
     ·rw[if_neg (by simp[hw'])]
      exact⟨fun _ _=>trivial,ih _ σ' _ w (by simp[hsz]) aaz dV bA (by rw[eV];exact hK)⟩
theorem DF{pf mf ms:List Nat}(hm:P.follows .mixedOrders=true)(hΓ:OkG P Γ)(hpf:aQ Γ pf)(hmf:bF Γ mf){id:Nat}{ops:Array Oper}{Q:Exit->S->Prop}{σ:S}(pre:List Nat)(x y:Nat)(r1 r2:List Nat)(hok:sN pf mf ms ops pre x y r1 r2=true)
  (h:bh P Γ ops ob ms (fun _ s=>bh P Γ ops ob ms Q (x :: r1) s/\bh P Γ ops ob ms Q (y :: r2) s) pre σ):sem P (.region id ops true) Q σ:=by
 intro c a w hst
 refine wpIn_region_any hm ?_
 have bA:St c σ a { w with drawn:=w.drawn+1 }:=by
  obtain⟨hd,hn,F,φ,h2,h3,h4⟩:=hst
  refine⟨hd,hn,F,φ,⟨h2.sub,⟨h2.ext.os,h2.ext.tape,h2.ext.output,h2.ext.size,h2.ext.same,Nat.le_trans h2.ext.drn (Nat.le_succ _)⟩,h2.keep,h2.rest,h2.orig,h2.frsh⟩,h3.drew,?_⟩
  exact AV.Rs_mono (fun _ h=>h) eE (fun _ _ h=>h) _ _ h4
 have hok':=hok
 simp only[sN,Bool.and_eq_true]at hok'
 have cO:=hok'.1.1.1.1.2
 simp only[dC,Bool.and_eq_true,List.all_eq_true,decide_eq_true_eq]at cO
 have hun:∀i,i<ops.size->(Array.replicate ops.size false).getD i true=false:=fun i hi=>by simp[hi]
 have hf:(pre.filter fun i=>!(Array.replicate ops.size false).getD i true)=pre:=by
  rw[List.filter_eq_self]
  intro i hi
  rw[hun i (cO.2 i (by simp[hi]))]
  rfl
 refine pp hΓ hpf hmf hok ops.size _ σ a _ (by simp) (fun i _ hi=>hun i hi) ?_ bA (by rw[hf];exact h)
 rw[hf]
 have:=cO.1.2
 simp only[List.length_append,List.length_cons]at this
 omega
end
mutual
def AV.ren(π:Nat->Nat):AV->AV
 | .sl o i j=>.sl (π o) i j
 | .ptr o i j=>.ptr (π o) i j
 | .map o=>.map (π o)
 | .yld o=>.yld (π o)
 | .agg vs=>.agg (AV.rens π vs)
 | .tup vs=>.tup (AV.rens π vs)
 | .fn f vs=>.fn f (AV.rens π vs)
 | .dat d=>.dat d
 | .nils=>.nils
 | .nilm=>.nilm
 | .rptr ag d=>.rptr ag d
 | .top=>.top
def AV.rens(π:Nat->Nat):List AV->List AV
 | []=>[]
 | a :: as=>a.ren π :: AV.rens π as
end
def Obj.ren(π:Nat->Nat):Obj->Obj
 | .box cs=>.box (AV.rens π cs)
 | .lp r cs=>.lp r (AV.rens π cs)
 | .bld T u cs=>.bld T u (AV.rens π cs)
 | .vec cs=>.vec (AV.rens π cs)
 | .tab k cs=>.tab k (AV.rens π cs)
 | x=>x
section
variable {P:Program} {Γ:Nat->a8} {F:Nat->Prop} {φ φ':Nat->Option Loc} {w:World} {own:List Obj} {π:Nat->Nat}
mutual
theorem AV.R_ren(hφ:∀o L,φ o=some L->φ' (π o)=some L):∀(a:AV) (v:Value),AV.R F φ w a v->AV.R F φ' w (a.ren π) v
 | .dat d,v,h=>by simpa only[AV.ren,AV.R] using h
 | .nils,_,h=>by simpa only[AV.ren,AV.R] using h
 | .nilm,_,h=>by simpa only[AV.ren,AV.R] using h
 | .sl o' i j,v,h=>by
  simp only[AV.ren,AV.R]at h ⊢
  obtain⟨L,h1,h2⟩:=h
  exact⟨L,hφ o' L h1,h2⟩
 | .ptr o' i j,v,h=>by
  simp only[AV.ren,AV.R]at h ⊢
  obtain⟨L,h1,h2⟩:=h
  exact⟨L,hφ o' L h1,h2⟩
 | .rptr ag d,v,h=>by simpa only[AV.ren,AV.R] using h
 | .agg vs,v,h=>by
  simp only[AV.ren,AV.R]at h ⊢
  obtain⟨arr,h1,h2⟩:=h
  exact⟨arr,h1,AV.Ra_ren hφ vs arr h2⟩
 | .tup vs,v,h=>by
  simp only[AV.ren,AV.R]at h ⊢
  obtain⟨arr,h1,h2⟩:=h
  exact⟨arr,h1,AV.Rs_ren hφ vs arr h2⟩
 | .map o',v,h=>by
  simp only[AV.ren,AV.R]at h ⊢
  obtain⟨L,h1,h2⟩:=h
  exact⟨L,hφ o' L h1,h2⟩
 | .yld o',v,h=>by
  simp only[AV.ren,AV.R]at h ⊢
  obtain⟨L,h1,h2⟩:=h
  exact⟨L,hφ o' L h1,h2⟩
 | .fn f vs,v,h=>by
  simp only[AV.ren,AV.R]at h ⊢
  obtain⟨arr,h1,h2⟩:=h
  exact⟨arr,h1,AV.Rs_ren hφ vs arr h2⟩
 | .top,_,_=>by simp only[AV.ren,AV.R]
theorem AV.Rs_ren(hφ:∀o L,φ o=some L->φ' (π o)=some L):∀(as:List AV) (vs:List Value),AV.Rs F φ w as vs->AV.Rs F φ' w (AV.rens π as) vs
 | [],_,h=>by simpa only[AV.rens,AV.Rs] using h
 | a :: as,vs,h=>by
  simp only[AV.rens,AV.Rs]at h ⊢
  obtain⟨v,vs',h1,h2,h3⟩:=h
  exact⟨v,vs',h1,AV.R_ren hφ a v h2,AV.Rs_ren hφ as vs' h3⟩
theorem AV.Ra_ren(hφ:∀o L,φ o=some L->φ' (π o)=some L):∀(as:List AV) (vs:List Value),AV.Ra F φ w as vs->AV.Ra F φ' w (AV.rens π as) vs
 | [],_,h=>by simpa only[AV.rens,AV.Ra] using h
 | a :: as,vs,h=>by
  simp only[AV.rens,AV.Ra]at h ⊢
  obtain⟨v,vs',h1,h0,h2,h3⟩:=h
  exact⟨v,vs',h1,h0,AV.R_ren hφ a v h2,AV.Ra_ren hφ as vs' h3⟩
end
theorem AV.rens_length:∀(cs:List AV),(AV.rens π cs).length=cs.length
 | []=>rfl
 | c :: cs=>by simp only[AV.rens,List.length_cons,AV.rens_length cs]
theorem mN(hφ:∀o L,φ o=some L->φ' (π o)=some L){l:Option Loc}{obj:Obj}(h:ObjR F φ w l obj):ObjR F φ' w l (obj.ren π):=by
 cases l with
 | none=>cases obj <;> simp only[ObjR,Obj.ren]at h ⊢
 | some L =>
  cases obj with
  | row ag xs=>simpa only[ObjR,Obj.ren] using h
  | vec cs =>
   simp only[ObjR,Obj.ren]at h ⊢
   obtain⟨h1,h2⟩:=h
   refine⟨h1,?_⟩
   rcases h2 with⟨h2,rfl⟩|⟨h2,arr,ty,h3,h4,h5,vs,h6,h7⟩
   ·exact .inl ⟨h2,rfl⟩
   ·exact .inr ⟨h2,arr,ty,h3,h4,by rw[AV.rens_length];exact h5,vs,AV.Ra_ren hφ _ _ h6,by rw[AV.rens_length];exact h7⟩
  | tab k0 cs =>
   simp only[ObjR,Obj.ren]at h ⊢
   obtain⟨h1,h2⟩:=h
   refine⟨h1,?_⟩
   rcases h2 with⟨h2,rfl⟩|⟨h2,arr,ty,h3,h4,h5,vs,h6,h7⟩
   ·exact .inl ⟨h2,rfl⟩
   ·exact .inr ⟨h2,arr,ty,h3,h4,by rw[AV.rens_length];exact h5,vs,AV.Ra_ren hφ _ _ h6,by rw[AV.rens_length];exact h7⟩
  | box cs =>
   simp only[ObjR,Obj.ren]at h ⊢
   obtain⟨h1,h2,arr,ty,h3,h4,h5⟩:=h
   exact⟨h1,h2,arr,ty,h3,h4,AV.Ra_ren hφ _ _ h5⟩
  | lp r0 cs =>
   simp only[ObjR,Obj.ren]at h ⊢
   obtain⟨h1,h2,arr,ty,h3,h4,h5⟩:=h
   exact⟨h1,h2,arr,ty,h3,h4,AV.Rs_ren hφ _ _ h5⟩
  | bld T0 u0 cs =>
   simp only[ObjR,Obj.ren]at h ⊢
   obtain⟨h1,h2,arr,ty,h3,h4,h5⟩:=h
   exact⟨h1,h2,arr,ty,h3,h4,AV.Rs_ren hφ _ _ h5⟩
  | brow e0 bs0=>simpa only[ObjR,Obj.ren] using h
  | map m=>simpa only[ObjR,Obj.ren] using h
  | dead=>simp only[ObjR,Obj.ren]
theorem Of{s:List AV}{own':List Obj}{mv:List Nat}(π:Nat->Nat)(hπ:∀o,π (π o)=o)(hlt:∀o,o<own.length->π o<own.length)(ho:own'=(List.range own.length).map fun o=>(own.getD (π o) .dead).ren π) :
  Le ⟨s,own,0,mv⟩ ⟨AV.rens π s,own',0,mv⟩:=by
 rintro c a w ⟨hd,hn,F,φ,h2,h3,h4⟩
 have hφ:∀o L,φ o=some L->(fun i=>φ (π i)) (π o)=some L:=fun o L h=>by simp only[hπ];exact h
 have hl:own'.length=own.length:=by rw[ho];simp
 have hn0:c.n0=0:=hn.symm
 refine⟨hd,hn,F,fun i=>φ (π i),⟨h2.sub,h2.ext,fun o L eH hm h=>?_,h2.rest,fun o L' ho' hn'=>h2.orig (π o) L' ho' hn',h2.frsh⟩,?_,AV.Rs_ren (π:=π) (φ:=φ) (φ':=fun i=>φ (π i)) hφ s _ h4⟩
 ·omega
 ·refine⟨h3.fb,fun o L h=>h3.live (π o) L h,fun o o' L L' h h' n n' hne=>h3.inj (π o) (π o') L L' h h' n n' (fun e=>hne (by rw[← hπ o,← hπ o',e])),fun o obj hob=>?_,fun o hge=>?_,h3.glob⟩
  ·have eH:o<own.length:=by
    have:=(List.getElem?_eq_some_iff.1 hob).1
    simp only[hl]at this
    exact this
   simp only[ho,List.getElem?_map,List.getElem?_range eH,Option.map_some,Option.some.injEq]at hob
   subst hob
   have hp:=hlt o eH
   have:=h3.rep (π o) (own.getD (π o) .dead) (by simp only;rw[List.getD_eq_getElem?_getD,List.getElem?_eq_getElem hp];rfl)
   exact mN (π:=π) (φ:=φ) (φ':=fun i=>φ (π i)) hφ this
  ·simp only[hl]at hge
   refine h3.out (π o) ?_
   simp only
   rcases Nat.lt_or_ge (π o) own.length with h|h
   ·have:=hlt _ h
    rw[hπ]at this
    omega
   ·exact h
theorem M8{A B C:Prop}(h1:C->A)(h2:C->B)(h:C):A/\B:=⟨h1 h,h2 h⟩
def swp(a b:Nat):Nat->Nat:=fun o=>if o=a then b else if o=b then a else o
theorem M5(a b o:Nat):swp a b (swp a b o)=o:=by
 unfold swp
 split <;> rename_i h <;> (try subst h) <;> split <;> (try split) <;> (try split) <;> simp_all
theorem Pd{a b n:Nat}(ha:a<n)(hb:b<n)(o:Nat)(h:o<n):swp a b o<n:=by
 unfold swp
 split
 ·exact hb
 ·split
  ·exact ha
  ·exact h
theorem ol{s s':List AV}{own':List Obj}{mv:List Nat}(a b:Nat)(ha:a<own.length)(hb:b<own.length)(hs:s'=AV.rens (swp a b) s)(ho:own'=(List.range own.length).map fun o=>(own.getD (swp a b o) .dead).ren (swp a b)) :
  Le ⟨s,own,0,mv⟩ ⟨s',own',0,mv⟩:=by
 subst hs
 exact Of (swp a b) (M5 a b) (Pd ha hb) ho
end
section
variable {P:Program} {Γ:Nat->a8} {F:Nat->Prop} {φ φ':Nat->Option Loc} {w:World} {own:List Obj} {π:Nat->Nat}
mutual
theorem AV.R_unren:∀(a:AV) (v:Value),AV.R F φ w (a.ren π) v->AV.R F (fun o=>φ (π o)) w a v
 | .dat d,v,h=>by simpa only[AV.ren,AV.R] using h
 | .nils,_,h=>by simpa only[AV.ren,AV.R] using h
 | .nilm,_,h=>by simpa only[AV.ren,AV.R] using h
 | .sl o' i j,v,h=>by simpa only[AV.ren,AV.R] using h
 | .ptr o' i j,v,h=>by simpa only[AV.ren,AV.R] using h
 | .rptr ag d,v,h=>by simpa only[AV.ren,AV.R] using h
 | .agg vs,v,h=>by
  simp only[AV.ren,AV.R]at h ⊢
  obtain⟨arr,h1,h2⟩:=h
  exact⟨arr,h1,AV.Ra_unren vs arr h2⟩
 | .tup vs,v,h=>by
  simp only[AV.ren,AV.R]at h ⊢
  obtain⟨arr,h1,h2⟩:=h
  exact⟨arr,h1,AV.Rs_unren vs arr h2⟩
 | .map o',v,h=>by simpa only[AV.ren,AV.R] using h
 | .yld o',v,h=>by simpa only[AV.ren,AV.R] using h
 | .fn f vs,v,h=>by
  simp only[AV.ren,AV.R]at h ⊢
  obtain⟨arr,h1,h2⟩:=h
  exact⟨arr,h1,AV.Rs_unren vs arr h2⟩
 | .top,_,_=>by simp only[AV.R]
theorem AV.Rs_unren:∀(as:List AV) (vs:List Value),AV.Rs F φ w (AV.rens π as) vs->AV.Rs F (fun o=>φ (π o)) w as vs
 | [],_,h=>by simpa only[AV.rens,AV.Rs] using h
 | a :: as,vs,h=>by
  simp only[AV.rens,AV.Rs]at h ⊢
  obtain⟨v,vs',h1,h2,h3⟩:=h
  exact⟨v,vs',h1,AV.R_unren a v h2,AV.Rs_unren as vs' h3⟩
theorem AV.Ra_unren:∀(as:List AV) (vs:List Value),AV.Ra F φ w (AV.rens π as) vs->AV.Ra F (fun o=>φ (π o)) w as vs
 | [],_,h=>by simpa only[AV.rens,AV.Ra] using h
 | a :: as,vs,h=>by
  simp only[AV.rens,AV.Ra]at h ⊢
  obtain⟨v,vs',h1,h0,h2,h3⟩:=h
  exact⟨v,vs',h1,h0,AV.R_unren a v h2,AV.Ra_unren as vs' h3⟩
end
theorem zE{l:Option Loc}{obj:Obj}(h:ObjR F φ w l (obj.ren π)):ObjR F (fun o=>φ (π o)) w l obj:=by
 cases l with
 | none=>cases obj <;> simp only[ObjR,Obj.ren]at h ⊢
 | some L =>
  cases obj with
  | row ag xs=>simpa only[ObjR,Obj.ren] using h
  | vec cs =>
   simp only[ObjR,Obj.ren]at h ⊢
   obtain⟨h1,h2⟩:=h
   refine⟨h1,?_⟩
   rcases h2 with⟨h2,h3⟩|⟨h2,arr,ty,h3,h4,h5,vs,h6,h7⟩
   ·refine .inl ⟨h2,?_⟩
    cases cs with
    | nil=>rfl
    | cons c cs=>simp[AV.rens]at h3
   ·exact .inr ⟨h2,arr,ty,h3,h4,by rwa [AV.rens_length]at h5,vs,AV.Ra_unren _ _ h6,by rwa [AV.rens_length]at h7⟩
  | tab k0 cs =>
   simp only[ObjR,Obj.ren]at h ⊢
   obtain⟨h1,h2⟩:=h
   refine⟨h1,?_⟩
   rcases h2 with⟨h2,h3⟩|⟨h2,arr,ty,h3,h4,h5,vs,h6,h7⟩
   ·refine .inl ⟨h2,?_⟩
    cases cs with
    | nil=>rfl
    | cons c cs=>simp[AV.rens]at h3
   ·exact .inr ⟨h2,arr,ty,h3,h4,by rwa [AV.rens_length]at h5,vs,AV.Ra_unren _ _ h6,by rwa [AV.rens_length]at h7⟩
  | box cs =>
   simp only[ObjR,Obj.ren]at h ⊢
   obtain⟨h1,h2,arr,ty,h3,h4,h5⟩:=h
   exact⟨h1,h2,arr,ty,h3,h4,AV.Ra_unren _ _ h5⟩
  | lp r0 cs =>
   simp only[ObjR,Obj.ren]at h ⊢
   obtain⟨h1,h2,arr,ty,h3,h4,h5⟩:=h
   exact⟨h1,h2,arr,ty,h3,h4,AV.Rs_unren _ _ h5⟩
  | bld T0 u0 cs =>
   simp only[ObjR,Obj.ren]at h ⊢
   obtain⟨h1,h2,arr,ty,h3,h4,h5⟩:=h
   exact⟨h1,h2,arr,ty,h3,h4,AV.Rs_unren _ _ h5⟩
  | brow e0 bs0=>simpa only[ObjR,Obj.ren] using h
  | map m=>simpa only[ObjR,Obj.ren] using h
  | dead=>simp only[ObjR]
theorem A9{k:Nat}(hφ:∀o L,o<k->φ o=some L->φ' o=some L){l:Option Loc}{obj:Obj}(hu:obj.under k)(h:ObjR F φ w l obj):ObjR F φ' w l obj:=by
 cases l with
 | none=>cases obj <;> simp only[ObjR]at h ⊢
 | some L =>
  cases obj with
  | row ag xs=>simpa only[ObjR] using h
  | vec cs =>
   simp only[ObjR,Obj.under]at h hu ⊢
   obtain⟨h1,h2⟩:=h
   refine⟨h1,?_⟩
   rcases h2 with h2|⟨h2,arr,ty,h3,h4,h5,vs,h6,h7⟩
   ·exact .inl h2
   ·exact .inr ⟨h2,arr,ty,h3,h4,h5,vs,AV.Ra_under hφ _ _ hu h6,h7⟩
  | tab k0 cs =>
   simp only[ObjR,Obj.under]at h hu ⊢
   obtain⟨h1,h2⟩:=h
   refine⟨h1,?_⟩
   rcases h2 with h2|⟨h2,arr,ty,h3,h4,h5,vs,h6,h7⟩
   ·exact .inl h2
   ·exact .inr ⟨h2,arr,ty,h3,h4,h5,vs,AV.Ra_under hφ _ _ hu h6,h7⟩
  | box cs =>
   simp only[ObjR,Obj.under]at h hu ⊢
   obtain⟨h1,h2,arr,ty,h3,h4,h5⟩:=h
   exact⟨h1,h2,arr,ty,h3,h4,AV.Ra_under hφ _ _ hu h5⟩
  | lp r0 cs =>
   simp only[ObjR,Obj.under]at h hu ⊢
   obtain⟨h1,h2,arr,ty,h3,h4,h5⟩:=h
   exact⟨h1,h2,arr,ty,h3,h4,AV.Rs_under hφ _ _ hu h5⟩
  | bld T0 u0 cs =>
   simp only[ObjR,Obj.under]at h hu ⊢
   obtain⟨h1,h2,arr,ty,h3,h4,h5⟩:=h
   exact⟨h1,h2,arr,ty,h3,h4,AV.Rs_under hφ _ _ hu h5⟩
  | brow e0 bs0=>simpa only[ObjR] using h
  | map m=>simpa only[ObjR] using h
  | dead=>simp only[ObjR]
def Obj.killAll(kl:List Nat):Obj->Obj
 | .box cs=>.box (Go.AM.killAll kl cs)
 | .lp r cs=>.lp r (Go.AM.killAll kl cs)
 | .bld T u cs=>.bld T u (Go.AM.killAll kl cs)
 | .vec cs=>.vec (Go.AM.killAll kl cs)
 | .tab k cs=>.tab k (Go.AM.killAll kl cs)
 | x=>x
@[go_sem] theorem Obj.killAll_nil (x:Obj):Obj.killAll [] x=x:=by cases x <;> rfl
theorem bX:∀(kl:List Nat) (cs:List AV),(killAll kl cs).length=cs.length
 | [],_=>rfl
 | o :: kl,cs=>by simp only[killAll];rw[bX kl,AV.kills_length]
theorem fN{F':Nat->Prop}{w':World}{kl:List Nat}(hF:∀b,F b->F' b)(hw:Same F w w')(hφ:∀o L,o∉kl->φ o=some L->φ' o=some L){l:Option Loc}{obj:Obj}(hb:∀L,l=some L->L.nil=false->w'.heap[L.b]?=w.heap[L.b]?)
  (h:ObjR F φ w l obj):ObjR F' φ' w' l (obj.killAll kl):=by
 cases l with
 | none=>cases obj <;> simp only[ObjR,Obj.killAll]at h ⊢
 | some L =>
  cases obj with
  | row ag xs =>
   simp only[Obj.killAll]
   exact ObjR.mono (φ:=fun _=>none) hF hw (fun _ _ h=>by cases h) hb (by simpa only[ObjR] using h)
  | vec cs =>
   simp only[ObjR,Obj.killAll]at h ⊢
   obtain⟨h1,h2⟩:=h
   refine⟨h1,?_⟩
   rcases h2 with⟨h2,rfl⟩|⟨h2,arr,ty,h3,h4,h5,vs,h6,h7⟩
   ·exact .inl ⟨h2,List.eq_nil_of_length_eq_zero (by rw[bX];rfl)⟩
   ·have h6':=AV.Ra_iff.1 h6
    exact .inr ⟨h2,arr,ty,(hb L rfl h2).trans h3,h4,by rw[bX];exact h5,vs,AV.Ra_iff.2 ⟨cU hF hw kl hφ h6'.1,h6'.2⟩,by rw[bX];exact h7⟩
  | tab k0 cs =>
   simp only[ObjR,Obj.killAll]at h ⊢
   obtain⟨h1,h2⟩:=h
   refine⟨h1,?_⟩
   rcases h2 with⟨h2,rfl⟩|⟨h2,arr,ty,h3,h4,h5,vs,h6,h7⟩
   ·exact .inl ⟨h2,List.eq_nil_of_length_eq_zero (by rw[bX];rfl)⟩
   ·have h6':=AV.Ra_iff.1 h6
    exact .inr ⟨h2,arr,ty,(hb L rfl h2).trans h3,h4,by rw[bX];exact h5,vs,AV.Ra_iff.2 ⟨cU hF hw kl hφ h6'.1,h6'.2⟩,by rw[bX];exact h7⟩
  | box cs =>
   simp only[ObjR,Obj.killAll]at h ⊢
   obtain⟨h1,h2,arr,ty,h3,h4,h5⟩:=h
   have h5':=AV.Ra_iff.1 h5
   exact⟨h1,h2,arr,ty,(hb L rfl h1).trans h3,h4,AV.Ra_iff.2 ⟨cU hF hw kl hφ h5'.1,h5'.2⟩⟩
  | lp r0 cs =>
   simp only[ObjR,Obj.killAll]at h ⊢
   obtain⟨h1,h2,arr,ty,h3,h4,h5⟩:=h
   exact⟨h1,h2,arr,ty,(hb L rfl h1).trans h3,h4,cU hF hw kl hφ h5⟩
  | bld T0 u0 cs =>
   simp only[ObjR,Obj.killAll]at h ⊢
   obtain⟨h1,h2,arr,ty,h3,h4,h5⟩:=h
   exact⟨h1,h2,arr,ty,(hb L rfl h1).trans h3,h4,cU hF hw kl hφ h5⟩
  | brow e0 bs0 =>
   simp only[Obj.killAll]
   exact ObjR.mono (φ:=fun _=>none) hF hw (fun _ _ h=>by cases h) hb (by simpa only[ObjR] using h)
  | map m =>
   simp only[Obj.killAll]
   exact ObjR.mono (φ:=fun _=>none) hF hw (fun _ _ h=>by cases h) hb (by simpa only[ObjR] using h)
  | dead=>simp only[ObjR,Obj.killAll]
def dv:List Obj->List Nat->List Obj->List Obj
 | own,[],_=>own
 | own,_ :: _,[]=>own
 | own,o :: os,x :: xs=>dv (own.set o x) os xs
theorem kz:∀(own:List Obj) (os:List Nat) (xs:List Obj),(dv own os xs).length=own.length
 | own,[],_=>by simp only[dv]
 | own,_ :: _,[]=>rfl
 | own,o :: os,x :: xs=>by simp only[dv];rw[kz];simp
theorem lg:∀(own:List Obj) (os:List Nat) (xs:List Obj) (o:Nat),o∉os->(dv own os xs)[o]?=own[o]?
 | own,[],_,o,_=>by simp only[dv]
 | own,_ :: _,[],o,_=>rfl
 | own,o' :: os,x :: xs,o,h=>by
  simp only[dv]
  rw[lg _ os xs o (fun hm=>h (by simp[hm]))]
  rw[List.getElem?_set]
  rw[if_neg (fun e=>h (by simp[e]))]
theorem uf:∀(own:List Obj) (os:List Nat) (xs:List Obj) (j:Nat),os.Nodup->(∀o∈os,o<own.length)->j<os.length->xs.length=os.length->(dv own os xs)[os.getD j 0]?=xs[j]?
 | own,[],_,j,_,_,h,_=>by simp at h
 | own,o' :: os,[],j,_,_,_,h=>by simp at h
 | own,o' :: os,x :: xs,j,hn,hl,hj,h=>by
  obtain⟨h1,h2⟩:=List.nodup_cons.1 hn
  simp only[dv]
  cases j with
  | zero =>
   simp only[List.getD_cons_zero,List.getElem?_cons_zero]
   rw[lg _ os xs o' h1,List.getElem?_set,if_pos rfl,if_pos (hl o' (by simp))]
  | succ j =>
   simp only[List.getD_cons_succ,List.getElem?_cons_succ]
   exact uf _ os xs j h2 (fun o ho=>by rw[List.length_set];exact hl o (by simp[ho])) (by simpa using hj) (by simpa using h)
def emb(os:List Nat)(n:Nat):Nat->Nat:=fun j=>if j<os.length then os.getD j 0 else n+(j - os.length)
def cr(R:List AV->List Obj->AV->List Obj->List Obj->List Nat->Prop):a8:=fun args own v own' mv =>
 ∃(os:List Nat) (as:List AV) (obs:List Obj) (v0:AV) (obs' ex:List Obj) (mv0:List Nat),os.Nodup/\(∀o∈os,o<own.length)/\obs.length=os.length/\obs'.length=os.length /\
  args=AV.rens (emb os own.length) as/\AV.unders os.length as/\(∀x∈obs,x.under os.length)/\(∀j,j<os.length->own[os.getD j 0]?=some ((obs.getD j .dead).ren (emb os own.length)))/\R as obs v0 obs' ex mv0 /\
  v=v0.ren (emb os own.length)/\own'=dv (own.map (Obj.killAll (mv0.map (emb os own.length)))) os (obs'.map (Obj.ren (emb os own.length)))++ex.map (Obj.ren (emb os own.length))/\mv=mv0.map (emb os own.length)
theorem tZ {g : Nat} {fn : Func} {body : Code} {R : List AV -> List Obj -> AV -> List Obj -> List Obj -> List Nat -> Prop} (hf : P.funcs[g]? = some fn) (hb : fn.body = some body) (lY : fn.name ≠ "runtime.NumGoroutine")
  (h:∀as obs v0 obs' ex mv0,R as obs v0 obs' ex mv0->∀F φ w vs,(∀o L,φ o=some L->o<obs.length)->Conc F φ obs w->AV.Rs F φ w as vs->Calls P g vs.toArray w fun e w'=>∃r F' φ',e=.returned r/\After F φ w F' φ' (obs'++ex) w' mv0/\AV.R F' φ' w' v0 r):OkF P g (cr R):=by
 intro args own v own' mv hC
 obtain⟨os,as,obs,v0,obs',ex,mv0,hnd,hlt,hlen,dV,c5,hun,hobu,hobs,hR,hv,yN,hmv⟩:=hC
 refine⟨⟨fn,body,hf,hb,lY⟩,fun F φ w vs hc hs=>?_⟩
 let k:=os.length
 let n:=own.length
 let π:=emb os n
 let φ0:Nat->Option Loc:=fun j=>if j<k then φ (π j) else none
 have hπ:∀j,j<k->π j=os.getD j 0:=fun j hj=>by simp only[π,emb];rw[if_pos hj]
 have hπ2:∀j,¬j<k->π j=n+(j - k):=fun j hj=>by simp only[π,emb];rw[if_neg hj]
 have jk:∀j,j<k->os.getD j 0∈os:=fun j hj=>by
  rw[List.getD_eq_getElem?_getD,List.getElem?_eq_getElem hj]
  exact List.getElem_mem hj
 have Vi:∀j,j<k->π j<n:=fun j hj=>by rw[hπ j hj];exact hlt _ (jk j hj)
 have Jw:∀j,j<k->os.idxOf (os.getD j 0)=j:=fun j hj=>by
  rw[List.getD_eq_getElem?_getD,List.getElem?_eq_getElem hj]
  exact hnd.idxOf_getElem j hj
 have hπi:∀i j,π i=π j->i=j:=fun i j e=>by
  by_cases hi:i<k
  ·by_cases hj:j<k
   ·rw[hπ i hi,hπ j hj]at e
    rw[← Jw i hi,← Jw j hj,e]
   ·have:=Vi i hi
    rw[hπ2 j hj]at e
    omega
  ·by_cases hj:j<k
   ·have:=Vi j hj
    rw[hπ2 i hi]at e
    omega
   ·rw[hπ2 i hi,hπ2 j hj]at e
    omega
 have conc0:Conc F φ0 obs w:=by
  refine⟨hc.fb,fun j L hj=>?_,fun i j L L' hi hj n1 n2 hne=>?_,fun j obj hj=>?_,fun j hj=>?_,hc.glob⟩
  ·simp only[φ0]at hj
   split at hj
   ·exact hc.live _ L hj
   ·cases hj
  ·simp only[φ0]at hi hj
   split at hi
   ·split at hj
    ·exact hc.inj _ _ L L' hi hj n1 n2 (fun e=>hne (hπi i j e))
    ·cases hj
   ·cases hi
  ·have hjk:j<k:=by have:=(List.getElem?_eq_some_iff.1 hj).1;omega
   have hg:obs.getD j .dead=obj:=by rw[List.getD_eq_getElem?_getD,hj];rfl
   have hr:=hc.rep (π j) _ (by rw[hπ j hjk];exact hobs j hjk)
   rw[hg]at hr
   have h0:φ0 j=φ (π j):=by simp only[φ0];rw[if_pos hjk]
   rw[h0]
   exact A9 (k:=k) (fun o L ho hL=>by simp only[φ0];rw[if_pos ho];exact hL) (hobu obj (List.mem_of_getElem? hj)) (zE hr)
  ·simp only[φ0]
   rw[if_neg (by omega)]
 have hs0:AV.Rs F φ0 w as vs:=by
  rw[c5]at hs
  exact AV.Rs_under (n:=k) (fun o L ho hL=>by simp only[φ0];rw[if_pos ho];exact hL) _ _ hun (AV.Rs_unren _ _ hs)
 refine(h as obs v0 obs' ex mv0 hR F φ0 w vs (fun o L ho=>by
  simp only[φ0]at ho
  split at ho
  ·omega
  ·cases ho) conc0 hs0).mono ?_
 rintro e w' ⟨r,F',φ',rfl,ha,hr⟩
 let φ2:Nat->Option Loc:=fun o=>if o∈os then φ' (os.idxOf o) else if o<n then φ o else φ' (k+(o - n))
 have key:∀j,φ2 (π j)=φ' j:=fun j=>by
  simp only[φ2]
  by_cases hj:j<k
  ·rw[hπ j hj,if_pos (jk j hj),Jw j hj]
  ·rw[hπ2 j hj,if_neg (fun hm=>by have:=hlt _ hm;omega),if_neg (by omega)]
   congr 1;omega
 have dX:∀o,o∉os->o<n->φ2 o=φ o:=fun o h1 h2=>by simp only[φ2];rw[if_neg h1,if_pos h2]
 have cover:∀o,(o∉os/\o<n)∨∃j,π j=o:=fun o=>by
  by_cases h1:o∈os
  ·refine .inr ⟨os.idxOf o,?_⟩
   have hj:=List.idxOf_lt_length_of_mem h1
   rw[hπ _ hj,List.getD_eq_getElem?_getD,List.getElem?_eq_getElem hj]
   simp
  ·by_cases h2:o<n
   ·exact .inl ⟨h1,h2⟩
   ·exact .inr ⟨k+(o - n),by rw[hπ2 _ (by omega)];omega⟩
 have lentφ:∀j L,φ0 j=some L->φ (π j)=some L/\π j∈os:=fun j L hj=>by
  simp only[φ0]at hj
  split at hj
  ·rename_i hjk
   exact⟨hj,by rw[hπ j hjk];exact jk j hjk⟩
  ·cases hj
 have RT:∀o L,φ o=some L->o<n:=fun o L ho=>by
  rcases Nat.lt_or_ge o n with h|h
  ·exact h
  ·rw[hc.out o h]at ho;cases ho
 have oldrest:∀o L,o∉os->φ o=some L->L.nil=false->w'.heap[L.b]?=w.heap[L.b]?:=fun o L h1 h2 h3 =>
  ha.rest L.b (hc.live o L h2 h3).2 (fun j L' hj hn' e=>by
   obtain⟨g1,g2⟩:=lentφ j L' hj
   exact hc.inj (π j) o L' L g1 h2 hn' h3 (fun e'=>h1 (e' ▸ g2)) e)
 have S8:∀o L,o∉mv0.map π->φ o=some L->φ2 o=some L:=fun o L hm ho=>by
  rcases cover o with⟨h1,h2⟩|⟨j,rfl⟩
  ·rw[dX o h1 h2];exact ho
  ·rw[key]
   refine ha.keep j L (fun hj=>hm (List.mem_map.2 ⟨j,hj,rfl⟩)) ?_
   have hjk:j<k:=by
    rcases Nat.lt_or_ge j k with h|h
    ·exact h
    ·have:=RT _ L ho
     rw[hπ2 j (by omega)]at this
     omega
   simp only[φ0]
   rw[if_pos hjk];exact ho
 have mH:(dv (own.map (Obj.killAll (mv0.map π))) os (obs'.map (Obj.ren π))).length=n:=by rw[kz,List.length_map]
 refine⟨r,F',φ2,rfl,?_,?_⟩
 ·refine { sub:=ha.sub,ext:=ha.ext,conc:=?_,keep:=fun o L hm ho=>S8 o L (by rwa [hmv]at hm) ho,rest:=fun b hb cO=>ha.rest b hb (fun j L hj hn'=>cO (π j) L (lentφ j L hj).1 hn'),orig:=fun o L' ho hn'=>?_,frsh:=fun b hb=>?_ }
  ·refine⟨ha.conc.fb,fun o L ho hn'=>?_,fun o1 o2 L1 L2 h1 h2 n1 n2 hne=>?_,fun o obj ho=>?_,fun o ho=>?_,ha.conc.glob⟩
   ·rcases cover o with⟨h1,h2⟩|⟨j,rfl⟩
    ·rw[dX o h1 h2]at ho
     refine⟨fun hF'=>?_,Nat.lt_of_lt_of_le (hc.live o L ho hn').2 ha.ext.size⟩
     rcases ha.frsh _ hF' with h|h|⟨j,L',g1,g2,g3⟩
     ·exact(hc.live o L ho hn').1 h
     ·have:=(hc.live o L ho hn').2;omega
     ·obtain⟨g4,g5⟩:=lentφ j L' g1
      exact hc.inj (π j) o L' L g4 ho g2 hn' (fun e'=>h1 (e' ▸ g5)) g3
    ·rw[key]at ho
     exact ha.conc.live j L ho hn'
   ·have mixed:∀o j L L',o∉os->o<n->φ o=some L->φ' j=some L'->L.nil=false->L'.nil=false->L.b≠L'.b:=fun o j L L' g1 g2 g3 g4 m1 m2 e=>by
     rcases ha.orig j L' g4 m2 with h|⟨j',L3,q1,q2,q3⟩
     ·have:=(hc.live o L g3 m1).2;omega
     ·obtain⟨q4,q5⟩:=lentφ j' L3 q1
      exact hc.inj o (π j') L L3 g3 q4 m1 q2 (fun e'=>g1 (e' ▸ q5)) (e.trans q3.symm)
    rcases cover o1 with⟨a1,a2⟩|⟨j1,rfl⟩ <;> rcases cover o2 with⟨b1,b2⟩|⟨j2,rfl⟩
    ·rw[dX o1 a1 a2]at h1;rw[dX o2 b1 b2]at h2
     exact hc.inj o1 o2 L1 L2 h1 h2 n1 n2 hne
    ·rw[dX o1 a1 a2]at h1;rw[key]at h2
     exact mixed o1 j2 L1 L2 a1 a2 h1 h2 n1 n2
    ·rw[key]at h1;rw[dX o2 b1 b2]at h2
     exact(mixed o2 j1 L2 L1 b1 b2 h2 h1 n2 n1).symm
    ·rw[key]at h1 h2
     exact ha.conc.inj j1 j2 L1 L2 h1 h2 n1 n2 (fun e=>hne (by rw[e]))
   ·rw[yN]at ho
    rcases cover o with⟨h1,h2⟩|⟨j,rfl⟩
    ·rw[List.getElem?_append_left (by rw[mH];exact h2),lg _ _ _ _ h1,List.getElem?_map,Option.map_eq_some_iff]at ho
     obtain⟨ob0,g1,rfl⟩:=ho
     rw[dX o h1 h2]
     exact fN ha.sub ha.ext.same S8 (fun L hL hn'=>oldrest o L h1 hL hn') (hc.rep o ob0 g1)
    ·rw[key]
     by_cases hj:j<k
     ·rw[List.getElem?_append_left (by rw[mH];exact Vi j hj),hπ j hj,uf _ _ _ _ hnd (fun o ho=>by rw[List.length_map];exact hlt o ho) hj (by rw[List.length_map];exact dV),List.getElem?_map,Option.map_eq_some_iff]at ho
      obtain⟨ob0,g1,rfl⟩:=ho
      have:=ha.conc.rep j ob0 (by rw[List.getElem?_append_left (by omega)];exact g1)
      exact mN (π:=π) (φ:=φ') (φ':=φ2) (fun o L ho=>by rw[key];exact ho) this
     ·rw[List.getElem?_append_right (by rw[mH,hπ2 j hj];omega),mH,hπ2 j hj,Nat.add_sub_cancel_left,List.getElem?_map,Option.map_eq_some_iff]at ho
      obtain⟨ob0,g1,rfl⟩:=ho
      have:=ha.conc.rep j ob0 (by rw[List.getElem?_append_right (by omega),dV];exact g1)
      exact mN (π:=π) (φ:=φ') (φ':=φ2) (fun o L ho=>by rw[key];exact ho) this
   ·rw[yN,List.length_append,mH,List.length_map]at ho
    rcases cover o with⟨h1,h2⟩|⟨j,rfl⟩
    ·omega
    ·rw[key]
     have hj:¬j<k:=fun hj=>by have:=Vi j hj;omega
     rw[hπ2 j hj]at ho
     exact ha.conc.out j (by rw[List.length_append];omega)
  ·rcases cover o with⟨h1,h2⟩|⟨j,rfl⟩
   ·rw[dX o h1 h2]at ho
    exact .inr ⟨o,L',ho,hn',rfl⟩
   ·rw[key]at ho
    rcases ha.orig j L' ho hn' with h|⟨j',L3,q1,q2,q3⟩
    ·exact .inl h
    ·exact .inr ⟨π j',L3,(lentφ j' L3 q1).1,q2,q3⟩
  ·rcases ha.frsh b hb with h|h|⟨j,L',g1,g2,g3⟩
   ·exact .inl h
   ·exact .inr (.inl h)
   ·exact .inr (.inr ⟨π j,L',(lentφ j L' g1).1,g2,g3⟩)
 ·rw[hv]
  exact AV.R_ren (π:=π) (φ:=φ') (φ':=φ2) (fun o L ho=>by rw[key];exact ho) _ _ hr
theorem c9 {g : Nat} {fn : Func} {body : Code} {R : List AV -> List Obj -> AV -> List Obj -> List Obj -> List Nat -> Prop} (hf : P.funcs[g]? = some fn) (hb : fn.body = some body) (lY : fn.name ≠ "runtime.NumGoroutine")
  (h:∀as obs v0 obs' ex mv0,R as obs v0 obs' ex mv0->sem P body (post P fn v0 (obs'++ex) mv0) ⟨as++List.replicate (fn.ntmps - as.length) .top,obs,obs.length,[]⟩):OkF P g (cr R) :=
 tZ hf hb lY fun as obs v0 obs' ex mv0 hR F φ w vs h0 hc hs=>fH hf hb (h as obs v0 obs' ex mv0 hR) h0 hc hs
theorem bC{l:List (Nat×a8)}{g:Nat}(R:List AV->List Obj->AV->List Obj->List Obj->List Nat->Prop)(hm:(g,cr R)∈l){args:List AV}{own:List Obj}{K:AV->List Obj->List Nat->Prop}(os:List Nat){as:List AV}{obs:List Obj}{v0:AV}{obs' ex:List Obj}{mv0:List Nat}
  (hR:R as obs v0 obs' ex mv0) (hnd:os.Nodup) (hlt:∀o∈os,o<own.length) (h1:obs.length=os.length) (h2:obs'.length=os.length) (c5:args=AV.rens (emb os own.length) as) (hun:AV.unders os.length as) (hob:∀x∈obs,x.under os.length)
  (yN:∀j,j<os.length->own[os.getD j 0]?=some ((obs.getD j .dead).ren (emb os own.length)))
  (hK:K (v0.ren (emb os own.length)) (dv (own.map (Obj.killAll (mv0.map (emb os own.length)))) os (obs'.map (Obj.ren (emb os own.length)))++ex.map (Obj.ren (emb os own.length))) (mv0.map (emb os own.length))):eB (tbl l) (.fn g []) args own K :=
 jv (cr R) hm _ _ _ ⟨os,as,obs,v0,obs',ex,mv0,hnd,hlt,h1,h2,c5,hun,hob,yN,hR,rfl,rfl,rfl⟩ hK
@[go_sem] theorem Tb:wc []=.tup []:=Eq.trans rfl rfl
attribute [go_sem] AV.ren AV.rens Obj.ren dv
@[go_sem] theorem oH (own:List Obj):own.map (Obj.killAll [])=own:=by
 have:Obj.killAll []=id:=funext fun x=>Obj.killAll_nil x
 rw[this,List.map_id]
end
end Go.AM
namespace Go.AM
open Go
section
variable {P:Program} {Γ:Nat->a8} {Q:Exit->S->Prop} {σ:S}
end
end Go.AM

