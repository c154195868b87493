/- Own work over the model of the kit. -/
import Derived.Test.YtmmbjdgmhdjbjaaGreatDoorD6
set_option linter.unnecessarySimpa false
set_option linter.unusedSimpArgs false
set_option linter.unusedVariables false
namespace Go.AM
open Go
def dT(ag:Option Nat)(M:List (List D)):List Obj:=M.map (.row ag)
def fv:Nat->List (List D)->List AV
 | _,[]=>[]
 | b,l :: M=>.sl b 0 l.length :: fv (b+1) M
theorem ou(ag:Option Nat)(M:List (List D)):(dT ag M).length=M.length:=by simp[dT]
theorem cC:∀(b:Nat) (M:List (List D)),(fv b M).length=M.length
 | _,[]=>rfl
 | b,l :: M=>by simp[fv,cC (b+1) M]
theorem Cf(ag:Option Nat)(M:List (List D))(l:List D):dT ag (M++[l])=dT ag M++[.row ag l]:=by simp[dT]
theorem tY:∀(b:Nat) (M:List (List D)) (l:List D),fv b (M++[l])=fv b M++[.sl (b+M.length) 0 l.length]
 | b,[],l=>by simp[fv]
 | b,x :: M,l=>by simp[fv,tY (b+1) M l];omega
theorem sb:∀(b:Nat) (M:List (List D)) (i:Nat),i<M.length->(fv b M).getD i .top=.sl (b+i) 0 (M.getD i []).length
 | b,[],i,h=>by simp at h
 | b,l :: M,0,_=>by simp[fv]
 | b,l :: M,i+1,h=>by
  have:=sb (b+1) M i (by simpa using h)
  simp only[fv,List.getD_cons_succ,this]
  congr 1;omega
theorem yE{ag:Option Nat}{M:List (List D)}{post:List Obj}{i:Nat}(h:i<M.length):(dT ag M++post).getD i .dead=.row ag (M.getD i []):=by
 simp only[List.getD_eq_getElem?_getD]
 rw[List.getElem?_append_left (by simpa [dT] using h)]
 simp[dT,List.getElem?_map,List.getElem?_eq_getElem h]
theorem uF{ag:Option Nat}{M:List (List D)}{i:Nat}(h:i<M.length):(dT ag M).getD i .dead=.row ag (M.getD i []):=by
 have:=yE (ag:=ag) (post:=[]) h
 simpa using this
theorem FZ{ag:Option Nat}{M:List (List D)}{post:List Obj}{i:Nat}(h:i<M.length)(l:List D):(dT ag M++post).set i (.row ag l)=dT ag (M.set i l)++post:=by
 rw[List.set_append_left _ _ (by simpa [dT] using h)]
 simp[dT,List.map_set]
theorem C7{ag:Option Nat}{M:List (List D)}{i:Nat}(h:i<M.length)(l:List D):(dT ag M).set i (.row ag l)=dT ag (M.set i l):=by simp[dT,List.map_set]
theorem yH:∀(b:Nat) (M:List (List D)) (i:Nat) (l:List D),(fv b M).set i (.sl (b+i) 0 l.length)=fv b (M.set i l)
 | b,[],i,l=>rfl
 | b,x :: M,0,l=>by simp[fv]
 | b,x :: M,i+1,l=>by
  have:=yH (b+1) M i l
  simp only[fv,List.set_cons_succ]
  rw[← this,show b+(i+1)=b+1+i by omega]
theorem kZ:∀(b:Nat) (M:List (List D)) (o:Nat),o<b∨b+M.length<=o->AV.kills o (fv b M)=fv b M
 | b,[],o,_=>rfl
 | b,l :: M,o,h=>by
  simp only[List.length_cons]at h
  simp only[fv,AV.kills,AV.kill]
  rw[if_neg (by omega),kZ (b+1) M o (by omega)]
theorem mm:∀(b:Nat) (M:List (List D)) (i:Nat),i<M.length->AV.kills (b+i) (fv b M)=(fv b M).set i .top
 | b,[],i,h=>by simp at h
 | b,l :: M,0,_=>by
  simp only[fv,AV.kills,AV.kill,Nat.add_zero,if_true,List.set_cons_zero]
  rw[kZ (b+1) M b (by omega)]
 | b,l :: M,i+1,h=>by
  simp only[fv,AV.kills,AV.kill,List.set_cons_succ]
  rw[if_neg (by omega),show b+(i+1)=b+1+i by omega,mm (b+1) M i (by simpa using h)]
theorem km(ag:Option Nat)(M:List (List D))(o:Nat):(dT ag M).map (Obj.kill o)=dT ag M:=by simp[dT,Obj.kill]
theorem uQ(o:Nat):∀(as bs:List AV),AV.kills o (as++bs)=AV.kills o as++AV.kills o bs
 | [],_=>rfl
 | a :: as,bs=>by simp only[List.cons_append,AV.kills,uQ o as bs]
theorem qo{n:Nat}:∀{as bs:List AV},AV.unders n as->AV.unders n bs->AV.unders n (as++bs)
 | [],_,_,k=>k
 | a :: as,bs,h,k=>by simp only[List.cons_append,AV.unders]at h ⊢;exact⟨h.1,qo h.2 k⟩
theorem j5:∀(b:Nat) (M:List (List D)) (n:Nat),b+M.length<=n->AV.unders n (fv b M)
 | b,[],n,_=>by simp only[fv,AV.unders]
 | b,l :: M,n,h=>by
  simp only[List.length_cons]at h
  simp only[fv,AV.unders,AV.under]
  exact⟨by omega,j5 (b+1) M n (by omega)⟩
theorem m8{n:Nat}:∀{xs ys:List Obj},Obj.allUnder n xs->Obj.allUnder n ys->Obj.allUnder n (xs++ys)
 | [],_,_,h=>h
 | x :: xs,ys,h,k=>⟨h.1,m8 h.2 k⟩
theorem qD(ag:Option Nat)(n:Nat):∀(M:List (List D)),Obj.allUnder n (dT ag M)
 | []=>trivial
 | l :: M=>⟨by simp only[Obj.under],qD ag n M⟩
def vu(ag:Option Nat):Nat->List (List D)->AV->AV
 | _,[],v=>v
 | b,l :: M,v=>vu ag (b+1) M (v.frz b ag l)
def i6(ag:Option Nat)(b:Nat)(M:List (List D))(s:List AV):List AV:=s.map (vu ag b M)
def gD(ag:Option Nat)(b:Nat)(M:List (List D)):Obj->Obj
 | .vec cs=>.vec (i6 ag b M cs)
 | .tab k cs=>.tab k (i6 ag b M cs)
 | .box cs=>.box (i6 ag b M cs)
 | .lp r cs=>.lp r (i6 ag b M cs)
 | .bld T u cs=>.bld T u (i6 ag b M cs)
 | x=>x
theorem mV(o:Nat)(ag:Option Nat)(xs:List D):∀s:List AV,AV.frzs o ag xs s=s.map (AV.frz o ag xs)
 | []=>rfl
 | a :: s=>by simp only[AV.frzs,List.map_cons,mV o ag xs s]
theorem zI(ag:Option Nat)(b:Nat)(l:List D)(M:List (List D))(x:Obj):gD ag b (l :: M) x=gD ag (b+1) M (x.frz b ag l):=by
 cases x <;> simp only[gD,Obj.frz,mV,i6,List.map_map] <;> rfl
theorem uz{ag:Option Nat}:∀(M:List (List D)) {s:List AV} {pre post:List Obj} {n0:Nat} {mv:List Nat},n0<=pre.length ->
  Le ⟨s,pre++dT ag M++post,n0,mv⟩ ⟨i6 ag pre.length M s,pre.map (gD ag pre.length M)++List.replicate M.length .dead++post.map (gD ag pre.length M),n0,mv⟩
 | [],s,pre,post,n0,mv,h0=>by
  have e:∀x:Obj,gD ag pre.length [] x=x:=fun x=>by cases x <;> simp[gD,i6,vu]
  have e1:s.map (vu ag pre.length [])=s:=by simp[vu]
  have e2:pre.map (gD ag pre.length [])=pre:=by rw[show gD ag pre.length []=id from funext e];simp
  have e3:post.map (gD ag pre.length [])=post:=by rw[show gD ag pre.length []=id from funext e];simp
  simp only[dT,List.map_nil,List.length_nil,List.replicate_zero,i6,e1,e2,e3]
  exact Le.refl _
 | l :: M,s,pre,post,n0,mv,h0=>by
  have h:=aq (s:=s) (own:=pre++dT ag (l :: M)++post) (n0:=n0) (mv:=mv) pre.length (ag:=ag) (xs:=l) (by simp[dT]) h0
  have e:((pre++dT ag (l :: M)++post).map (Obj.frz pre.length ag l)).set pre.length .dead=(pre.map (Obj.frz pre.length ag l)++[.dead])++dT ag M++post.map (Obj.frz pre.length ag l):=by
   have e1:(dT ag (l :: M)).map (Obj.frz pre.length ag l)=.row ag l :: dT ag M:=by simp[dT,Obj.frz]
   rw[List.map_append,List.map_append,e1]
   simp only[List.append_assoc]
   rw[List.set_append_right _ _ (by simp)]
   simp
  rw[e]at h
  have ih:=uz (ag:=ag) M (s:=AV.frzs pre.length ag l s) (pre:=pre.map (Obj.frz pre.length ag l)++[.dead]) (post:=post.map (Obj.frz pre.length ag l)) (n0:=n0) (mv:=mv) (by simp;omega)
  refine Le.trans h (Le.trans ih ?_)
  have hl:(pre.map (Obj.frz pre.length ag l)++[Obj.dead]).length=pre.length+1:=by simp
  rw[hl]
  have f1:i6 ag (pre.length+1) M (AV.frzs pre.length ag l s)=i6 ag pre.length (l :: M) s:=by simp only[i6,mV,List.map_map];rfl
  have f2:∀q:List Obj,(q.map (Obj.frz pre.length ag l)).map (gD ag (pre.length+1) M)=q.map (gD ag pre.length (l :: M)):=fun q=>by
   rw[List.map_map]
   exact List.map_congr_left fun x _=>(zI ag pre.length l M x).symm
  have f3:List.map (gD ag (pre.length+1) M) (pre.map (Obj.frz pre.length ag l)++[.dead])=pre.map (gD ag pre.length (l :: M))++[.dead]:=by
   rw[List.map_append,f2];rfl
  rw[f1,f2,f3]
  have f4:[Obj.dead]++List.replicate M.length Obj.dead=List.replicate (l :: M).length .dead:=by simp[List.replicate_succ]
  rw[← f4,← List.append_assoc]
  exact Le.refl _
theorem dZ(ag:Option Nat):∀(M:List (List D)) (b:Nat) (v:AV),(∀o,b<=o->o<b+M.length->∀xs,v.frz o ag xs=v)->vu ag b M v=v
 | [],b,v,_=>rfl
 | l :: M,b,v,h=>by
  simp only[vu]
  rw[h b (Nat.le_refl _) (by simp) l]
  exact dZ ag M (b+1) v (fun o h1 h2=>h o (by omega) (by simp only[List.length_cons];omega))
theorem n5(ag:Option Nat)(M:List (List D))(b:Nat)(d:D):vu ag b M (.dat d)=.dat d:=dZ ag M b _ (fun _ _ _ _=>rfl)
theorem t8(ag:Option Nat)(M:List (List D))(b:Nat):vu ag b M .nils=.nils:=dZ ag M b _ (fun _ _ _ _=>rfl)
theorem x9(ag:Option Nat)(M:List (List D))(b:Nat):vu ag b M .top=.top:=dZ ag M b _ (fun _ _ _ _=>rfl)
theorem Gs(ag:Option Nat)(M:List (List D))(b:Nat){o i j:Nat}(h:o<b∨b+M.length<=o):vu ag b M (.ptr o i j)=.ptr o i j:=dZ ag M b _ (fun o' h1 h2 _=>by simp only[AV.frz];rw[if_neg (by omega)])
theorem E4(ag:Option Nat)(M:List (List D))(b:Nat){o i j:Nat}(h:o<b∨b+M.length<=o):vu ag b M (.sl o i j)=.sl o i j:=dZ ag M b _ (fun o' h1 h2 _=>by simp only[AV.frz];rw[if_neg (by omega)])
theorem AJ(ag:Option Nat):∀(M:List (List D)) (b i:Nat),i<M.length->vu ag b M (.sl (b+i) 0 (M.getD i []).length)=.dat (.sl ag (M.getD i []))
 | [],b,i,h=>by simp at h
 | l :: M,b,0,_=>by
  simp only[vu,AV.frz,Nat.add_zero,if_true,List.getD_cons_zero,Nat.zero_add,Nat.le_refl,List.drop_zero,List.take_length]
  exact n5 ag M (b+1) _
 | l :: M,b,i+1,h=>by
  have:=AJ ag M (b+1) i (by simpa using h)
  simp only[vu,AV.frz,List.getD_cons_succ]
  rw[if_neg (by omega),show b+(i+1)=b+1+i by omega]
  exact this
theorem A8(ag:Option Nat)(M:List (List D))(b:Nat):i6 ag b M (fv b M)=M.map (fun l=>.dat (.sl ag l)):=by
 apply List.ext_getElem?
 intro i
 simp only[i6,List.getElem?_map]
 by_cases h:i<M.length
 ·have h1:(fv b M)[i]?=some (.sl (b+i) 0 (M.getD i []).length):=by
   have:=sb b M i h
   rw[List.getD_eq_getElem?_getD]at this
   rw[List.getElem?_eq_getElem (by rw[cC];exact h)]at this ⊢
   simpa using this
  rw[h1]
  simp only[Option.map_some,AJ ag M b i h]
  simp[List.getElem?_eq_getElem h]
 ·rw[List.getElem?_eq_none (by rw[cC];omega),List.getElem?_eq_none (by omega)]
  rfl
theorem zw{s:List AV}{own:List Obj}{n0:Nat}{mv:List Nat}(o j:Nat){cs:List AV}(ho:own[o]?=some (.box cs))(hj:cs.getD j .top=.nils)(h0:n0<=own.length) :
  Le ⟨s,own,n0,mv⟩ ⟨s,own.set o (.box (cs.set j (.sl own.length 0 0)))++[.vec []],n0,mv⟩:=by
 rintro c a w ⟨hd,hn,F,φ,h2,h3,h4⟩
 let L:Loc:=⟨true,0,0,0,1⟩
 have gM:=dO h3 L
 have h4':=AV.Rs_mono (fun _ h=>h) (Same.refl F w) gM _ _ h4
 have h5:=h3.new (L:=L) (obj:=Obj.vec []) (Nat.le_refl _) (fun _ _=>rfl) (fun hn'=>by cases hn') (by simp only[ObjR];exact⟨rfl,.inl ⟨rfl,trivial⟩⟩)
 refine⟨hd,hn,F,ext φ own.length L,⟨h2.sub,h2.ext,fun o L' hlt hm h=>gM o L' (h2.keep o L' hlt hm h),h2.rest,fun o L' ho' hn'=>?_,h2.frsh⟩,?_,h4'⟩
 ·unfold ext at ho'
  split at ho'
  ·cases ho';cases hn'
  ·exact h2.orig o L' ho' hn'
 ·have pt:o<own.length:=by
   rcases Nat.lt_or_ge o own.length with h|h
   ·exact h
   ·rw[List.getElem?_eq_none h]at ho;cases ho
  refine⟨h5.fb,h5.live,h5.inj,fun o' obj ho'=>?_,fun o' ho'=>h5.out o' (by simpa using ho'),h5.glob⟩
  have dB:own.set o (.box (cs.set j (.sl own.length 0 0)))++[Obj.vec []]=(own++[Obj.vec []]).set o (Obj.box (cs.set j (.sl own.length 0 0))):=by rw[List.set_append_left _ _ pt]
  simp only at ho'
  rw[dB,List.getElem?_set]at ho'
  by_cases e:o=o'
  ·subst e
   simp only[if_true,List.length_append,List.length_cons,List.length_nil,show o<own.length+(0+1) by omega,Option.some.injEq]at ho'
   subst ho'
   have hr:=h5.rep o (.box cs) (by rw[List.getElem?_append_left pt];exact ho)
   cases hl:ext φ own.length L o with
   | none=>rw[hl]at hr;simp only[ObjR]at hr
   | some L' =>
    rw[hl]at hr
    simp only[ObjR]at hr ⊢
    obtain⟨q1,q2,arr,ty,q3,q4,q5⟩:=hr
    refine⟨q1,q2,arr,ty,q3,q4,?_⟩
    have jt:=AV.Rs_get (AV.Ra_iff.1 q5).1 j
    rw[hj]at jt
    have hv:=cR.1 jt
    have key:=AV.Ra_set q5 j (.sl own.length 0 0) (.slice none 0 0) rfl (by
     simp only[AV.R]
     exact⟨L,aM _ _ _,.inl ⟨rfl,by simp⟩⟩)
    have jM:arr.set j (.slice none 0 0)=arr:=by
     apply List.ext_getElem?
     intro k
     rw[List.getElem?_set]
     split
     ·rename_i hk
      subst hk
      split
      ·rename_i hlt
       rw[← hv]
       simp[List.getD_eq_getElem?_getD,List.getElem?_eq_getElem hlt]
      ·rename_i hge
       rw[List.getElem?_eq_none (by omega)]
     ·rfl
    rw[jM]at key
    exact key
  ·simp only[e,if_false]at ho'
   exact h5.rep o' obj ho'
theorem aH{P:Program}{fn:Func}{v:AV}{s:List AV}{own own':List Obj}{n0:Nat}{mv mv' mvP:List Nat}{e:Exit}(he:e=.ret∨e=.normal)(rs:List ResultVar)(hrs:fn.results.toList=rs)(hm:∀o,o∈mv'->o∈mvP)
  (h:s6 P rs ⟨s,own,n0,mv⟩ (fun vs=>Le ⟨[wc vs],own,n0,mv⟩ ⟨[v],own',n0,mv'⟩)):post P fn v own' mvP e ⟨s,own,n0,mv⟩:=by
 refine⟨by rcases he with rfl|rfl <;> trivial,?_⟩
 rw[hrs]
 have key:∀(rs:List ResultVar) (K K':List AV->Prop),(∀vs,K vs->K' vs)->s6 P rs ⟨s,own,n0,mv⟩ K->s6 P rs ⟨s,own,n0,mv⟩ K':=by
  intro rs
  induction rs with
  | nil=>intro K K' hk h;exact hk _ h
  | cons r rs ih =>
   intro K K' hk h
   cases r with
   | tmp t=>simp only[s6]at h ⊢;exact ih _ _ (fun vs hv=>hk _ hv) h
   | cell a t =>
    simp only[s6]at h ⊢
    obtain⟨v,hv,cO⟩:=nF _ _ _ h
    exact cO _ (ih _ _ (fun vs hv=>hk _ hv) hv)
 exact key rs _ _ (fun vs hv=>⟨mv',hv,hm⟩) h
def GP:List Nat->Nat->Bool
 | [],_=>false
 | k :: ks,i=>decide (i=k) || GP ks i
def jQ(ks:List Nat)(P:Program)(Γ:Nat->a8):Code->(Exit->S->Prop)->S->Prop
 | .skip,Q,σ=>Q .normal σ
 | .region id ops draw,Q,σ=>if draw then sem P (.region id ops true) Q σ else (match GP ks id with|true=>sem P (.region id ops draw) Q σ|false=>f5 P Γ ops Q ops.toList σ)
 | .seq a b,Q,σ=>jQ ks P Γ a (fun e s=>match e with|.normal=>jQ ks P Γ b Q s|e=>Q e s) σ
 | .cond c x y,Q,σ=>ov (ev σ.slots c) (jQ ks P Γ x Q σ) (jQ ks P Γ y Q σ)
 | .block id body,Q,σ=>jQ ks P Γ body (fun e s=>match e with|.exit i=>if i=id then Q .normal s else Q (.exit i) s|e=>Q e s) σ
 | .exit id,Q,σ=>Q (.exit id) σ
 | .ret,Q,σ=>Q .ret σ
 | .loop b,Q,σ=>sem P (.loop b) Q σ
 | .rangeFunc f ps as b,Q,σ=>sem P (.rangeFunc f ps as b) Q σ
 | .scope b,Q,σ=>sem P (.scope b) Q σ
 | .label l,Q,σ=>Q .normal σ
 | .goto l,Q,σ=>Q (.goto l) σ
 | .refuse _,_,_=>False
def fc(ks:List Nat)(P:Program)(Γ:Nat->a8)(b:Code)(Q:Exit->S->Prop):Exit->S->Prop:=fun e s=>match e with|.normal=>jQ ks P Γ b Q s|e=>Q e s
def Cb(ks:List Nat)(P:Program)(Γ:Nat->a8)(v:AV)(a b:Code)(Q:Exit->S->Prop)(σ:S):Prop:=ov v (jQ ks P Γ a Q σ) (jQ ks P Γ b Q σ)
def Uz(c:Bool)(P:Program)(Γ:Nat->a8)(id:Nat)(ops:Array Oper)(Q:Exit->S->Prop)(σ:S):Prop:=match c with|true=>sem P (.region id ops false) Q σ|false=>f5 P Γ ops Q ops.toList σ
section
variable {P:Program} {Γ:Nat->a8} {ks:List Nat} {Q:Exit->S->Prop} {σ:S}
theorem al(ks:List Nat)(hΓ:OkG P Γ):∀(code:Code) (Q:Exit->S->Prop) (σ:S),jQ ks P Γ code Q σ->sem P code Q σ
 | .skip,Q,σ,h=>fun c a w hst=>wpIn_skip (bn hst h)
 | .region id ops draw,Q,σ,h=>by
  simp only[jQ]at h
  split at h
  ·rename_i hd;subst hd;exact h
  ·rename_i hd
   have:draw=false:=by simpa using hd
   subst this
   split at h
   ·exact h
   ·exact fun c a w hst=>wpIn_region_list (ez hΓ ops.toList σ a w hst h)
 | .seq x y,Q,σ,h=>by
  intro c a w hst
  simp only[jQ]at h
  refine wpIn_seq (wpIn_mono (al ks hΓ x _ σ h c a w hst) ?_)
  rintro e a' w' ⟨c',σ',hx,bA,hq⟩
  cases e with
  | normal=>exact sh (al ks hΓ y Q σ' hq) hx bA
  | _=>exact⟨c',σ',hx,bA,hq⟩
 | .cond x y z,Q,σ,h=>by
  intro c a w hst
  simp only[jQ]at h
  unfold ov at h
  split at h
  ·rename_i b hb
   have bA:=hst
   obtain⟨hd,hn,F,φ,h2,h3,h4⟩:=bA
   have hv:=eX (F:=F) (φ:=φ) (w:=w) h3.glob h4 x
   rw[hb]at hv
   exact wpIn_cond_split (bB.1 hv) (fun hb=>al ks hΓ y Q σ (h.1 hb) c a w hst) (fun hb=>al ks hΓ z Q σ (h.2 hb) c a w hst)
  ·exact h.elim
 | .block id body,Q,σ,h=>by
  intro c a w hst
  simp only[jQ]at h
  refine wpIn_block (wpIn_mono (al ks hΓ body _ σ h c a w hst) ?_)
  rintro e a' w' ⟨c',σ',hx,bA,hq⟩
  cases e with
  | exit i =>
   simp only[Exit.inBlock]
   split
   ·rename_i hi;simp only[hi,if_true]at hq;exact⟨c',σ',hx,bA,hq⟩
   ·rename_i hi;simp only[hi,if_false]at hq;exact⟨c',σ',hx,bA,hq⟩
  | _=>exact⟨c',σ',hx,bA,hq⟩
 | .exit id,Q,σ,h=>fun c a w hst=>wpIn_exit (bn hst h)
 | .ret,Q,σ,h=>fun c a w hst=>wpIn_ret (bn hst h)
 | .loop b,Q,σ,h=>h
 | .rangeFunc _ _ _ _,Q,σ,h=>h
 | .scope _,Q,σ,h=>h
 | .label _,Q,σ,h=>fun c a w hst=>wpIn_label (bn hst h)
 | .goto _,Q,σ,h=>fun c a w hst=>wpIn_goto (bn hst h)
 | .refuse _,Q,σ,h=>h.elim
@[go_sem] theorem QQ:jQ ks P Γ .skip Q σ=Q .normal σ:=Eq.trans rfl rfl
@[go_sem] theorem Kk {id:Nat} {ops:List Oper}:jQ ks P Γ (.region id ops.toArray false) Q σ=Uz (GP ks id) P Γ id ops.toArray Q σ:=by simp only[jQ,Uz,Bool.false_eq_true,if_false]
@[go_sem] theorem QF {id:Nat} {ops:Array Oper}:jQ ks P Γ (.region id ops true) Q σ=sem P (.region id ops true) Q σ:=by simp only[jQ,if_true]
@[go_sem] theorem Pl {id:Nat} {ops:Array Oper}:Uz true P Γ id ops Q σ=sem P (.region id ops false) Q σ:=Eq.trans rfl rfl
@[go_sem] theorem Ng {id:Nat} {ops:List Oper}:Uz false P Γ id ops.toArray Q σ=f5 P Γ ops.toArray Q ops σ:=Eq.trans rfl rfl
@[go_sem] theorem Su {i:Nat}:GP [] i=false:=Eq.trans rfl rfl
@[go_sem] theorem RD {i:Nat}:GP (i :: ks) i=true:=by simp[GP]
@[go_sem] theorem NI {i k:Nat} (h:i≠k):GP (k :: ks) i=GP ks i:=by simp[GP,h]
@[go_sem] theorem TG {a b:Code}:jQ ks P Γ (.seq a b) Q σ=jQ ks P Γ a (fc ks P Γ b Q) σ:=Eq.trans rfl rfl
@[go_sem] theorem Re {x:Operand} {a b:Code}:jQ ks P Γ (.cond x a b) Q σ=Cb ks P Γ (ev σ.slots x) a b Q σ:=Eq.trans rfl rfl
@[go_sem] theorem O7 {a b:Code}:Cb ks P Γ (.dat (.bool true)) a b Q σ=jQ ks P Γ a Q σ:=by simp[Cb,ov]
@[go_sem] theorem Kf {a b:Code}:Cb ks P Γ (.dat (.bool false)) a b Q σ=jQ ks P Γ b Q σ:=by simp[Cb,ov]
@[go_sem] theorem MU {id:Nat} {b:Code}:jQ ks P Γ (.block id b) Q σ=jQ ks P Γ b (t7 id Q) σ:=Eq.trans rfl rfl
@[go_sem] theorem Rx {id:Nat}:jQ ks P Γ (.exit id) Q σ=Q (.exit id) σ:=Eq.trans rfl rfl
@[go_sem] theorem SL:jQ ks P Γ .ret Q σ=Q .ret σ:=Eq.trans rfl rfl
@[go_sem] theorem PP {b:Code}:jQ ks P Γ (.loop b) Q σ=sem P (.loop b) Q σ:=Eq.trans rfl rfl
@[go_sem] theorem iL {b:Code} {s:S}:fc ks P Γ b Q .normal s=jQ ks P Γ b Q s:=Eq.trans rfl rfl
@[go_sem] theorem GT {b:Code} {s:S} {i:Nat}:fc ks P Γ b Q (.exit i) s=Q (.exit i) s:=Eq.trans rfl rfl
@[go_sem] theorem Jl {b:Code} {s:S}:fc ks P Γ b Q .ret s=Q .ret s:=Eq.trans rfl rfl
end
section
variable {P:Program} {t:TypeId} {K:AV->Prop}
@[go_sem] theorem U9 {a b:Bool}:aL P .eql t (.dat (.bool a)) (.dat (.bool b)) K=(fY (aw P t) (.dat (.bool a))=true/\K (.dat (.bool (a == b)))):=rfl
@[go_sem] theorem UL {a b:Bool}:aL P .neq t (.dat (.bool a)) (.dat (.bool b)) K=(fY (aw P t) (.dat (.bool a))=true/\K (.dat (.bool (!(a == b))))):=rfl
@[go_sem] theorem Tx {a b:List UInt8}:aL P .eql t (.dat (.str a)) (.dat (.str b)) K=K (.dat (.bool (decide (a=b)))):=by simp[aL,jm,fY,jB]
@[go_sem] theorem Tm {a b:List UInt8}:aL P .neq t (.dat (.str a)) (.dat (.str b)) K=K (.dat (.bool (!decide (a=b)))):=by simp[aL,jm,fY,jB]
@[go_sem] theorem UG {a b:List UInt8}:aL P .add t (.dat (.str a)) (.dat (.str b)) K=(a.length+b.length<=maxLen/\K (.dat (.str (a++b)))):=by simp[aL,jm,fY,jB]
@[go_sem] theorem N9 {τ:Ty} {a:Bool}:fY (some τ) (.dat (.bool a))=(match τ.desc with|.bool=>true|_=>false):=rfl
@[go_sem] theorem Z3:(true == true)=true:=rfl
@[go_sem] theorem aab:(false == false)=true:=rfl
@[go_sem] theorem Zm:(true == false)=false:=rfl
@[go_sem] theorem Z4:(false == true)=false:=rfl
end
def pH(o:Oper):Bool :=
 match o.op,o.guard with
 | .call c,none=>(match c.callee with|.builtin .append=>true|_=>false)
 | _,_=>false
def E1(o:Oper):Bool :=
 match o.op,o.guard with
 | .buildSlice _ _ _,none=>true
 | _,_=>false
def isQ(o:Oper):Bool :=
 match o.op,o.guard with
 | .move _,none|.assign _,none|.load _ _,none|.fieldAddr _ _ _,none|.indexAddr _ _ _,none|.nilCheck _,none=>true
 | _,_=>false
def dD(ko:Nat)(o:Oper)(s:List AV):Prop :=
 match o.op with
 | .call c=>(match c.args.toList with|[x,_]=>(match ev s x with|.sl o' _ _=>o'=ko|_=>False)|_=>False)
 | .load _ x=>(match ev s x with|.ptr o' _ _=>o'≠ko|.rptr _ _=>True|_=>False)
 | .fieldAddr _ x _=>(match ev s x with|.ptr o' _ _=>o'≠ko|.rptr _ _=>True|_=>False)
 | .indexAddr _ x i=>(match ev s x with|.ptr o' _ _=>o'≠ko|.sl o' _ _=>o'≠ko|.dat _=>True|_=>False)/\(match ev s i with|.dat _=>True|_=>False)
 | .move _=>True
 | .assign _=>True
 | .nilCheck x=>(match ev s x with|.ptr o' _ _=>o'≠ko|.rptr _ _=>True|_=>False)
 | _=>False
section
variable {P:Program} {Γ:Nat->a8} {own:List Obj} {ko:Nat}
def opk(P:Program)(Γ:Nat->a8)(all:Array Oper)(ko:Nat)(m:Bool)(o:Oper)(K:S->Prop)(σ:S):Prop:=(m=true->dD ko o σ.slots)/\opg P Γ all o K σ
theorem db(o:Nat):∀s:List AV,AV.kills o s=s.map (AV.kill o)
 | []=>rfl
 | a :: s=>by simp only[AV.kills,List.map_cons,db o s]
theorem gH(o:Nat)(s:List AV)(i:Nat):(AV.kills o s).getD i .top=(s.getD i .top).kill o:=by
 rw[db]
 simp only[List.getD_eq_getElem?_getD,List.getElem?_map]
 cases s[i]? <;> rfl
theorem kx(o:Nat)(s:List AV)(i:Nat)(v:AV):AV.kills o (s.set i v)=(AV.kills o s).set i (v.kill o):=by
 rw[db,db,List.map_set]
theorem kM(o:Nat)(v:Value):(br v).kill o=br v:=by
 unfold br;split <;> first|rfl|(split <;> rfl)
theorem uE(o:Nat)(v:Value):(fx v).kill o=fx v:=by
 unfold fx
 split
 ·split
  ·simp only[AV.kill,db,List.map_map]
   congr 1
   exact List.map_congr_left fun x _=>kM o x
  ·rfl
 ·exact kM o _
theorem bM(o:Nat)(s:List AV)(x:Operand):ev (AV.kills o s) x=(ev s x).kill o:=by
 cases x with
 | tmp t=>exact gH o s t
 | const v=>exact(uE o v).symm
 | func f=>rfl
 | global g=>simp only[ev,BH];split <;> rfl
theorem iB{o':Nat}{obj':Obj}(h:o'≠ko):((own.map (Obj.kill ko)).set ko obj').getD o' .dead=(own.getD o' .dead).kill ko:=by
 have h':¬ko=o':=fun e=>h e.symm
 simp only[List.getD_eq_getElem?_getD,List.getElem?_set,h',if_false,List.getElem?_map]
 cases own[o']? <;> rfl
theorem vb{τ:Ty}{obj:Obj}{i j:Nat}{k:AV->Prop}(h:bO τ obj i j k):bO τ (obj.kill ko) i j (fun v'=>∃v,v'=v.kill ko/\k v):=by
 unfold bO at h
 split at h
 ·unfold bO
  simp only[Obj.kill]
  split at h
  ·rename_i ha;rw[if_pos ha];exact⟨h.1,h.2.1,h.2.2.1,_,rfl,h.2.2.2⟩
  ·rename_i ha;rw[if_neg ha];exact⟨h.1,h.2.1,_,rfl,h.2.2⟩
 ·unfold bO
  simp only[Obj.kill]
  exact⟨h.1,h.2.1,_,rfl,h.2.2⟩
 ·unfold bO
  simp only[Obj.kill]
  refine⟨h.1,h.2.1,by rw[db,List.length_map];exact h.2.2.1,_,?_,h.2.2.2⟩
  exact gH _ _ _
 ·unfold bO
  simp only[Obj.kill]
  split at h
  ·rename_i ha;rw[if_pos ha]
   refine⟨by rw[db,List.length_map];exact h.1,_,?_,h.2⟩
   simp only[AV.kill,db,List.map_drop,List.map_take]
  ·rename_i ha;rw[if_neg ha]
   refine⟨by rw[db,List.length_map];exact h.1,_,?_,h.2⟩
   exact gH _ _ _
 ·unfold bO
  simp only[Obj.kill]
  refine⟨h.1,h.2.1,h.2.2.1,by rw[db,List.length_map];exact h.2.2.2.1,_,?_,h.2.2.2.2⟩
  exact gH _ _ _
 ·unfold bO
  simp only[Obj.kill]
  refine⟨h.1,?_⟩
  obtain⟨_,h⟩:=h
  split at h
  ·rename_i ha;rw[if_pos ha]
   refine⟨by rw[db,List.length_map];exact h.1,_,?_,h.2⟩
   simp only[AV.kill,db,List.map_drop,List.map_take]
  ·rename_i ha;rw[if_neg ha]
   refine⟨by rw[db,List.length_map];exact h.1,_,?_,h.2⟩
   exact gH _ _ _
 ·exact h.elim
theorem sA{o:Oper}(hq:isQ o=true){s:List AV}{obj':Obj}{k:AV->Prop}(hc:dD ko o s)(h:vop P own s o.op k) :
  vop P ((own.map (Obj.kill ko)).set ko obj') (AV.kills ko s) o.op (fun v'=>∃v,v'=v.kill ko/\k v):=by
 unfold isQ at hq
 unfold dD at hc
 split at hq
 ·rename_i x hop _
  rw[hop]at h ⊢
  simp only[vop]at h ⊢
  exact⟨_,bM _ _ _,h⟩
 ·rename_i x hop _
  rw[hop]at h ⊢
  simp only[vop]at h ⊢
  exact⟨_,bM _ _ _,h⟩
 ·rename_i t x hop _
  rw[hop]at h hc ⊢
  simp only[vop]at h hc ⊢
  rw[bM]
  cases hx:ev s x <;> rw[hx]at hc h <;> simp only at hc
  ·rename_i o' i j
   simp only[AV.kill,hc,if_false]
   unfold ky at h ⊢
   split at h
   ·rename_i τ o2 i2 j2 hτ hp
    cases hp
    rw[iB hc]
    exact vb h
   ·rename_i hp;cases hp
   ·exact h.elim
  ·simp only[AV.kill]
   unfold ky at h ⊢
   split at h
   ·rename_i hp;cases hp
   ·rename_i hp;cases hp
    exact⟨h.1,_,rfl,h.2⟩
   ·exact h.elim
 ·rename_i t x f hop _
  rw[hop]at h hc ⊢
  simp only[vop]at h hc ⊢
  rw[bM]
  cases hx:ev s x <;> rw[hx]at hc h <;> simp only at hc
  ·rename_i o' i j
   simp only[AV.kill,hc,if_false]
   unfold bR at h ⊢
   split at h
   ·rename_i hf hp
    cases hp
    exact⟨_,by simp only[AV.kill,hc,if_false],h⟩
   ·rename_i hp;cases hp
   ·exact h.elim
  ·simp only[AV.kill]
   unfold bR at h ⊢
   split at h
   ·rename_i hp;cases hp
   ·rename_i hf hp
    cases hp
    exact⟨h.1,_,rfl,h.2⟩
   ·exact h.elim
 ·rename_i t x i hop _
  rw[hop]at h hc ⊢
  simp only[vop]at h hc ⊢
  rw[bM,bM]
  obtain⟨hc,hi⟩:=hc
  cases hy:ev s i <;> rw[hy]at hi <;> simp only at hi
  rename_i di
  rw[hy]at h
  simp only[AV.kill]
  cases hx:ev s x <;> rw[hx]at hc h <;> simp only at hc
  ·simp only[AV.kill]
   unfold bE at h ⊢
   split at h
   ·rename_i hp _;cases hp
   ·rename_i τ ag xs k' n hτ hp hn
    cases hp;cases hn
    simp only at h ⊢
    split at h
    ·split at h
     ·exact⟨h.1,h.2.1,h.2.2.1,_,rfl,h.2.2.2⟩
     ·exact h.elim
    ·exact h.elim
   ·rename_i hp _;cases hp
   ·rename_i hp _;cases hp
   ·exact h.elim
  ·rename_i o' off len
   simp only[AV.kill,hc,if_false]
   unfold bE at h ⊢
   split at h
   ·rename_i τ o2 off2 len2 k' n hτ hp hn
    cases hp;cases hn
    simp only at h ⊢
    split at h
    ·split at h
     ·obtain⟨h1,h2,h3,h4⟩:=h
      refine⟨h1,h2,?_,_,?_,h4⟩
      ·rw[iB hc]
       rcases h3 with⟨ag,xs,e1,e2⟩|⟨cs,e1,e2⟩|⟨k9,cs,e1,e2⟩
       ·exact .inl ⟨ag,xs,by rw[e1];rfl,e2⟩
       ·exact .inr (.inl ⟨AV.kills ko cs,by rw[e1];rfl,e2⟩)
       ·exact .inr (.inr ⟨k9,AV.kills ko cs,by rw[e1];rfl,e2⟩)
      ·simp only[AV.kill,hc,if_false]
     ·exact h.elim
    ·exact h.elim
   ·rename_i hp _;cases hp
   ·rename_i hp _;cases hp
   ·rename_i hp _;cases hp
   ·exact h.elim
  ·rename_i o' i0 j0
   simp only[AV.kill,hc,if_false]
   unfold bE at h ⊢
   split at h
   ·rename_i hp _;cases hp
   ·rename_i hp _;cases hp
   ·rename_i τ o2 off2 len2 k' n hτ hp hn
    cases hp;cases hn
    simp only at h ⊢
    split at h
    ·split at h
     ·obtain⟨h1,h2,h3⟩:=h
      refine⟨h1,h2,?_⟩
      rw[iB hc]
      split at h3
      ·rename_i e1;rw[e1];simp only[Obj.kill]
       exact⟨h3.1,h3.2.1,h3.2.2.1,_,by simp only[AV.kill,hc,if_false],h3.2.2.2⟩
      ·rename_i e1;rw[e1];simp only[Obj.kill]
       exact⟨_,by simp only[AV.kill,hc,if_false],h3⟩
      ·rename_i e1;rw[e1];simp only[Obj.kill]
       exact⟨_,by simp only[AV.kill,hc,if_false],h3⟩
      ·exact h3.elim
     ·exact h.elim
    ·exact h.elim
   ·rename_i hp _;cases hp
   ·exact h.elim
 ·rename_i x hop _
  rw[hop]at h hc ⊢
  simp only[vop]at h hc ⊢
  rw[bM]
  cases hx:ev s x <;> rw[hx]at hc h <;> simp only at hc
  ·simp only[AV.kill,hc,if_false]
   simp only[Ll]at h ⊢
   exact⟨_,by simp only[AV.kill,hc,if_false],h⟩
  ·simp only[AV.kill]
   simp only[Ll]at h ⊢
   exact⟨_,rfl,h⟩
 ·cases hq
theorem nP{o:Oper}(hq:isQ o=true){s:List AV}(hc:dD ko o s):dD ko o (AV.kills ko s):=by
 unfold isQ at hq
 unfold dD at hc ⊢
 split at hq
 ·rename_i x hop _;rw[hop];trivial
 ·rename_i x hop _;rw[hop];trivial
 ·rename_i t x hop _
  rw[hop]at hc ⊢
  simp only at hc ⊢
  rw[bM]
  cases hx:ev s x <;> rw[hx]at hc <;> simp only at hc
  ·simp only[AV.kill,hc,if_false];exact hc
  ·trivial
 ·rename_i t x f hop _
  rw[hop]at hc ⊢
  simp only at hc ⊢
  rw[bM]
  cases hx:ev s x <;> rw[hx]at hc <;> simp only at hc
  ·simp only[AV.kill,hc,if_false];exact hc
  ·trivial
 ·rename_i t x i hop _
  rw[hop]at hc ⊢
  simp only at hc ⊢
  rw[bM,bM]
  obtain⟨hc,hi⟩:=hc
  refine⟨?_,?_⟩
  ·cases hx:ev s x <;> rw[hx]at hc <;> simp only at hc
   ·trivial
   ·simp only[AV.kill,hc,if_false];exact hc
   ·simp only[AV.kill,hc,if_false];exact hc
  ·cases hy:ev s i <;> rw[hy]at hi <;> simp only at hi
   trivial
 ·rename_i x hop _
  rw[hop]at hc ⊢
  simp only at hc ⊢
  rw[bM]
  cases hx:ev s x <;> rw[hx]at hc <;> simp only at hc
  ·simp only[AV.kill,hc,if_false];exact hc
  ·trivial
 ·cases hq
theorem wu{τ:Option Ty}{off len:Nat}{y:AV}{K:AV->List Obj->List Nat->Prop}(h:eS P τ own (.sl ko off len) y K) :
  ∃v obj',K v ((own.map (Obj.kill ko)).set ko obj') [ko]/\∀K':AV->List Obj->List Nat->Prop,K' v ((own.map (Obj.kill ko)).set ko obj') [ko]->eS P τ own (.sl ko off len) y K':=by
 unfold eS at h ⊢
 simp only at h ⊢
 split at h
 ·unfold jb at h ⊢
  split at h
  ·split at h
   ·split at h
    ·obtain⟨h1,h2,h3,h4,h5,h6⟩:=h
     rename_i cs b9 _ _ _ _ _ _ _ _ _ _
     exact⟨_,_,h6,fun K' hK'=>⟨h1,h2,h3,h4,h5,hK'⟩⟩
    ·exact h.elim
   ·exact h.elim
  ·exact h.elim
 ·unfold jd at h ⊢
  split at h
  ·split at h
   ·split at h
    ·obtain⟨h1,h2,h3,h4,h5,h6,h7,h8⟩:=h
     exact⟨_,_,h8,fun K' hK'=>⟨h1,h2,h3,h4,h5,h6,h7,hK'⟩⟩
    ·exact h.elim
   ·exact h.elim
  ·exact h.elim
 ·unfold dJ at h ⊢
  split at h
  ·split at h
   ·split at h
    ·obtain⟨h1,h2,h3,h4,h5⟩:=h
     simp only at h5
     split at h5
     ·rename_i ag xs b9
      obtain⟨g1,g2,g3,g4,g5⟩:=h5
      exact⟨_,_,g5,fun K' hK'=>⟨h1,h2,h3,h4,by simp only[b9];exact⟨g1,g2,g3,g4,hK'⟩⟩⟩
     ·exact h5.elim
    ·exact h.elim
   ·exact h.elim
  ·exact h.elim
theorem uR{τ:Option Ty}{off len:Nat}{s:List UInt8}{K:AV->List Obj->List Nat->Prop}(h:dI P τ own (.sl ko off len) s K) :
  ∃v obj',K v ((own.map (Obj.kill ko)).set ko obj') [ko]/\∀K':AV->List Obj->List Nat->Prop,K' v ((own.map (Obj.kill ko)).set ko obj') [ko]->dI P τ own (.sl ko off len) s K':=by
 unfold dI at h ⊢
 split at h
 ·split at h
  ·split at h
   ·obtain⟨h1,h2,h3,h5⟩:=h
    simp only at h5
    split at h5
    ·rename_i ag xs b9
     obtain⟨g1,g2,g3,g4,g5⟩:=h5
     exact⟨_,_,g5,fun K' hK'=>⟨h1,h2,h3,by simp only[b9];exact⟨g1,g2,g3,g4,hK'⟩⟩⟩
    ·exact h5.elim
   ·exact h.elim
  ·exact h.elim
 ·exact h.elim
theorem nC{t t':TypeId}{off len:Nat}{y:AV}{K:AV->List Obj->List Nat->Prop}(h:iy P own t t' (.sl ko off len) y K) :
  ∃v obj',K v ((own.map (Obj.kill ko)).set ko obj') [ko]/\∀K':AV->List Obj->List Nat->Prop,K' v ((own.map (Obj.kill ko)).set ko obj') [ko]->iy P own t t' (.sl ko off len) y K':=by
 unfold iy at h ⊢
 split at h
 ·rename_i e
  obtain⟨v,obj',h1,h2⟩:=wu h
  exact⟨v,obj',h1,fun K' hK'=>by rw[if_pos e];exact h2 K' hK'⟩
 ·rename_i e
  split at h
  ·rename_i hτ'
   obtain⟨v,obj',h1,h2⟩:=uR h.2
   exact⟨v,obj',h1,fun K' hK'=>by rw[if_neg e];exact⟨h.1,h2 K' hK'⟩⟩
  ·exact h.elim
theorem Mu{o:Oper}(hm:pH o=true){K:S->Prop}{σ:S}{all:Array Oper}(hc:dD ko o σ.slots)(h:opg P Γ all o K σ) :
  ∃v obj',K (σ.effect o.dst v ((σ.own.map (Obj.kill ko)).set ko obj') [ko]) /\
   ∀(K':S->Prop) (σ':S),σ'.own=σ.own->(∀x∈o.op.operands.toList,ev σ'.slots x=ev σ.slots x)->K' (σ'.effect o.dst v ((σ.own.map (Obj.kill ko)).set ko obj') [ko])->opg P Γ all o K' σ':=by
 unfold pH at hm
 split at hm
 ·rename_i c hop hg
  split at hm
  ·rename_i lX
   unfold dD at hc
   rw[hop]at hc
   simp only at hc
   split at hc
   ·rename_i x y c5
    have e:∀(K:S->Prop) (σ:S),opg P Γ all o K σ=(match c.argTypes.toList with|[t,t']=>iy P σ.own t t' (ev σ.slots x) (ev σ.slots y) (gb o.dst K σ)|_=>False):=fun K σ=>by
     unfold opg
     rw[hg]
     simp only
     unfold opw
     rw[hop]
     simp only[isV,lX,eop,Bool.false_eq_true,if_false,rg,c5]
     split <;> simp_all
    rw[e]at h
    split at h
    ·rename_i t t' hts
     split at hc
     ·rename_i o' off len hx
      subst hc
      rw[hx]at h
      obtain⟨v,obj',h1,h2⟩:=nC h
      refine⟨v,obj',h1,fun K' σ' ho hxs hK'=>?_⟩
      have mem:∀z∈c.args.toList,z∈o.op.operands.toList:=fun z hz=>by
       rw[hop]
       simp[Op.operands,Call.operands,lX,hz]
      rw[e,hts]
      simp only
      rw[ho,hxs x (mem x (by rw[c5];simp)),hxs y (mem y (by rw[c5];simp)),hx]
      exact h2 _ hK'
     ·exact hc.elim
    ·exact h.elim
   ·exact hc.elim
  ·cases hm
 ·cases hm
theorem wd{o:Oper}(hm:E1 o=true){K:S->Prop}{σ:S}{all:Array Oper}(h:opg P Γ all o K σ) :
  ∃v ex,K (σ.effect o.dst v (σ.own++ex) [])/\Eff P Γ all o σ v (σ.own++ex):=by
 unfold E1 at hm
 split at hm
 ·rename_i t len parts hop hg
  have e:∀(K:S->Prop) (σ:S),opg P Γ all o K σ=cP P (aw P t) σ.own len (parts.toList.map fun p=>(p.1,ev σ.slots p.2)) (gb o.dst K σ):=fun K σ=>by
   unfold opg
   rw[hg]
   simp only
   unfold opw
   simp only[hop,isV,Bool.false_eq_true,if_false,eop]
  rw[e]at h
  have key:∃v obj,gb o.dst K σ v (σ.own++[obj]) []/\∀K':AV->List Obj->List Nat->Prop,K' v (σ.own++[obj]) []->cP P (aw P t) σ.own len (parts.toList.map fun p=>(p.1,ev σ.slots p.2)) K':=by
   unfold cP at h ⊢
   split at h
   ·split at h
    ·split at h
     ·obtain⟨h1,h2,h3,h4,h5,h6,h7⟩:=h
      exact⟨_,_,h7,fun K' hK'=>⟨h1,h2,h3,h4,h5,h6,hK'⟩⟩
     ·split at h
      ·obtain⟨h1,h2,h3,h4,h5⟩:=h
       exact⟨_,_,h5,fun K' hK'=>⟨h1,h2,h3,h4,hK'⟩⟩
      ·split at h
       ·obtain⟨h1,h2,h3,h4,h5,h6⟩:=h
        exact⟨_,_,h6,fun K' hK'=>⟨h1,h2,h3,h4,h5,hK'⟩⟩
       ·exact h.elim
     ·exact h.elim
    ·exact h.elim
   ·exact h.elim
  obtain⟨v,obj,h1,h2⟩:=key
  refine⟨v,[obj],h1,fun K' σ' ho hxs hK'=>?_⟩
  have ea:(parts.toList.map fun p=>(p.1,ev σ'.slots p.2))=parts.toList.map fun p=>(p.1,ev σ.slots p.2):=by
   refine List.map_congr_left fun p hp=>?_
   rw[hxs p.2 (by rw[hop];simp only[Op.operands];simp only[Array.toList_map,List.mem_map];exact⟨p,hp,rfl⟩)]
  rw[e,ea,ho]
  exact h2 _ hK'
 ·cases hm
theorem d5{o:Oper}{s s':List AV}(h:∀x∈o.op.operands.toList,ev s' x=ev s x)(hc:dD ko o s):dD ko o s':=by
 unfold dD at hc ⊢
 split
 ·rename_i c hop
  rw[hop]at hc h
  simp only at hc
  split at hc
  ·rename_i x y c5
   rw[h x (by simp[Op.operands,Call.operands,c5])]
   exact hc
  ·exact hc.elim
 ·rename_i t x hop
  rw[hop]at hc h
  simp only at hc
  rw[h x (by simp[Op.operands])]
  exact hc
 ·rename_i t x f hop
  rw[hop]at hc h
  simp only at hc
  rw[h x (by simp[Op.operands])]
  exact hc
 ·rename_i t x i hop
  rw[hop]at hc h
  simp only at hc
  rw[h x (by simp[Op.operands]),h i (by simp[Op.operands])]
  exact hc
 ·trivial
 ·trivial
 ·rename_i x hop
  rw[hop]at hc h
  simp only at hc
  rw[h x (by simp[Op.operands])]
  exact hc
 ·rename_i h1 h2 h3 h4 h5 h6 h7
  split at hc
  ·rename_i hop;exact(h1 _ hop).elim
  ·rename_i hop;exact(h2 _ _ hop).elim
  ·rename_i hop;exact(h3 _ _ _ hop).elim
  ·rename_i hop;exact(h4 _ _ _ hop).elim
  ·rename_i hop;exact(h5 _ hop).elim
  ·rename_i hop;exact(h6 _ hop).elim
  ·rename_i hop;exact(h7 _ hop).elim
  ·exact hc
theorem H2{pf:List Nat}(hpf:aQ Γ pf){all:Array Oper}{p i:Oper}(hp:be pf p=true)(hi:be pf i=true)(hap:p.apart all i=true){mp mi:Bool}{K:S->Prop}{σ:S}
  (h:opk P Γ all ko mp p (opk P Γ all ko mi i K) σ):opk P Γ all ko mi i (opk P Γ all ko mp p K) σ:=by
 obtain⟨h1,h2,h3⟩:=Oper.apart_spec hap
 obtain⟨cp,h⟩:=h
 rw[cm hpf hp]at h
 obtain⟨vp,⟨ci,hk⟩,hyp⟩:=fW pf all p σ.slots σ.own _ h
 rw[cm hpf hi,gI h1]at hk
 obtain⟨vi,hk2,hyi⟩:=fW pf all i σ.slots σ.own _ hk
 have sameOps:∀(a b:Oper) (v:AV),(∀d,a.dst=some d->d∉b.looksAt all)->∀x∈b.op.operands.toList,ev (σ.put a.dst v).slots x=ev σ.slots x:=fun a b v hab x hx=>by
  cases hd:a.dst with
  | none=>rfl
  | some d =>
   simp only[S.put]
   rw[fR (fun e=>hab d hd (cK (e ▸ hx)))]
 refine⟨fun hm=>d5 (fun x hx=>(sameOps p i vp h1 x hx).symm) (ci hm),?_⟩
 rw[cm hpf hi]
 refine hyi _ ⟨fun hm=>d5 (sameOps i p vi h3) (cp hm),?_⟩
 rw[cm hpf hp,gI h3]
 refine hyp _ ?_
 rw[← ff σ vp vi h2]
 exact hk2
theorem Ga{pf:List Nat}(hpf:aQ Γ pf){all:Array Oper}{p i:Oper}(hp:isV p.op=true)(hap:p.apart all i=true){mp mi:Bool}{K:S->Prop}{σ:S}
  (hi:∀(K:S->Prop) (σ':S),opg P Γ all i K σ'->∃v ex,K (σ'.effect i.dst v (σ'.own++ex) [])/\Eff P Γ all i σ' v (σ'.own++ex))
  (h:opk P Γ all ko mp p (opk P Γ all ko mi i K) σ):opk P Γ all ko mi i (opk P Γ all ko mp p K) σ:=by
 obtain⟨h1,h2,h3⟩:=Oper.apart_spec hap
 obtain⟨cp,h⟩:=h
 have hpv:be pf p=true:=by simp[be,hp]
 rw[cm hpf hpv]at h
 obtain⟨vp,⟨ci,hk⟩,hyp⟩:=fW pf all p σ.slots σ.own _ h
 have Ek:∀x∈i.op.operands.toList,ev σ.slots x=ev (σ.put p.dst vp).slots x:=fun x hx=>by
  cases hd:p.dst with
  | none=>rfl
  | some d =>
   simp only[S.put]
   rw[fR (fun e=>h1 d hd (cK (e ▸ hx)))]
 obtain⟨vi,ex,hk2,hyi⟩:=hi _ _ hk
 rw[(eT σ p.dst vp).1]at hk2 hyi
 refine⟨fun hm=>d5 Ek (ci hm),hyi _ σ (eT σ p.dst vp).1.symm Ek ⟨fun hm=>?_,?_⟩⟩
 ·refine d5 (fun x hx=>?_) (cp hm)
  unfold S.effect
  cases hd:i.dst with
  | none=>rfl
  | some d =>
   simp only[S.put,killAll]
   rw[fR (fun e=>h3 d hd (cK (e ▸ hx)))]
 ·rw[cm hpf hpv]
  have e:∀k,vG P Γ pf all p (σ.effect i.dst vi (σ.own++ex) []).slots (σ.effect i.dst vi (σ.own++ex) []).own k=vG P Γ pf all p σ.slots (σ.own++ex) k:=by
   intro k
   unfold S.effect
   exact gI (P:=P) (Γ:=Γ) (pf:=pf) (all:=all) (o:=p) (o':=i) (σ:={ slots:=killAll [] σ.slots,own:=σ.own++ex,n0:=σ.n0,mv:=bW σ.n0 σ.mv [] }) (u:=vi) (k:=k) h3
  rw[e]
  refine kF hp ex _ (hyp _ ?_)
  have e2:(σ.effect i.dst vi (σ.own++ex) []).put p.dst vp=(σ.put p.dst vp).effect i.dst vi (σ.own++ex) []:=by
   unfold S.effect
   have:=ff { slots:=killAll [] σ.slots,own:=σ.own++ex,n0:=σ.n0,mv:=bW σ.n0 σ.mv [] } (x:=p.dst) (y:=i.dst) vp vi h2
   rw[← this]
   congr 1
   cases p.dst <;> rfl
  rw[e2]
  exact hk2
theorem LK{pf:List Nat}(hpf:aQ Γ pf){all:Array Oper}{p i:Oper}(hp:isV p.op=true)(hq:isQ p=true)(hia:pH i=true)(hap:p.apart all i=true){K:S->Prop}{σ:S}
  (h:opk P Γ all ko true p (opk P Γ all ko true i K) σ):opk P Γ all ko true i (opk P Γ all ko true p K) σ:=by
 obtain⟨h1,h2,h3⟩:=Oper.apart_spec hap
 obtain⟨cp,h⟩:=h
 have cp:=cp rfl
 have hpv:be pf p=true:=by simp[be,hp]
 have hg:p.guard=none:=by
  unfold isQ at hq
  split at hq <;> first|assumption|cases hq
 have eG:∀(s:List AV) (own:List Obj) (k:AV->Prop),vG P Γ pf all p s own k=vop P own s p.op k:=fun s own k=>by
  unfold vG vB
  rw[hg]
  simp only[hp,if_true]
 rw[cm hpf hpv,eG]at h
 obtain⟨vp,⟨ci,hk⟩,hyp⟩:=ph σ.slots p.op _ h
 have ci:=ci rfl
 have Ek:∀x∈i.op.operands.toList,ev σ.slots x=ev (σ.put p.dst vp).slots x:=fun x hx=>by
  cases hd:p.dst with
  | none=>rfl
  | some d =>
   simp only[S.put]
   rw[fR (fun e=>h1 d hd (cK (e ▸ hx)))]
 obtain⟨vi,obj',hk2,hyi⟩:=Mu hia ci hk
 rw[(eT σ p.dst vp).1]at hk2 hyi
 refine⟨fun _=>d5 Ek ci,hyi _ σ rfl Ek ⟨fun _=>?_,?_⟩⟩
 ·refine d5 (s:=AV.kills ko σ.slots) (fun x hx=>?_) (nP hq cp)
  unfold S.effect
  cases hd:i.dst with
  | none=>rfl
  | some d =>
   simp only[S.put,killAll]
   rw[fR (fun e=>h3 d hd (cK (e ▸ hx)))]
 ·rw[cm hpf hpv]
  have e:∀k,vG P Γ pf all p (σ.effect i.dst vi ((σ.own.map (Obj.kill ko)).set ko obj') [ko]).slots (σ.effect i.dst vi ((σ.own.map (Obj.kill ko)).set ko obj') [ko]).own k=vG P Γ pf all p (AV.kills ko σ.slots) ((σ.own.map (Obj.kill ko)).set ko obj') k:=by
   intro k
   unfold S.effect
   exact gI (P:=P) (Γ:=Γ) (pf:=pf) (all:=all) (o:=p) (o':=i) (σ:={ slots:=killAll [ko] σ.slots,own:=(σ.own.map (Obj.kill ko)).set ko obj',n0:=σ.n0,mv:=bW σ.n0 σ.mv [ko] }) (u:=vi) (k:=k) h3
  rw[e,eG]
  have hv:=sA hq (obj':=obj') cp (hyp (fun v=>v=vp) rfl)
  obtain⟨v',⟨v,rfl,hvv⟩,hy2⟩:=ph _ p.op _ hv
  subst hvv
  refine hy2 _ ?_
  have e2:(σ.effect i.dst vi ((σ.own.map (Obj.kill ko)).set ko obj') [ko]).put p.dst (v.kill ko)=(σ.put p.dst v).effect i.dst vi ((σ.own.map (Obj.kill ko)).set ko obj') [ko]:=by
   unfold S.effect
   have:=ff { slots:=killAll [ko] σ.slots,own:=(σ.own.map (Obj.kill ko)).set ko obj',n0:=σ.n0,mv:=bW σ.n0 σ.mv [ko] } (x:=p.dst) (y:=i.dst) (v.kill ko) vi h2
   rw[← this]
   congr 1
   cases hd:p.dst with
   | none=>rfl
   | some d=>simp only[S.put,killAll,kx]
  rw[e2]
  exact hk2
end
inductive Waits (ops:Array Oper):Nat->Nat->Prop
 | one {i p:Nat}:Region.waitsFor .any ops i p=true->Waits ops i p
 | step {i q p:Nat}:Region.waitsFor .any ops i q=true->Waits ops q p->Waits ops i p
def AN(ops:Array Oper)(i:Nat):List Nat:=(List.range ops.size).filter fun p=>Region.waitsFor .any ops i p
def Ey(ops:Array Oper):Nat->List (List Nat)
 | 0=>[]
 | n+1=>Ey ops n++[let T:=Ey ops n;let D:=AN ops n;(List.range ops.size).filter fun p=>D.contains p || D.any fun q=>(T.getD q []).contains p]
def SE(ops:Array Oper):Nat->Nat->List (List Nat)->List (List Nat)
 | 0,_,T=>T
 | k+1,n,T=>SE ops k (n+1) (T++[let D:=AN ops n;(List.range ops.size).filter fun p=>D.contains p || D.any fun q=>(T.getD q []).contains p])
theorem CY(ops:Array Oper):∀(k n:Nat),SE ops k n (Ey ops n)=Ey ops (n+k)
 | 0,n=>rfl
 | k+1,n=>by
  unfold SE
  have:=CY ops k (n+1)
  rw[show n+(k+1)=n+1+k by omega,← this]
  rfl
theorem nH(ops:Array Oper):∀n,(Ey ops n).length=n
 | 0=>rfl
 | n+1=>by simp[Ey,nH ops n]
theorem qB{ops:Array Oper}{i p:Nat}(h:p∈AN ops i):Region.waitsFor .any ops i p=true:=(List.mem_filter.1 h).2
theorem lM{ops:Array Oper}:∀(n i p:Nat),p∈(Ey ops n).getD i []->Waits ops i p
 | 0,i,p,h=>by simp[Ey]at h
 | n+1,i,p,h=>by
  have hl:=nH ops n
  rcases Nat.lt_or_ge i n with hi|hi
  ·refine lM n i p ?_
   simp only[Ey,List.getD_eq_getElem?_getD]at h ⊢
   rwa [List.getElem?_append_left (by omega)]at h
  ·simp only[Ey,List.getD_eq_getElem?_getD]at h
   rw[List.getElem?_append_right (by omega),hl]at h
   cases hk:i - n with
   | succ k=>rw[hk]at h;simp at h
   | zero =>
    have hin:i=n:=by omega
    subst hin
    rw[hk]at h
    simp only[List.getElem?_cons_zero,Option.getD_some,List.mem_filter,Bool.or_eq_true,List.any_eq_true,List.contains_eq_mem,decide_eq_true_eq]at h
    rcases h.2 with h|⟨q,h1,h2⟩
    ·exact .one (qB h)
    ·refine .step (qB h1) (lM i q p ?_)
     simpa [List.getD_eq_getElem?_getD] using h2
section
variable {P:Program} {Γ:Nat->a8} {own:List Obj} {ko:Nat}
def fE(P:Program)(Γ:Nat->a8)(ops:Array Oper)(ko:Nat)(ms:List Nat)(Q:Exit->S->Prop):List Nat->S->Prop
 | [],σ=>Q .normal σ
 | i :: r,σ=>match ops[i]? with|some o=>opk P Γ ops ko (ms.contains i) o (fE P Γ ops ko ms Q r) σ|none=>False
def rX(pf mf ms:List Nat)(ops:Array Oper)(p i:Nat):Bool :=
 match ops[p]?,ops[i]? with
 | some op,some oi=>op.apart ops oi && ((be pf op && be pf oi) || (isV op.op && (M0 mf oi || E1 oi)) || (isV op.op && isQ op && ms.contains p && pH oi && ms.contains i))
 | _,_=>false
def fV(T:List (List Nat))(pf mf ms:List Nat)(ops:Array Oper):List Nat->Bool
 | []=>true
 | p :: r=>(r.all fun i=>(T.getD i []).contains p || rX pf mf ms ops p i) && fV T pf mf ms ops r
def oB(pf mf ms:List Nat)(ops:Array Oper)(L:List Nat):Bool:=fV (SE ops ops.size 0 []) pf mf ms ops L && gx ops && e9 ops && dC ops.size L && fC L
theorem Ct{pf mf ms:List Nat}(hpf:aQ Γ pf)(hmf:bF Γ mf){ops:Array Oper}{Q:Exit->S->Prop}{i:Nat}{oi:Oper}(hi:ops[i]?=some oi):∀(pre post:List Nat) (σ:S),(∀p∈pre,rX pf mf ms ops p i=true)->fE P Γ ops ko ms Q (pre++i :: post) σ ->
  opk P Γ ops ko (ms.contains i) oi (fE P Γ ops ko ms Q (pre++post)) σ
 | [],post,σ,_,h=>by
  simp only[List.nil_append,fE,hi]at h ⊢
  exact h
 | p :: pre,post,σ,hs,h=>by
  have e2:∀(op:Oper) (l:List Nat),ops[p]?=some op->fE P Γ ops ko ms Q (p :: l)=opk P Γ ops ko (ms.contains p) op (fE P Γ ops ko ms Q l):=fun op l hop=>by funext σ;simp only[fE,hop]
  simp only[List.cons_append]at h ⊢
  have hp:=hs p (by simp)
  unfold rX at hp
  rw[hi]at hp
  cases hop:ops[p]? with
  | none=>simp only[fE,hop]at h
  | some op =>
   rw[e2 op _ hop]at h ⊢
   simp only[hop,Bool.and_eq_true,Bool.or_eq_true]at hp
   obtain⟨hap,hk⟩:=hp
   have hvp:be pf op=true:=by
    rcases hk with(hk|hk)|hk
    ·exact hk.1
    ·simp[be,hk.1]
    ·simp[be,hk.1.1.1.1]
   have h':opk P Γ ops ko (ms.contains p) op (opk P Γ ops ko (ms.contains i) oi (fE P Γ ops ko ms Q (pre++post))) σ :=
    ⟨h.1,dz hpf hvp (fun σ' hσ'=>Ct hpf hmf hi pre post σ' (fun q hq=>hs q (by simp[hq])) hσ') h.2⟩
   rcases hk with(hk|hk)|hk
   ·exact H2 hpf hk.1 hk.2 hap h'
   ·refine Ga hpf hk.1 hap (fun K σ' hh=>?_) h'
    rcases hk.2 with hk2|hk2
    ·exact va hmf hk2 hh
    ·exact wd hk2 hh
   ·have hmp:=hk.1.1.2
    have hmi:=hk.2
    rw[hmp,hmi]at h'
    rw[hmp,hmi]
    exact LK hpf hk.1.1.1.1 hk.1.1.1.2 hk.1.2 hap h'
theorem mo{T:List (List Nat)}{pf mf ms:List Nat}{ops:Array Oper}:∀{L:List Nat},fV T pf mf ms ops L=true->∀pre i post,L=pre++i :: post->∀p∈pre,p∈T.getD i []∨rX pf mf ms ops p i=true
 | [],_,pre,i,post,e,p,hp=>by cases pre <;> cases e
 | q :: r,h,pre,i,post,e,p,hp=>by
  simp only[fV,Bool.and_eq_true]at h
  cases pre with
  | nil=>cases hp
  | cons a pre =>
   simp only[List.cons_append,List.cons.injEq]at e
   obtain⟨rfl,e⟩:=e
   rcases List.mem_cons.1 hp with rfl|hp
   ·have:=List.all_eq_true.1 h.1 i (by rw[e];simp)
    simpa using this
   ·exact mo h.2 pre i post e p hp
theorem hY{T:List (List Nat)}{pf mf ms:List Nat}{ops:Array Oper}(f:Nat->Bool):∀{L:List Nat},fV T pf mf ms ops L=true->fV T pf mf ms ops (L.filter f)=true
 | [],_=>rfl
 | q :: r,h=>by
  simp only[fV,Bool.and_eq_true]at h
  simp only[List.filter_cons]
  split
  ·simp only[fV,Bool.and_eq_true]
   exact⟨List.all_eq_true.2 fun i hi=>List.all_eq_true.1 h.1 i (List.mem_filter.1 hi).1,hY f h.2⟩
  ·exact hY f h.2
def AB(ops:Array Oper)(listed:Array Bool):Prop:=∀j p,Region.waitsFor .any ops j p=true->listed.getD j false=true->listed.getD p false=true
theorem tH{ops:Array Oper}{listed:Array Bool}(hcl:AB ops listed):∀{i p:Nat},Waits ops i p->(∀q,Region.waitsFor .any ops i q=true->listed.getD q false=true)->listed.getD p false=true:=by
 intro i p h
 induction h with
 | one h=>intro hr;exact hr _ h
 | step h1 h2 ih=>intro hr;exact ih (fun r hr'=>hcl _ r hr' (hr _ h1))
theorem pc{pf mf ms:List Nat}(hΓ:OkG P Γ)(hpf:aQ Γ pf)(hmf:bF Γ mf){ops:Array Oper}{Q:Exit->S->Prop}{L:List Nat}(hok:oB pf mf ms ops L=true){c:Ctx}:∀(fuel:Nat) (listed:Array Bool) (σ:S) (a:Act) (w:World),listed.size=ops.size->AB ops listed ->
  (L.filter fun i=>!listed.getD i true).length<=fuel->St c σ a w->fE P Γ ops ko ms Q (L.filter fun i=>!listed.getD i true) σ->wpAnyIn (fen c.rd) 0 P .any ops (lift c Q) fuel listed a w:=by
 simp only[oB,Bool.and_eq_true]at hok
 obtain⟨⟨⟨⟨fX,gk⟩,dk⟩,cO⟩,hnd⟩:=hok
 have kT:=dP hnd
 simp only[dC,Bool.and_eq_true,List.all_eq_true,List.mem_range,List.contains_eq_mem,decide_eq_true_eq]at cO
 obtain⟨⟨jk,hlen⟩,hlt⟩:=cO
 have ready:∀(listed:Array Bool),listed.size=ops.size->Region.ready .any ops listed=[]->(L.filter fun i=>!listed.getD i true)=[]:=by
  intro listed hsz hr
  rw[List.filter_eq_nil_iff]
  have key:∀i,i<ops.size->listed.getD i true=true:=by
   intro i
   induction i using Nat.strongRecOn with
   | _ i ih =>
    intro eH
    cases hx:listed.getD i true with
    | true=>rfl
    | false =>
     exfalso
     have:i∈Region.ready .any ops listed:=by
      refine mem_ready.2 ⟨hx,ops[i],Array.getElem?_eq_getElem eH,fun e he hb=>?_⟩
      have hw:Region.waitsFor .any ops i e.on=true:=by
       simp only[Region.waitsFor,Array.getElem?_eq_getElem eH,Array.any_eq_true']
       exact⟨e,he,by simp[hb]⟩
      have hon:e.on<ops.size:=by
       have h1:=Array.all_eq_true'.1 dk ops[i] (Array.getElem_mem eH)
       have h2:=Array.all_eq_true'.1 h1 e he
       simpa [hb] using h2
      have re:e.on<i:=by
       have h1:=List.all_eq_true.1 gk i (List.mem_range.2 eH)
       have h2:=List.all_eq_true.1 h1 e.on (List.mem_range.2 hon)
       simpa [hw] using h2
      have h3:=ih e.on re hon
      have h4:e.on<listed.size:=by omega
      simp[h4]at h3 ⊢
      exact h3
     rw[hr]at this
     cases this
  intro i hi
  simp only[Bool.not_eq_true',Bool.not_eq_false]
  exact key i (hlt i hi)
 intro fuel
 induction fuel with
 | zero =>
  intro listed σ a w hsz hcl hf hst hch
  have h0:(L.filter fun i=>!listed.getD i true)=[]:=List.eq_nil_of_length_eq_zero (by omega)
  rw[h0]at hch
  refine⟨?_,bn hst hch⟩
  rw[List.eq_nil_iff_forall_not_mem]
  intro i hi
  obtain⟨g1,o,g2,_⟩:=mem_ready.1 hi
  have hi':i<ops.size:=(Array.getElem?_eq_some_iff.1 g2).1
  have:i∈(L.filter fun i=>!listed.getD i true):=List.mem_filter.2 ⟨jk i hi',by simp[g1]⟩
  rw[h0]at this
  cases this
 | succ fuel ih =>
  intro listed σ a w hsz hcl hf hst hch
  refine⟨fun hr=>?_,fun i hi=>?_⟩
  ·rw[ready listed hsz hr]at hch
   exact bn hst hch
  ·obtain⟨g1,o,g2,g3⟩:=mem_ready.1 hi
   have hi':i<ops.size:=(Array.getElem?_eq_some_iff.1 g2).1
   obtain⟨pre,post,e1,e2⟩:=en kT (jk i hi') (f:=fun i=>!listed.getD i true) (by simp[g1])
   have hfr:=mo (hY (fun i=>!listed.getD i true) fX) pre i post e1
   rw[e1]at hch
   have El:∀q,Region.waitsFor .any ops i q=true->listed.getD q false=true:=fun q h=>by
    simp only[Region.waitsFor,g2,Array.any_eq_true',Bool.and_eq_true,beq_iff_eq]at h
    obtain⟨e,he,hb,hon⟩:=h
    rw[← hon];exact g3 e he hb
   have aay:AB ops (listed.setIfInBounds i true):=fun j p hw hj=>by
    have mono:∀q,listed.getD q false=true->(listed.setIfInBounds i true).getD q false=true:=fun q hq=>by
     by_cases e:i=q
     ·subst e;simp[hsz,hi']
     ·simpa [Array.getElem?_setIfInBounds_ne e] using hq
    by_cases e:i=j
    ·subst e;exact mono p (El p hw)
    ·have hj':listed.getD j false=true:=by simpa [Array.getElem?_setIfInBounds_ne e] using hj
     exact mono p (hcl j p hw hj')
   have hb:=Ct hpf hmf g2 pre post σ (fun p hp=>by
    rcases hfr p hp with h|h
    ·exfalso
     have hpm:p∈(L.filter fun i=>!listed.getD i true):=by rw[e1];simp[hp]
     have hun:=(List.mem_filter.1 hpm).2
     have hw:Waits ops i p:=lM ops.size i p (by
      have e:=CY ops ops.size 0
      rw[Nat.zero_add]at e
      rw[← e];exact h)
     have hl:=tH hcl hw El
     have:listed.getD p true=false:=by simpa using hun
     rw[getD_both this]at hl
     cases hl
    ·exact h) hch
   unfold wpOpIn
   simp only[g2]
   have eV:(L.filter fun j=>!(listed.setIfInBounds i true).getD j true)=pre++post:=by
    rw[← e2]
    refine List.filter_congr fun j hj=>?_
    have hj':=hlt j hj
    by_cases e:i=j
    ·subst e
     simp[hsz,hi']
    ·have e':¬(j=i):=fun h=>e h.symm
     simp[Array.getElem?_setIfInBounds_ne e,e']
   have dV:(L.filter fun j=>!(listed.setIfInBounds i true).getD j true).length<=fuel:=by
    rw[eV]
    rw[e1]at hf
    simp only[List.length_append,List.length_cons]at hf ⊢
    omega
   rcases cf hΓ (Q:=lift c Q) hst hb.2 with⟨hw,hwp⟩|⟨hw,σ',bA,hK⟩
   ·rw[if_pos hw]
    refine Oper.wpIn_mono ?_ hwp
    rintro a' w' ⟨σ',bA,hK⟩
    exact ih _ σ' a' w' (by simp[hsz]) aay dV bA (by rw[eV];exact hK)
   ·rw[if_neg (by simp[hw])]
    exact⟨fun _ _=>trivial,ih _ σ' _ w (by simp[hsz]) aay dV bA (by rw[eV];exact hK)⟩
theorem CD{pf mf ms:List Nat}(hm:P.follows .mixedOrders=true)(hΓ:OkG P Γ)(hpf:aQ Γ pf)(hmf:bF Γ mf){id:Nat}{ops:Array Oper}{Q:Exit->S->Prop}{σ:S}(L:List Nat)(hok:oB pf mf ms ops L=true)
  (h:fE P Γ ops ko ms Q L σ):sem P (.region id ops true) Q σ:=by
 intro c a w hst
 refine wpIn_region_any hm ?_
 have bA:St c σ a { w with drawn:=w.drawn+1 }:=by
  obtain⟨hd,hn,F,φ,h2,h3,h4⟩:=hst
  refine⟨hd,hn,F,φ,⟨h2.sub,⟨h2.ext.os,h2.ext.tape,h2.ext.output,h2.ext.size,h2.ext.same,Nat.le_trans h2.ext.drn (Nat.le_succ _)⟩,h2.keep,h2.rest,h2.orig,h2.frsh⟩,h3.drew,?_⟩
  exact AV.Rs_mono (fun _ h=>h) eE (fun _ _ h=>h) _ _ h4
 have hf:(L.filter fun i=>!(Array.replicate ops.size false).getD i true)=L:=by
  rw[List.filter_eq_self]
  intro i hi
  simp only[oB,Bool.and_eq_true,dC,List.all_eq_true,decide_eq_true_eq]at hok
  have:=hok.1.2.2 i hi
  simp[this]
 refine pc hΓ hpf hmf hok ops.size _ σ a _ (by simp) (fun j p _ hj=>by simp only[Array.getD_eq_getD_getElem?,Array.getElem?_replicate]at hj;split at hj <;> cases hj) ?_ bA (by rw[hf];exact h)
 rw[hf]
 simp only[oB,Bool.and_eq_true,dC,decide_eq_true_eq]at hok
 omega
end
section
variable {P:Program} {Γ:Nat->a8} {all:Array Oper} {Q:Exit->S->Prop} {i ko:Nat} {r ms:List Nat} {s:List AV} {own:List Obj} {n:Nat} {m:List Nat} {dst:Option Tmp} {ty:TypeId} {pos:String} {af:Array Edge} {gd:Option (Nat×Bool)}
@[go_sem] theorem NZ:fE P Γ all ko ms Q [] ⟨s,own,n,m⟩=Q .normal ⟨s,own,n,m⟩:=Eq.trans rfl rfl
@[go_sem] theorem Q5:fE P Γ all ko ms Q (i :: r) ⟨s,own,n,m⟩=(match all[i]? with|some o=>((ms.contains i=true->dD ko o s)/\opg P Γ all o (fE P Γ all ko ms Q r) ⟨s,own,n,m⟩)|none=>False):=Eq.trans rfl rfl
@[go_sem] theorem NP {c:Call}:dD ko ⟨dst,.call c,ty,pos,af,gd⟩ s=(match c.args.toList with|[x,_]=>(match ev s x with|.sl o' _ _=>o'=ko|_=>False)|_=>False):=Eq.trans rfl rfl
@[go_sem] theorem MN {t:TypeId} {x:Operand}:dD ko ⟨dst,.load t x,ty,pos,af,gd⟩ s=(match ev s x with|.ptr o' _ _=>o'≠ko|.rptr _ _=>True|_=>False):=Eq.trans rfl rfl
@[go_sem] theorem Ez {x:Operand}:dD ko ⟨dst,.nilCheck x,ty,pos,af,gd⟩ s=(match ev s x with|.ptr o' _ _=>o'≠ko|.rptr _ _=>True|_=>False):=Eq.trans rfl rfl
@[go_sem] theorem CS {t:TypeId} {x:Operand} {f:Nat}:dD ko ⟨dst,.fieldAddr t x f,ty,pos,af,gd⟩ s=(match ev s x with|.ptr o' _ _=>o'≠ko|.rptr _ _=>True|_=>False):=Eq.trans rfl rfl
@[go_sem] theorem Ba {t:TypeId} {x y:Operand}:dD ko ⟨dst,.indexAddr t x y,ty,pos,af,gd⟩ s=((match ev s x with|.ptr o' _ _=>o'≠ko|.sl o' _ _=>o'≠ko|.dat _=>True|_=>False)/\(match ev s y with|.dat _=>True|_=>False)):=Eq.trans rfl rfl
@[go_sem] theorem N1 {x:Operand}:dD ko ⟨dst,.move x,ty,pos,af,gd⟩ s=True:=Eq.trans rfl rfl
@[go_sem] theorem J8 {x:Operand}:dD ko ⟨dst,.assign x,ty,pos,af,gd⟩ s=True:=Eq.trans rfl rfl
end
end Go.AM

