/- Own work over the model of the kit. -/
import Derived.Test.YtmmbjdgmhdjbjaaGreatDoorD18
import Derived.Test.YtmmbjdgmhdjbjaaGreatDoorD16
set_option linter.unnecessarySimpa false
set_option linter.unusedSimpArgs false
set_option linter.unusedVariables false
set_option maxHeartbeats 4000000
set_option maxRecDepth 8000
namespace Go.AM
open Go Go.Proofs
def pa(ds:List D)(v:AV)(ob:List Obj):Prop:=∃l:List PFr,ds=[eY l]/\l≠[]/\l.length<=1000/\v=.sl 0 0 l.length/\ob=[.row (some 2) (ed l)]
theorem Cj:OkF Tryz.prog 77 (fk pa):=by
 refine ec Tryz.func77 rfl (by decide) ?_
 rintro ds v ob ⟨l,rfl,hl0,hl,rfl,rfl⟩
 cases l with
 | nil=>exact absurd rfl hl0
 | cons f r =>
 have hfl:(ed (f :: r)).length=r.length+1:=by simp
 have b1:r.length+1<=1000:=hl
 refine a6 (Γ:=tbl []) ae _ _ _ ?_
 simp only[go_sem,Tryz.ntmps77,eY]
 refine⟨by omega,by omega,?_⟩
 refine aH (.inl rfl) [.tmp 2] rfl (fun _ h=>h) ?_
 simp only[go_sem]
 exact a7 (by simp only[go_sem])
def wQ(ds:List D)(v:AV)(ob:List Obj):Prop:=∃x:PSt,ds=[.sl none (aG x)]/\x≠[]/\x.length<=1000/\v=.sl 0 0 x.length/\ob=[.row none (aG x)]
theorem BK:OkF Tryz.prog 76 (fk wQ):=by
 refine ec Tryz.func76 rfl (by decide) ?_
 rintro ds v ob ⟨x,rfl,hl0,hl,rfl,rfl⟩
 cases x with
 | nil=>exact absurd rfl hl0
 | cons f r =>
 have b1:r.length+1<=1000:=hl
 refine a6 (Γ:=tbl []) ae _ _ _ ?_
 simp only[go_sem,Tryz.ntmps76]
 refine⟨by omega,by omega,?_⟩
 refine aH (.inl rfl) [.tmp 2] rfl (fun _ h=>h) ?_
 simp only[go_sem]
 exact a7 (by simp only[go_sem])
theorem Lt{xs:List D}{k:Nat}(h:k<xs.length):(xs.map AV.dat).getD k .top=.dat (D.nth xs k):=by
 simp[D.nth,List.getD_eq_getElem?_getD,h]
theorem JK{xs:List D}{k:Nat}(h:k<xs.length):(xs.map AV.dat).set k (.dat (D.nth xs k))=xs.map .dat:=by
 refine List.ext_getElem? fun j=>?_
 rw[List.getElem?_set]
 split
 ·rename_i e;subst e;simp[D.nth,List.getD_eq_getElem?_getD,h]
 ·rfl
theorem lu{n:Nat}{v:AV}:∀{l:List AV} {i:Nat},AV.unders n l->AV.under n v->AV.unders n (l.set i v)
 | [],_,h,_=>by simpa using h
 | a :: l,0,h,hv=>by simp only[List.set_cons_zero,AV.unders]at h ⊢;exact⟨hv,h.2⟩
 | a :: l,i+1,h,hv=>by simp only[List.set_cons_succ,AV.unders]at h ⊢;exact⟨h.1,lu h.2 hv⟩
theorem lh{x:PSt}{w:Nat}{l:List PFr}:((aG x).map AV.dat).set w (.dat (.sl (some 2) (ed l)))=(aG (x.set w l)).map .dat:=by
 simp only[aG,List.map_set];rfl
theorem v8{l:List AV}{i j:Nat}{a d:AV}:(l.set i a).getD j d=if i=j/\i<l.length then a else l.getD j d:=j7
theorem mu{s:PSys}{f:PFr}{r:List PFr}(h:f.a+1<(aW s f).steps.length):upR s (f :: r)=⟨f.c,f.a+1⟩ :: r:=by
 cases r <;> (simp only[upR];rw[if_pos h])
theorem AL{s:PSys}{f:PFr}(h:¬f.a+1<(aW s f).steps.length):upR s [f]=[⟨f.c,0⟩]:=by simp only[upR];rw[if_neg h]
theorem AX{s:PSys}{f g:PFr}{r:List PFr}(h:¬f.a+1<(aW s f).steps.length):upR s (f :: g :: r)=upR s (g :: r):=by rw[show upR s (f :: g :: r)=if f.a+1<(aW s f).steps.length then ⟨f.c,f.a+1⟩ :: g :: r else upR s (g :: r) from rfl,if_neg h]
theorem J6{r j:List PFr}{f:PFr}:D.nth (ed ((f :: r).reverse++j)) r.length=frD f:=by
 have:(f :: r).reverse++j=r.reverse++f :: j:=by simp
 rw[this,D.nth,List.getD_eq_getElem?_getD]
 simp[List.getElem?_append_right]
theorem HZ{r j:List PFr}{f f':PFr}:(ed ((f :: r).reverse++j)).set r.length (frD f')=ed ((f' :: r).reverse++j):=by
 have h1:∀g:PFr,(g :: r).reverse++j=r.reverse++g :: j:=fun g=>by simp
 rw[h1,h1,ed,ed,List.map_append,List.map_append,List.set_append_right _ _ (by simp)]
 simp
def Kl(ds:List D)(v:AV):Prop:=∃(s:PSys) (x:PSt) (w:Nat),ds=[aY s,stD x,.int .i64 w]/\Valid s x/\PStFit x/\w<x.length/\v=.dat (stD (cS s x w))
abbrev jn:List (Nat×a8):=[(76,fk wQ),(77,fk pa),(75,au NL)]
theorem cB:OkG Tryz.prog (tbl jn):=ai BK (ai Cj (ai qz8 ae))
theorem Q8:aQ (tbl jn) [75]:=by
 intro g args own v own' mv hg hC
 obtain⟨C,hm,hC⟩:=hC
 simp only[List.mem_cons,List.not_mem_nil,or_false,Prod.mk.injEq]at hm hg
 subst hg
 rcases hm with⟨h,_⟩|⟨h,_⟩|⟨_,rfl⟩
 ·exact absurd h (by decide)
 ·exact absurd h (by decide)
 ·obtain⟨_,_,_,h1,h2,_⟩:=hC
  exact⟨h1,h2⟩
theorem Lq:OkF Tryz.prog 57 (au Kl):=by
 refine az Tryz.func57 rfl (by decide) ?_
 rintro ds v ⟨s,x,w,rfl,hV,hx,hw,rfl⟩
 have hg:=hV.good
 have aao:=hV.l24
 have sS:(aG x).length=x.length:=by simp
 have hx0:x≠[]:=by rintro rfl;simp at hw
 have hsw:=hV.stk hw
 have hlw:=ng hx hw
 refine al [2,8,10,17,18] (Γ:=tbl jn) cB _ _ _ ?_
 simp only[go_sem,Tryz.ntmps57,aY,stD]
 refine co wQ (by simp) [.sl none (aG x)] _ _ rfl rfl ⟨x,rfl,hx0,hx.len,rfl,rfl⟩ ?_
 simp only[go_sem]
 simp only[AV.shift,AV.shifts,Obj.shift,Nat.add_zero,Nat.zero_add]
 refine av (OC 3 rfl) ?_
 refine a6 (Γ:=tbl jn) cB _ _ _ ?_
 simp only[go_sem]
 generalize hl:x.getD w []=l at *
 let own:=fun k:Nat=>if k<=w then ([jO s,stO x,.box [.nils],.vec ((aG x).map .dat)]:List Obj) else [jO s,stO x,.box [.nils],.vec (((aG x).map .dat).set w (.sl 4 0 l.length)),.row (some 2) (ed l)]
 refine ap (fun k:Nat=>⟨an 95 [(2,.dat (.int .i64 w)),(3,.ptr 0 0 0),(4,.ptr 1 0 0),(6,.ptr 2 0 0),(7,.sl 3 0 x.length),(16,.dat (.int .i64 x.length)),(17,.dat (.int .i64 k))],own k,0,[]⟩)
  (fun k=>k<=x.length) (fun k=>x.length - k) 0 (Nat.zero_le _) ?_ ?_
 ·exact a7 (by simp only[go_sem,Int.natCast_zero])
 rintro k hk
 rcases Nat.lt_or_ge k x.length with hlt|hge
 ·have hk2:(k:Int)<x.length:=by omega
  have hk0:(0:Int)<=k:=Int.natCast_nonneg k
  have hn:D.nth (aG x) k=eY (x.getD k []):=D.nth_map hlt
  have hgk:((aG x).map AV.dat).getD k .top=.dat (eY (x.getD k [])):=by rw[Lt (by simpa using hlt),hn]
  have aap:List.take (x.getD k []).length (ed (x.getD k []))=ed (x.getD k []):=List.take_of_length_le (by simp)
  have HR:((aG x).map AV.dat).set k (.dat (.sl (some 2) (ed (x.getD k []))))=(aG x).map .dat:=by
   have:D.sl (some 2) (ed (x.getD k []))=D.nth (aG x) k:=hn.symm
   rw[this];exact JK (by simpa using hlt)
  have hsk:=(hV.stk hlt).1
  have hlk:=ng hx hlt
  rcases Nat.lt_trichotomy k w with hkw|rfl|hkw
  ·simp only[own,if_pos (show k<=w by omega)]
   refine a6 (Γ:=tbl jn) cB _ _ _ ?_
   simp only[go_sem,hk2,hk0,hlt,sS,hgk]
   refine co pa (by simp) [eY (x.getD k [])] _ _ rfl rfl ⟨x.getD k [],rfl,hsk,hlk,rfl,rfl⟩ ?_
   simp only[go_sem,AV.shift,AV.shifts,Obj.shift,hk2,hk0,hlt,sS]
   refine⟨ac.2 (by omega),k+1,by omega,by omega,?_⟩
   simp only[own,if_pos (show k+1<=w by omega)]
   refine Le.trans (aq 4 (ag:=some 2) rfl (Nat.zero_le _)) ?_
   simp only[go_sem,jj,aap,HR]
   refine aP (own:=[_,_,_,_]) (ex:=[_]) (Nat.zero_le _) ?_ ?_ ?_
   ·simp only[go_sem,Int.natCast_add,Int.cast_ofNat_Int]
   ·simp only[go_sem]
   ·simp only[go_sem,Obj.under,AV.unders,AV.under]
  ·simp only[own,if_pos (Nat.le_refl k)]
   refine a6 (Γ:=tbl jn) cB _ _ _ ?_
   simp only[go_sem,hk2,hk0,hlt,sS,hgk]
   refine co pa (by simp) [eY (x.getD k [])] _ _ rfl rfl ⟨x.getD k [],rfl,hsk,hlk,rfl,rfl⟩ ?_
   simp only[go_sem,AV.shift,AV.shifts,Obj.shift,hk2,hk0,hlt,sS]
   refine⟨ac.2 (by omega),k+1,by omega,by omega,?_⟩
   simp only[own,if_neg (show ¬k+1<=k by omega),hl]
   exact a7 (by simp only[go_sem,Int.natCast_add,Int.cast_ofNat_Int])
  ·simp only[own,if_neg (show ¬k<=w by omega)]
   have abf:(((aG x).map AV.dat).set w (.sl 4 0 l.length)).getD k .top=.dat (eY (x.getD k [])):=by
    rw[v8,if_neg (by omega)];exact hgk
   refine a6 (Γ:=tbl jn) cB _ _ _ ?_
   simp only[go_sem,hk2,hk0,hlt,sS,abf]
   refine co pa (by simp) [eY (x.getD k [])] _ _ rfl rfl ⟨x.getD k [],rfl,hsk,hlk,rfl,rfl⟩ ?_
   simp only[go_sem,AV.shift,AV.shifts,Obj.shift,hk2,hk0,hlt,sS]
   refine⟨ac.2 (by omega),k+1,by omega,by omega,?_⟩
   simp only[own,if_neg (show ¬k+1<=w by omega)]
   refine Le.trans (aq 5 (ag:=some 2) rfl (Nat.zero_le _)) ?_
   have hcm:∀v v':AV,(((aG x).map AV.dat).set w v).set k v'=(((aG x).map AV.dat).set k v').set w v:=fun v v'=>List.set_comm _ _ (by omega)
   simp only[go_sem,jj,aap,hcm,HR]
   refine aP (own:=[_,_,_,_,_]) (ex:=[_]) (Nat.zero_le _) ?_ ?_ ?_
   ·simp only[go_sem,Int.natCast_add,Int.cast_ofNat_Int]
   ·simp only[go_sem]
   ·simp only[go_sem,Obj.under,AV.unders,AV.under]
    exact lu (by rw[hH];trivial) (by simp only[AV.under];omega)
 ·obtain rfl:k=x.length:=by omega
  have hk2:¬(x.length:Int)<x.length:=by omega
  simp only[own,if_neg (show ¬x.length<=w by omega)]
  refine a6 (Γ:=tbl jn) cB _ _ _ ?_
  simp only[go_sem,hk2]
  refine cW [(6,[5]),(7,[5]),(9,[5])] [] (pf:=[75]) (mf:=[]) mixed cB Q8 fQ (.one 0 (.one 1 (.one 2 (.one 4 (.one 5 (.one 6 (.one 7 (.alt 3 (.one 8 (.one 9 (.one 10 .fin))) (.alt 8 (.one 3 (.one 9 (.one 10 .fin))) .stop))))))))) (by kernel_rfl) ?_
  have hw1:(w:Int)<x.length:=by omega
  have hw0:(0:Int)<=w:=Int.natCast_nonneg w
  have hgw:(((aG x).map AV.dat).set w (.sl 4 0 l.length)).getD w .top=.sl 4 0 l.length:=by rw[v8,if_pos ⟨rfl,by simpa using hw⟩]
  have Vb:=hV.top hw
  have hl1:0<(x.getD w []).length:=by rw[hl];exact List.length_pos_iff.2 hsw.1
  have hl2:=ng hx hw
  generalize hy:sY s x w=y
  obtain⟨kind,on,cnt,deep⟩:=y
  generalize hK:fc [2,8,10,17,18] Tryz.prog (tbl jn) _ _=Q
  have hcl:∀σ σ',Le σ σ'->Q .normal σ'->Q .normal σ:=by
   subst hK
   intro σ σ' h1 h2
   exact av h1 h2
  suffices hQ1:Q .normal ⟨an 95 [(2,.dat (.int .i64 w)),(3,.ptr 0 0 0),(4,.ptr 1 0 0),(6,.ptr 2 0 0),(7,.sl 3 0 x.length),(9,.ptr 5 0 0),(10,.sl 4 0 l.length)],[jO s,stO x,.box [.nils],.vec (((aG x).map .dat).set w (.sl 4 0 l.length)),.row (some 2) (ed l),.box [.dat (.int .i64 kind),.dat (.int .i64 on),.dat (.int .i64 cnt),.dat (.bool deep)]],0,[]⟩ by
   simp only[go_sem,hw1,hw0,hw,sS,hgw]
   refine⟨?_,?_⟩
   ·refine ah NL (by simp) [aY s,stD x,.int .i64 w] _ rfl ⟨s,x,w,rfl,hw,hx.len,hl1,hl2,Vb,rfl⟩ (.inl rfl) ?_
    simp only[go_sem,hy,ar]
    exact hcl _ _ (a7 (by simp only[go_sem])) hQ1
   ·refine ah NL (by simp) [aY s,stD x,.int .i64 w] _ rfl ⟨s,x,w,rfl,hw,hx.len,hl1,hl2,Vb,rfl⟩ (.inl rfl) ?_
    simp only[go_sem,hy,ar]
    exact hcl _ _ (a7 (by simp only[go_sem])) hQ1
  subst hK
  clear hcl
  refine a6 (Γ:=tbl jn) cB _ _ _ ?_
  by_cases hk:kind=5
  ·have hkl:AV.kills 4 (((aG x).map AV.dat).set w (.sl 4 0 l.length))=((aG x).map AV.dat).set w .top:=by rw[kx,lb];simp only[AV.kill,if_true]
   have hlt:List.take l.length (ed l)=ed l:=List.take_of_length_le (by simp)
   have hsl:(((aG x).map AV.dat).set w AV.top).length=x.length:=by simp
   simp only[go_sem,hk,hkl,hlt,hsl,hw1,hw0,hw,List.set_set]
   refine⟨by omega,by omega,?_⟩
   have htx:cS s x w=x.set w (l++[⟨on,0⟩]):=by
    have hyt:b8 s (me l)=⟨kind,on,cnt,deep⟩:=by rw[← hl];exact hy
    unfold cS pe
    rw[hl,hyt,if_pos hk]
   rw[htx]
   refine av (aq 4 (ag:=some 2) rfl (Nat.zero_le _)) ?_
   have hfa:ed l++[D.agg [D.int .i64 on,D.int .i64 0]]=ed (l++[⟨on,0⟩]):=by simp[frD]
   have htk:∀m,(ed (l++[⟨on,0⟩])).length<=m->List.take m (ed (l++[⟨on,0⟩]))=ed (l++[⟨on,0⟩]):=fun m h=>List.take_of_length_le h
   have Yy:List.take (l.length+1) (ed (l++[⟨on,0⟩]))=ed (l++[⟨on,0⟩]):=htk _ (by simp)
   simp only[go_sem,jj,hfa,Yy,lh,List.drop_zero]
   refine av (gz 3 (ds:=aG (x.set w (l++[⟨on,0⟩]))) rfl (iR _) (Nat.zero_le _)) ?_
   refine a6 (Γ:=tbl jn) cB _ _ _ ?_
   have hW:List.take x.length (aG (x.set w (l++[⟨on,0⟩])))=aG (x.set w (l++[⟨on,0⟩])):=List.take_of_length_le (by simp)
   simp only[go_sem,hW]
   refine aZ (.inl rfl) [.cell 6 82] rfl ?_
   simp only[go_sem,stD,hW]
   exact bp (by simp only[go_sem]) (by simp only[go_sem])
  ·simp only[go_sem,hk]
   have hyt:b8 s (me l)=⟨kind,on,cnt,deep⟩:=by rw[← hl];exact hy
   have htx:cS s x w=x.set w (upR s l.reverse).reverse:=by
    unfold cS pe
    rw[hl,hyt,if_neg hk]
   rw[htx]
   have aaq:(((aG x).map AV.dat).set w (.sl 4 0 l.length)).length=x.length:=by simp
   generalize hR:upR s l.reverse=R
   refine ap (fun p:List PFr×List PFr=>⟨an 95 [(2,.dat (.int .i64 w)),(3,.ptr 0 0 0),(4,.ptr 1 0 0),(6,.ptr 2 0 0),(7,.sl 3 0 x.length),(10,.sl 4 0 p.1.length)],[jO s,stO x,.box [.nils],.vec (((aG x).map .dat).set w (.sl 4 0 l.length)),.row (some 2) (ed (p.1.reverse++p.2))],0,[]⟩)
    (fun p=>p.1≠[]/\(∀f∈p.1,gn s f=true)/\upR s p.1=R/\p.1.length+p.2.length=l.length) (fun p=>p.1.length) (l.reverse,[]) ⟨by simpa using hsw.1,fun f hf=>hsw.2 f (by simpa using hf),hR,by simp⟩ ?_ ?_
   ·simp only[List.reverse_reverse,List.append_nil,List.length_reverse]
    refine aP (own:=[_,_,_,_,_]) (ex:=[_]) (Nat.zero_le _) ?_ ?_ ?_
    ·simp only[go_sem]
    ·simp only[go_sem]
    ·simp only[go_sem,Obj.under,AV.unders,AV.under]
     exact lu (by rw[hH];trivial) (by simp only[AV.under];omega)
   rintro ⟨c,j⟩ ⟨hc0,hcf,hcR,hcl⟩
   cases c with
   | nil=>exact absurd rfl hc0
   | cons f r =>
   simp only at hcf hcR hcl ⊢
   have hfo:=hcf f (by simp)
   obtain⟨c1,c2,c3,c4⟩:=bK.1 hfo
   obtain⟨i,hi,hil,hin⟩:=w7 (s:=s) (f:=f) c1 c2
   have hi2:(i:Int)<s.classes.length:=by omega
   have hi0:(0:Int)<=i:=Int.natCast_nonneg i
   have hrl:(ed ((f :: r).reverse++j)).length=l.length:=by simp only[List.length_map,List.length_append,List.length_reverse];exact hcl
   have hq1:((f :: r).length:Int) - 1=(r.length:Nat):=by simp
   have hq2:(r.length:Int)<(f :: r).length:=by simp only[List.length_cons];omega
   have hq3:r.length<(f :: r).length:=by simp
   have hq5:r.length<l.length:=by rw[← hcl];simp only[List.length_cons];omega
   have hq4:(0:Int)<=(r.length:Nat):=Int.natCast_nonneg _
   have hn:=J6 (r:=r) (j:=j) (f:=f)
   have hs1:(ed ((f :: r).reverse++j)).set r.length (.agg [.int .i64 f.c,.int .i64 (f.a+1)])=ed ((⟨f.c,f.a+1⟩ :: r).reverse++j):=HZ (f':=⟨f.c,f.a+1⟩)
   have hn2:D.nth (ed ((⟨f.c,f.a+1⟩ :: r).reverse++j)) r.length=.agg [.int .i64 f.c,.int .i64 (f.a+1)]:=J6
   have Vc:(ed ((⟨f.c,f.a+1⟩ :: r).reverse++j)).length=l.length:=by simp only[List.length_map,List.length_append,List.length_reverse];exact hcl
   have hcg:=hg.cls (aW s f) (by unfold aW;rw[List.getD_eq_getElem?_getD,List.getElem?_eq_getElem (by omega)];exact List.getElem_mem _)
   have h12:=hcg.l12
   refine al [17] (Γ:=tbl jn) cB _ _ _ ?_
   generalize hFR:ed ((f :: r).reverse++j)=FR at *
   generalize hLL:(f :: r).length=LL at *
   simp only[go_sem,hq1,hq2,hq3,hq4,hq5,hn,frD,hrl,hs1]
   refine⟨ac.2 (by omega),ac.2 (by omega),?_⟩
   generalize hFR2:ed ((⟨f.c,f.a+1⟩ :: r).reverse++j)=FR2 at *
   refine cW [] [] (pf:=[]) (mf:=[]) mixed cB b0 fQ (il [0,1,2,3,4,5,6,7,8,9,10,11,12,13,14]) (by kernel_rfl) ?_
   by_cases ha:f.a+1<(aW s f).steps.length
   ·have hRR:R=⟨f.c,f.a+1⟩ :: r:=by rw[← hcR,mu ha]
    simp only[go_sem,hq4,hq5,hn2,Vc,hi,hi2,hi0,hil,hin,bf,bD,List.length_map,ha]
    refine al [18] (Γ:=tbl jn) cB _ _ _ ?_
    simp only[go_sem,aaq,hw1,hw0,hw,List.set_set]
    subst hFR2
    have hfs:ed ((⟨f.c,f.a+1⟩ :: r).reverse++j)=ed R.reverse++ed j:=by rw[hRR];simp
    rw[hfs]
    refine av (II 4 (ag:=some 2) rfl) ?_
    refine av (aq 4 (ag:=some 2) rfl (Nat.zero_le _)) ?_
    have htk:List.take LL (ed R.reverse)=ed R.reverse:=List.take_of_length_le (by rw[hRR,← hLL];simp)
    have hLR:LL<=R.reverse.length:=by rw[hRR,← hLL];simp
    simp only[go_sem,jj,htk,hLR,if_true,lh,List.drop_zero]
    refine av (gz 3 (ds:=aG (x.set w R.reverse)) rfl (iR _) (Nat.zero_le _)) ?_
    refine a6 (Γ:=tbl jn) cB _ _ _ ?_
    have hW:List.take x.length (aG (x.set w R.reverse))=aG (x.set w R.reverse):=List.take_of_length_le (by simp)
    simp only[go_sem,hW]
    refine aZ (.inl rfl) [.cell 6 82] rfl ?_
    simp only[go_sem,stD,hW]
    exact bp (by simp only[go_sem]) (by simp only[go_sem])
   simp only[go_sem,hq4,hq5,hn2,Vc,hi,hi2,hi0,hil,hin,bf,bD,List.length_map,ha]
   cases r with
   | nil =>
    have hRR:R=[⟨f.c,0⟩]:=by rw[← hcR,AL ha]
    have hL1:(LL:Int)=1:=by rw[← hLL];rfl
    have hs2:(ed (([⟨f.c,f.a+1⟩]:List PFr).reverse++j)).set 0 (.agg [.int .i64 f.c,.int .i64 0])=ed (([⟨f.c,0⟩]:List PFr).reverse++j):=HZ (r:=[]) (f':=⟨f.c,0⟩)
    rw[hFR2,hi]at hs2
    have hLz:0<l.length:=hq5
    have hn3:D.nth FR2 0=.agg [.int .i64 f.c,.int .i64 (f.a+1)]:=hn2
    have hz:0<FR2.length:=by rw[Vc];exact hLz
    simp only[go_sem,hL1,hq4,hq5,Vc,hn3,hs2,hLz,hz,List.length_nil,hi]
    refine al [18] (Γ:=tbl jn) cB _ _ _ ?_
    simp only[go_sem,aaq,hw1,hw0,hw,List.set_set]
    have hfs:ed (([⟨(i:Int),0⟩]:List PFr).reverse++j)=ed R.reverse++ed j:=by rw[hRR,hi];simp
    rw[hfs]
    refine av (II 4 (ag:=some 2) rfl) ?_
    refine av (aq 4 (ag:=some 2) rfl (Nat.zero_le _)) ?_
    have htk:List.take LL (ed R.reverse)=ed R.reverse:=List.take_of_length_le (by rw[hRR,← hLL];simp)
    have hLR:LL<=R.reverse.length:=by rw[hRR,← hLL];simp
    simp only[go_sem,jj,htk,hLR,if_true,lh,List.drop_zero]
    refine av (gz 3 (ds:=aG (x.set w R.reverse)) rfl (iR _) (Nat.zero_le _)) ?_
    refine a6 (Γ:=tbl jn) cB _ _ _ ?_
    have hW:List.take x.length (aG (x.set w R.reverse))=aG (x.set w R.reverse):=List.take_of_length_le (by simp)
    simp only[go_sem,hW]
    refine aZ (.inl rfl) [.cell 6 82] rfl ?_
    simp only[go_sem,stD,hW]
    exact bp (by simp only[go_sem]) (by simp only[go_sem])
   | cons g r2 =>
    have hRR:upR s (g :: r2)=R:=by rw[← hcR,AX ha]
    have abg:¬(LL:Int)=1:=by rw[← hLL];simp only[List.length_cons];omega
    have abh:((g :: r2).length:Int)<=LL:=by omega
    have abi:(LL:Int) - 1=((g :: r2).length:Nat):=hq1
    have acr:(g :: r2).length<=LL:=by omega
    simp only[go_sem,abg,abi,abh]
    subst hFR2
    have hq6:r2.length+1<l.length:=hq5
    have hq7:r2.length+1<LL:=hq3
    refine⟨ac.2 (by omega),by omega,(g :: r2,⟨f.c,f.a+1⟩ :: j),⟨by simp,fun q hq=>hcf q (by simp at hq ⊢;exact .inr hq),hRR,?_⟩,?_,?_⟩
    ·rw[← hcl,← hLL];simp only[List.length_cons];omega
    ·simp only[List.length_cons];omega
    ·simp only[Int.sub_zero,Int.toNat_natCast,List.reverse_cons,List.append_assoc,List.cons_append,List.nil_append,hi]
     exact a7 (by simp only[go_sem])
structure Deep (n:Nat) (x:PSt):Prop where
 len:x.length<=24
 stk:∀l∈x,l.length<=n
theorem Deep.fit{n:Nat}{x:PSt}(h:Deep n x)(hn:n<=1000):PStFit x:=⟨by have:=h.len;omega,fun l hl=>by have:=h.stk l hl;omega⟩
theorem AI(s:PSys):∀l:List PFr,(upR s l).length<=l.length
 | []=>by simp[upR]
 | f :: r=>by
  by_cases h:f.a+1<(aW s f).steps.length
  ·rw[mu h];simp
  ·cases r with
   | nil=>rw[AL h];simp
   | cons g r=>rw[AX h];have:=AI s (g :: r);simp only[List.length_cons]at this ⊢;omega
theorem DZ(s:PSys)(l:List PFr):(pe s l).length<=l.length+1:=by
 unfold pe
 split
 ·simp
 ·have:=AI s l.reverse
  simp only[List.length_reverse]at this ⊢
  omega
theorem nY(s:PSys)(x:PSt)(w:Nat):(cS s x w).length=x.length:=by simp[cS]
theorem Deep.take{n:Nat}{x:PSt}(h:Deep n x)(s:PSys)(w:Nat):Deep (n+1) (cS s x w):=by
 refine⟨by rw[nY];exact h.len,fun l hl=>?_⟩
 unfold cS at hl
 rcases List.mem_or_eq_of_mem_set hl with hl|rfl
 ·have:=h.stk l hl;omega
 ·have:=DZ s (x.getD w [])
  by_cases hw:w<x.length
  ·have:=h.stk (x.getD w []) (by rw[List.getD_eq_getElem?_getD,List.getElem?_eq_getElem hw];exact List.getElem_mem _)
   omega
  ·rw[List.set_eq_of_length_le (by omega)]at hl
   have:=h.stk _ hl;omega
theorem Deep.step{n:Nat}{x:PSt}(h:Deep n x)(s:PSys)(w:Int):Deep (n+1) (Pt s x w).1:=by
 unfold Pt
 (repeat' split) <;> first|exact h.take s _|exact⟨by simp,by simp⟩
theorem DP{s:PSys}{u:List Int}{b:List Bool}{x:PStep}(h:fe s u b x=0):dd s x=0/\bq s u b x=true:=by
 unfold fe at h
 split at h
 ·rename_i h1;exact absurd h h1
 ·rename_i h1
  split at h
  ·rename_i h2;exact⟨Classical.byContradiction h1,h2⟩
  ·cases h
theorem x6{s:PSys}{c:PCls}(hc:c.good s):∀k,k<=c.steps.length->∃h,Tr s (c.steps.take k) h/\xi (uY s (c.steps.drop k) h)=0
 | 0,_=>⟨fZ s,by rw[List.take_zero];exact J1 s,by rw[List.drop_zero];exact hc.run⟩
 | k+1,hk=>by
  obtain⟨h,h1,h2⟩:=x6 hc k (by omega)
  have hd:c.steps.drop k=c.steps[k] :: c.steps.drop (k+1):=List.drop_eq_getElem_cons (by omega)
  rw[hd]at h2
  by_cases he:fe s h.units h.locks c.steps[k]=0
  ·rw[rM he]at h2
   refine⟨_,?_,h2⟩
   rw[List.take_succ_eq_append_getElem (by omega)]
   exact CP h1 he
  ·rw[jW he]at h2;exact absurd h2 he
theorem Hx{s:PSys}{c:PCls}(hc:c.good s){k:Nat}(hk:k<c.steps.length):∃h,Tr s (c.steps.take k) h/\fe s h.units h.locks (c.steps[k]'hk)=0:=by
 obtain⟨h,h1,h2⟩:=x6 hc k (by omega)
 have hd:c.steps.drop k=c.steps[k] :: c.steps.drop (k+1):=List.drop_eq_getElem_cons (by omega)
 rw[hd]at h2
 by_cases he:fe s h.units h.locks c.steps[k]=0
 ·exact⟨h,h1,he⟩
 ·rw[jW he]at h2;exact absurd h2 he
theorem xS{s:PSys}{c:PCls}(hc:c.good s){k:Nat}(hk:k<c.steps.length):jp s (c.steps.take k) (c.steps[k]'hk)=false:=by
 obtain⟨h,h1,h2⟩:=Hx hc hk
 have h3:=aaI (x:=c.steps[k]) h1
 rw[h2]at h3
 obtain⟨hp,_⟩:=DP h2
 unfold Ye at h3
 rw[if_neg (by rw[hp];decide)]at h3
 cases hb:jp s (c.steps.take k) c.steps[k] with
 | false=>rfl
 | true=>rw[hb]at h3;cases h3
theorem G2{s:PSys}{c:PCls}(hc:c.good s){k:Nat}(hk:k<=c.steps.length){i:Nat}(hi:i<s.locks.length):bal (c.steps.take k) i 1=0∨bal (c.steps.take k) i 1=1:=by
 obtain⟨h,h1,_⟩:=x6 hc k hk
 exact(h1.lo i hi).2
theorem x7{s:PSys}{c:PCls}(hc:c.good s):∀{k:Nat},k<=c.steps.length->∀i:Nat,0<=bal (c.steps.take k) i 0
 | 0,_,i=>by simp[bal]
 | k+1,hk,i=>by
  have ih:=x7 hc (k:=k) (by omega) i
  have hf:=xS hc (k:=k) (by omega)
  have hp:=hc.pre c.steps[k] (List.getElem_mem _)
  obtain⟨⟨k1,k2⟩,⟨o1,o2⟩,hcn,hc0⟩:=dy hp
  rw[List.take_succ_eq_append_getElem (by omega),i7]
  generalize c.steps[k]=x at *
  unfold eQ
  by_cases ho:x.on=i
  ·rw[if_pos ho]
   by_cases h1:x.kind=1
   ·rw[if_pos h1,if_pos rfl];have:=hcn (.inl h1);omega
   ·rw[if_neg h1]
    by_cases h2:x.kind=2
    ·rw[if_pos h2,if_pos rfl]
     unfold jp at hf
     rw[if_neg h1,if_pos h2,ho]at hf
     have:=of_decide_eq_false hf
     omega
    ·rw[if_neg h2]
     (repeat' split) <;> first|exact ih|omega
  ·rw[if_neg ho];exact ih
theorem Cg{s:PSys}{c:PCls}(hc:c.good s):(∀i:Nat,i<s.pools.length->bal c.steps i 0=0)/\(∀i:Nat,i<s.locks.length->bal c.steps i 1=0):=by
 obtain⟨h,h1,h2⟩:=x6 hc c.steps.length (Nat.le_refl _)
 rw[List.drop_length,yn]at h2
 rw[List.take_length]at h1
 have h3:=Pr h1
 rw[h2]at h3
 have h4:¬((∃i:Nat,i<s.pools.length/\0<bal c.steps i 0)∨(∃i:Nat,i<s.locks.length/\0<bal c.steps i 1)):=by
  intro hh;rw[if_pos hh]at h3;cases h3
 constructor
 ·intro i hi
  have:=x7 hc (k:=c.steps.length) (Nat.le_refl _) i
  rw[List.take_length]at this
  have:¬0<bal c.steps i 0:=fun hh=>h4 (.inl ⟨i,hi,hh⟩)
  omega
 ·intro i hi
  have:=G2 hc (k:=c.steps.length) (Nat.le_refl _) hi
  rw[List.take_length]at this
  have:¬0<bal c.steps i 1:=fun hh=>h4 (.inr ⟨i,hi,hh⟩)
  omega
theorem xb{s:PSys}{i:Nat}(h:(s.classes.getD i default).server=false):∀L:List PFr,bP (frE s i) L=0
 | []=>rfl
 | f :: L=>by
  rw[bJ,xb h L]
  unfold frE aW
  rw[if_neg];· rfl
  rintro ⟨h1,h2⟩
  rw[h1,Int.toNat_natCast,h]at h2;cases h2
where advN (s:PSys) (g:PFr):List PFr->List PFr
 | []=>if g.a+1<(aW s g).steps.length then [⟨g.c,g.a+1⟩] else [⟨g.c,0⟩]
 | h :: r=>if g.a+1<(aW s g).steps.length then ⟨g.c,g.a+1⟩ :: h :: r else advN s h r
theorem yb{l:List PFr}(h:l≠[]):∃r,l.reverse=me l :: r:=by
 cases hr:l.reverse with
 | nil=>exact absurd (List.reverse_eq_nil_iff.1 hr) h
 | cons f r =>
  refine⟨r,?_⟩
  have:l=r.reverse++[f]:=by rw[← List.reverse_reverse l,hr];simp
  subst this
  simp[me,List.getD_eq_getElem?_getD]
def chn(s:PSys):List PFr->Prop
 | []=>True
 | [f]=>gn s f=true
 | f :: g :: r=>gn s f=true/\k6 s g f=true/\chn s (g :: r)
theorem xK{s:PSys}:∀{l:List PFr} {p:Option PFr} {f:PFr},fmd s p (l++[f])=(fmd s p l && (gn s f && (match l.getLast?.or p with|none=>true|some q=>k6 s q f)))
 | [],p,f=>by
  rw[List.nil_append,ja,fmd,fmd]
  cases p <;> simp
 | g :: l,p,f=>by
  rw[List.cons_append,ja,ja,xK (l:=l)]
  have:(g :: l).getLast?.or p=l.getLast?.or (some g):=by
   cases l with
   | nil=>rfl
   | cons h r=>rw[List.getLast?_cons_cons];cases hh:(h :: r).getLast? with
    | none=>simp at hh
    | some q=>rfl
  rw[this]
  simp only[Bool.and_assoc]
theorem DH{s:PSys}:∀{l:List PFr},fmd s none l.reverse=true↔chn s l
 | []=>by simp[fmd,chn]
 | [f]=>by
  rw[List.reverse_singleton,ja,fmd,chn]
  simp
 | f :: g :: r=>by
  have ih:=DH (s:=s) (l:=g :: r)
  rw[List.reverse_cons,xK,Bool.and_eq_true,ih,chn,Bool.and_eq_true]
  have:(g :: r).reverse.getLast?.or none=some g:=by rw[List.getLast?_reverse];rfl
  rw[this]
  constructor
  ·rintro ⟨h1,h2,h3⟩;exact⟨h2,h3,h1⟩
  ·rintro ⟨h1,h2,h3⟩;exact⟨h3,h1,h2⟩
theorem Id{s:PSys}:∀{l:List PFr},chn s l->∀f∈l,gn s f=true
 | [],_,f,hf=>by simp at hf
 | [g],h,f,hf=>by
  rcases List.mem_cons.1 hf with rfl|hf
  ·exact h
  ·simp at hf
 | g :: k :: r,h,f,hf=>by
  rcases List.mem_cons.1 hf with rfl|hf
  ·exact h.1
  ·exact Id h.2.2 f hf
theorem fp{s:PSys}{l:List PFr}{c:Nat}:dr s l c=true↔l≠[]/\(l.reverse.getLast?.map (·.c))=some (c:Int)/\chn s l.reverse:=by
 rw[← DH,List.reverse_reverse,List.getLast?_reverse]
 cases l with
 | nil=>simp[dr]
 | cons f r =>
  unfold dr
  simp
def GR(i:Nat)(y:PStep):Int:=if y.on=i then (if y.kind=1 then y.cnt else if y.kind=2 then -y.cnt else 0) else 0
def Fh(i:Nat)(y:PStep):Int:=if y.on=i then (if y.kind=3 then 1 else if y.kind=4 then -1 else 0) else 0
theorem LM(i:Nat)(a:Int)(y:PStep):eQ i 0 a y=a+GR i y:=by
 unfold eQ GR
 (repeat' split) <;> first|rfl|omega|(simp_all)
theorem Ld(i:Nat)(a:Int)(y:PStep):eQ i 1 a y=a+Fh i y:=by
 unfold eQ Fh
 (repeat' split) <;> first|rfl|omega|(simp_all)
theorem nS{s:PSys}{f:PFr}(h:gn s f=true):aW s f∈s.classes:=by
 obtain⟨c1,c2,c3,c4⟩:=bK.1 h
 unfold aW;rw[List.getD_eq_getElem?_getD,List.getElem?_eq_getElem (by omega)];exact List.getElem_mem _
theorem u9{s:PSys}{f:PFr}(h:gn s f=true):(aW s f).steps.take (f.a+1).toNat=(aW s f).steps.take f.a.toNat++[b8 s f]:=by
 obtain⟨c1,c2,c3,c4⟩:=bK.1 h
 have e:(f.a+1).toNat=f.a.toNat+1:=by omega
 rw[e,List.take_succ_eq_append_getElem (by omega)]
 congr 2
 unfold b8
 rw[List.getD_eq_getElem?_getD,List.getElem?_eq_getElem (by omega)];rfl
theorem yG{s:PSys}{f:PFr}(h:gn s f=true)(i:Nat):frU s i ⟨f.c,f.a+1⟩=frU s i f+GR i (b8 s f):=by
 show bal ((aW s f).steps.take (f.a+1).toNat) i 0=_
 rw[u9 h,i7,LM];rfl
theorem yI{s:PSys}{f:PFr}(h:gn s f=true)(i:Nat):frL s i ⟨f.c,f.a+1⟩=frL s i f+Fh i (b8 s f):=by
 show bal ((aW s f).steps.take (f.a+1).toNat) i 1=_
 rw[u9 h,i7,Ld];rfl
theorem yv{s:PSys}{f:PFr}(h:gn s f=true)(hn:¬f.a+1<(aW s f).steps.length):(aW s f).steps.take (f.a+1).toNat=(aW s f).steps:=by
 obtain⟨c1,c2,c3,c4⟩:=bK.1 h
 exact List.take_of_length_le (by omega)
theorem KH{s:PSys}(hg:s.good){f:PFr}(h:gn s f=true)(hn:¬f.a+1<(aW s f).steps.length){i:Nat}(hi:i<s.pools.length):frU s i f+GR i (b8 s f)=0:=by
 rw[← yG h]
 show bal ((aW s f).steps.take (f.a+1).toNat) i 0=0
 rw[yv h hn]
 exact(Cg (hg.cls _ (nS h))).1 i hi
theorem LC{s:PSys}(hg:s.good){f:PFr}(h:gn s f=true)(hn:¬f.a+1<(aW s f).steps.length){i:Nat}(hi:i<s.locks.length):frL s i f+Fh i (b8 s f)=0:=by
 rw[← yI h]
 show bal ((aW s f).steps.take (f.a+1).toNat) i 1=0
 rw[yv h hn]
 exact(Cg (hg.cls _ (nS h))).2 i hi
theorem sn{s:PSys}{c:Int}(i:Nat):frU s i ⟨c,0⟩=0/\frL s i ⟨c,0⟩=0:=by simp[frU,frL,bal]
theorem zS{s:PSys}{g f:PFr}(h:k6 s g f=true):(b8 s g).kind=5:=by
 unfold k6 at h
 rw[Bool.and_eq_true]at h
 exact of_decide_eq_true h.1
theorem xw{i:Nat}{y:PStep}(h:y.kind=5):GR i y=0/\Fh i y=0:=by simp[GR,Fh,h]
theorem D3{s:PSys}{G:PFr->Int}{E:PStep->Int}(eV:∀f,gn s f=true->G ⟨f.c,f.a+1⟩=G f+E (b8 s f))
  (RY:∀f,gn s f=true->¬f.a+1<(aW s f).steps.length->G f+E (b8 s f)=0) (Ef:∀c,G ⟨c,0⟩=0) (hcall:∀y:PStep,y.kind=5->E y=0) :
  ∀(r:List PFr) (f:PFr),chn s (f :: r)->bP G (upR s (f :: r))=bP G (f :: r)+E (b8 s f)
 | [],f,h=>by
  have e1:=bJ G f []
  by_cases hn:f.a+1<(aW s f).steps.length
  ·have e2:=bJ G ⟨f.c,f.a+1⟩ []
   rw[mu hn,e2,e1,eV f h];omega
  ·have e2:=bJ G ⟨f.c,0⟩ []
   rw[AL hn,e2,e1,Ef]
   have:=RY f h hn
   omega
 | g :: r,f,h=>by
  have e1:=bJ G f (g :: r)
  by_cases hn:f.a+1<(aW s f).steps.length
  ·have e2:=bJ G ⟨f.c,f.a+1⟩ (g :: r)
   rw[mu hn,e2,e1,eV f h.1];omega
  ·have:=RY f h.1 hn
   rw[AX hn,D3 eV RY Ef hcall r g h.2.2,hcall _ (zS h.2.1),e1]
   omega
theorem CR{s:PSys}(hg:s.good):∀(r:List PFr) (f:PFr),chn s (f :: r)->chn s (upR s (f :: r))/\upR s (f :: r)≠[]/\(upR s (f :: r)).getLast?.map (·.c)=(f :: r).getLast?.map (·.c)
 | [],f,h=>by
  have hfo:gn s f=true:=h
  obtain⟨c1,c2,c3,c4⟩:=bK.1 hfo
  by_cases hn:f.a+1<(aW s f).steps.length
  ·rw[mu hn]
   exact⟨bK.2 ⟨c1,c2,by simp only;omega,hn⟩,by simp,rfl⟩
  ·rw[AL hn]
   exact⟨bK.2 ⟨c1,c2,Int.le_refl 0,by have:=(hg.cls _ (nS hfo)).l1;show (0:Int)<(aW s f).steps.length;omega⟩,by simp,rfl⟩
 | g :: r,f,h=>by
  obtain⟨c1,c2,c3,c4⟩:=bK.1 h.1
  by_cases hn:f.a+1<(aW s f).steps.length
  ·rw[mu hn]
   refine⟨⟨bK.2 ⟨c1,c2,by simp only;omega,hn⟩,h.2.1,h.2.2⟩,by simp,?_⟩
   rw[List.getLast?_cons_cons,List.getLast?_cons_cons]
  ·rw[AX hn]
   have ih:=CR hg r g h.2.2
   refine⟨ih.1,ih.2.1,?_⟩
   rw[ih.2.2,List.getLast?_cons_cons]
theorem PM{s:PSys}(i:Nat):∀(r:List PFr) (f:PFr),bP (frE s i) (upR s (f :: r))<=bP (frE s i) (f :: r)
 | [],f=>by
  by_cases hn:f.a+1<(aW s f).steps.length
  ·rw[mu hn];exact Int.le_refl _
  ·rw[AL hn];exact Int.le_refl _
 | g :: r,f=>by
  have e1:=bJ (frE s i) f (g :: r)
  by_cases hn:f.a+1<(aW s f).steps.length
  ·rw[mu hn];exact Int.le_refl _
  ·have ih:=PM (s:=s) i r g
   have h0:0<=frE s i f:=by unfold frE;split <;> omega
   rw[AX hn,e1];omega
theorem jg(G:PFr->Int):∀l:List PFr,bP G l.reverse=bP G l
 | []=>rfl
 | f :: l=>by rw[List.reverse_cons,eu,jg G l,bJ];omega
theorem iU(G:PFr->Int):∀(x:PSt) (w:Nat) (l:List PFr),w<x.length->bP G (frames (x.set w l))=bP G (frames x) - bP G (x.getD w [])+bP G l
 | [],_,_,h=>by simp at h
 | m :: x,0,l,_=>by
  simp only[frames,List.set_cons_zero,List.flatten_cons,k7,List.getD_cons_zero];omega
 | m :: x,w+1,l,h=>by
  have ih:=iU G x w l (by simpa using h)
  simp only[frames]at ih
  simp only[frames,List.set_cons_succ,List.flatten_cons,k7,List.getD_cons_succ];omega
theorem qc{s:PSys}:∀{x:PSt} {ws:List Nat} {w:Nat} {l:List PFr},f7 s x ws=true->(∀c,ws[w]?=some c->dr s l c=true)->f7 s (x.set w l) ws=true
 | [],ws,w,l,h,_=>by simpa using h
 | m :: x,[],w,l,_,_=>by cases w <;> rfl
 | m :: x,c :: ws,0,l,h,hl=>by
  simp only[f7,List.set_cons_zero,Bool.and_eq_true]at h ⊢
  exact⟨hl c rfl,h.2⟩
 | m :: x,c :: ws,w+1,l,h,hl=>by
  simp only[f7,List.set_cons_succ,Bool.and_eq_true]at h ⊢
  exact⟨h.1,qc h.2 fun c hc=>hl c (by simpa using hc)⟩
theorem tQ{s:PSys}:∀{x:PSt} {ws:List Nat} {w:Nat} {c:Nat},f7 s x ws=true->ws[w]?=some c->dr s (x.getD w []) c=true
 | [],[],w,c,_,hc=>by simp at hc
 | [],_ :: _,_,_,h,_=>by simp[f7]at h
 | m :: x,[],w,c,_,hc=>by simp at hc
 | m :: x,d :: ws,0,c,h,hc=>by
  simp only[f7,Bool.and_eq_true]at h
  simp at hc;subst hc;exact h.1
 | m :: x,d :: ws,w+1,c,h,hc=>by
  simp only[f7,Bool.and_eq_true]at h
  rw[List.getD_cons_succ]
  exact tQ h.2 (by simpa using hc)
theorem Db{s:PSys}(hg:s.good){y:PStep}(hp:dd s y=0)(hk:y.kind=5):gn s ⟨y.on,0⟩=true:=by
 obtain⟨_,⟨o1,o2⟩,_,_⟩:=dy hp
 unfold cD at o2
 rw[hk,if_neg (by decide),if_pos rfl]at o2
 refine bK.2 ⟨o1,o2,Int.le_refl 0,?_⟩
 have hm:aW s ⟨y.on,0⟩∈s.classes:=by
  unfold aW;rw[List.getD_eq_getElem?_getD,List.getElem?_eq_getElem (by simp only;omega)];exact List.getElem_mem _
 have:=(hg.cls _ hm).l1
 simp only;omega
theorem u6{s:PSys}(hg:s.good){l:List PFr}{c:Nat}(h:dr s l c=true):dr s (pe s l) c=true:=by
 obtain⟨h0,hb,hc⟩:=fp.1 h
 obtain⟨r,hr⟩:=yb h0
 have Vb:=xp h0
 have hfo:gn s (me l)=true:=(l7 h).2 _ Vb
 unfold pe
 split
 ·rename_i hk
  refine fp.2 ⟨by simp,?_,?_⟩
  ·rw[List.reverse_append,List.reverse_singleton,List.singleton_append,hr,List.getLast?_cons_cons,← hr];exact hb
  ·rw[List.reverse_append,List.reverse_singleton,List.singleton_append,hr]
   refine⟨Db hg (rY hg hfo) hk,?_,by rw[← hr];exact hc⟩
   unfold k6;rw[hk];simp
 ·rw[hr]at hb hc ⊢
  obtain⟨u1,u2,u3⟩:=CR hg r (me l) hc
  refine fp.2 ⟨by simpa using u2,?_,?_⟩
  ·rw[List.reverse_reverse,u3];exact hb
  ·rw[List.reverse_reverse];exact u1
theorem yw{s:PSys}{l:List PFr}{c:Nat}{G:PFr->Int}{E:PStep->Int}(h:dr s l c=true)(eV:∀f,gn s f=true->G ⟨f.c,f.a+1⟩=G f+E (b8 s f))
  (RY:∀f,gn s f=true->¬f.a+1<(aW s f).steps.length->G f+E (b8 s f)=0) (Ef:∀c,G ⟨c,0⟩=0) (hcall:∀y:PStep,y.kind=5->E y=0) :
  bP G (pe s l)=bP G l+E (b8 s (me l)):=by
 obtain⟨h0,hb,hc⟩:=fp.1 h
 obtain⟨r,hr⟩:=yb h0
 unfold pe
 split
 ·rename_i hk
  rw[eu,Ef,hcall _ hk]
 ·rw[hr]at hc ⊢
  rw[jg,D3 eV RY Ef hcall r (me l) hc,← hr,jg]
theorem CV{s:PSys}{l:List PFr}{c:Nat}(h:dr s l c=true)(i:Nat):bP (frE s i) (pe s l)<=bP (frE s i) l+(if (b8 s (me l)).kind=5/\(b8 s (me l)).on=i then 1 else 0):=by
 obtain⟨h0,hb,hc⟩:=fp.1 h
 obtain⟨r,hr⟩:=yb h0
 unfold pe
 by_cases hk:(b8 s (me l)).kind=5
 ·rw[if_pos hk,eu]
  have:frE s i ⟨(b8 s (me l)).on,0⟩<=(if (b8 s (me l)).kind=5/\(b8 s (me l)).on=i then 1 else 0):=by
   unfold frE
   by_cases ho:(b8 s (me l)).on=i
   ·rw[if_pos (c:=(b8 s (me l)).kind=5/\_) ⟨hk,ho⟩];split <;> omega
   ·rw[if_neg (fun h=>ho h.1),if_neg (fun h=>ho h.2)];exact Int.le_refl _
  omega
 ·rw[if_neg hk,jg,if_neg (fun h=>hk h.1)]
  have:=PM (s:=s) i r (me l)
  rw[← hr,jg]at this
  omega
theorem oL{n:Nat}{p:Nat->Bool}(h:(List.range n).any p=false){i:Nat}(hi:i<n):p i=false:=by
 rw[List.any_eq_false]at h
 have:=h i (List.mem_range.2 hi)
 simpa using this
theorem nh{s:PSys}{x:PSt}:FD s x=false↔(∀i,i<s.pools.length->¬(s.pools.getD i default).size<bP (frU s i) (frames x))/\(∀i,i<s.classes.length->(s.classes.getD i default).server=true->¬(s.classes.getD i default).workers<bP (frE s i) (frames x))/\(∀i,i<s.locks.length->¬1<bP (frL s i) (frames x)):=by
 unfold FD
 rw[Bool.or_eq_false_iff,Bool.or_eq_false_iff]
 constructor
 ·rintro ⟨⟨h1,h2⟩,h3⟩
  refine⟨fun i hi=>of_decide_eq_false (oL h1 hi),fun i hi hs=>?_,fun i hi=>of_decide_eq_false (oL (n:=s.locks.length) h3 hi)⟩
  have:=oL h2 hi
  rw[hs,Bool.true_and]at this
  exact of_decide_eq_false this
 ·rintro ⟨h1,h2,h3⟩
  refine⟨⟨CK fun i hi=>decide_eq_false (h1 i hi),CK fun i hi=>?_⟩,CK fun i hi=>decide_eq_false (h3 i hi)⟩
  cases hs:(s.classes.getD i default).server with
  | false=>rfl
  | true=>rw[Bool.true_and];exact decide_eq_false (h2 i hi hs)
theorem gG{s:PSys}{x:PSt}(hV:Valid s x){w:Nat}(hw:w<x.length):∃c,(wkL s)[w]?=some c/\dr s (x.getD w []) c=true:=by
 have hl:w<(wkL s).length:=by rw[← hV.len];exact hw
 exact⟨(wkL s)[w],List.getElem?_eq_getElem hl,tQ hV.fmd (List.getElem?_eq_getElem hl)⟩
theorem Hp{s:PSys}{x:PSt}(hV:Valid s x){w:Nat}(hw:w<x.length){i:Nat}(hi:i<s.pools.length):bP (frU s i) (frames (cS s x w))=bP (frU s i) (frames x)+GR i (sY s x w):=by
 obtain⟨c,_,hc⟩:=gG hV hw
 unfold cS
 rw[iU _ _ _ _ hw,yw (E:=GR i) hc (fun f h=>yG h i) (fun f h hn=>KH hV.good h hn hi) (fun c=>(sn i).1) (fun y h=>(xw h).1)]
 unfold sY;omega
theorem HA{s:PSys}{x:PSt}(hV:Valid s x){w:Nat}(hw:w<x.length){i:Nat}(hi:i<s.locks.length):bP (frL s i) (frames (cS s x w))=bP (frL s i) (frames x)+Fh i (sY s x w):=by
 obtain⟨c,_,hc⟩:=gG hV hw
 unfold cS
 rw[iU _ _ _ _ hw,yw (E:=Fh i) hc (fun f h=>yI h i) (fun f h hn=>LC hV.good h hn hi) (fun c=>(sn i).2) (fun y h=>(xw h).2)]
 unfold sY;omega
theorem Hr{s:PSys}{x:PSt}(hV:Valid s x){w:Nat}(hw:w<x.length)(i:Nat):bP (frE s i) (frames (cS s x w))<=bP (frE s i) (frames x)+(if (sY s x w).kind=5/\(sY s x w).on=i then 1 else 0):=by
 obtain⟨c,_,hc⟩:=gG hV hw
 have:=CV hc i
 unfold cS sY
 rw[iU _ _ _ _ hw]
 omega
theorem sm{s:PSys}{x:PSt}(hV:Valid s x){w:Nat}(hw:w<x.length)(ha:eR s x w=true):Valid s (cS s x w):=by
 have hg:=hV.good
 obtain⟨c,hc1,hc2⟩:=gG hV hw
 obtain⟨o1,o2,o3⟩:=nh.1 hV.nover
 have hp:=rY hg (hV.top hw)
 refine⟨hg,by rw[nY];exact hV.len,?_,nh.2 ⟨fun i hi=>?_,fun i hi hs=>?_,fun i hi=>?_⟩⟩
 ·unfold cS
  refine qc hV.fmd fun d hd=>?_
  rw[hc1]at hd;cases hd
  exact u6 hg hc2
 ·rw[Hp hV hw hi]
  have h1:=o1 i hi
  have hpk:=hg.pool (s.pools.getD i default) (by rw[List.getD_eq_getElem?_getD,List.getElem?_eq_getElem hi];exact List.getElem_mem _)
  unfold PPool.bad at hpk
  unfold eR at ha
  have hp':dd s (sY s x w)=0:=hp
  generalize sY s x w=y at *
  obtain⟨⟨k1,k2⟩,⟨on1,on2⟩,hcn,hc0⟩:=dy hp'
  unfold GR
  by_cases ho:y.on=i
  ·rw[if_pos ho]
   by_cases hk:y.kind=1
   ·rw[if_pos hk]
    unfold BB at ha
    rw[if_pos hk,ho,Int.toNat_natCast]at ha
    simp only[Bool.or_eq_true,Bool.and_eq_true,decide_eq_true_eq]at ha
    omega
   ·rw[if_neg hk]
    by_cases hk2:y.kind=2
    ·rw[if_pos hk2];have:=hcn (.inr hk2);omega
    ·rw[if_neg hk2];omega
  ·rw[if_neg ho];omega
 ·have h1:=o2 i hi hs
  have h2:=Hr hV hw i
  unfold eR at ha
  generalize sY s x w=y at *
  by_cases hk:y.kind=5/\y.on=i
  ·rw[if_pos hk]at h2
   unfold BB at ha
   rw[if_neg (by rw[hk.1];decide),if_neg (by rw[hk.1];decide),if_pos hk.1,hk.2,Int.toNat_natCast]at ha
   have:=of_decide_eq_true ha
   omega
  ·rw[if_neg hk]at h2;omega
 ·rw[HA hV hw hi]
  have h1:=o3 i hi
  unfold eR at ha
  generalize sY s x w=y at *
  unfold Fh
  by_cases ho:y.on=i
  ·rw[if_pos ho]
   by_cases hk:y.kind=3
   ·rw[if_pos hk]
    unfold BB at ha
    rw[if_neg (by rw[hk];decide),if_pos hk,ho,Int.toNat_natCast]at ha
    have:=of_decide_eq_true ha
    omega
   ·rw[if_neg hk]
    by_cases hk2:y.kind=4
    ·rw[if_pos hk2];omega
    ·rw[if_neg hk2];omega
  ·rw[if_neg ho];omega
theorem D2:∀{l:List PCls} {i c:Nat},c∈wkC i l->∃j,c=i+j/\j<l.length/\(l.getD j default).server=false
 | [],_,_,h=>by simp[wkC]at h
 | k :: l,i,c,h=>by
  rw[wkC]at h
  rcases List.mem_append.1 h with h|h
  ·cases hs:k.server with
   | true=>rw[hs,if_pos rfl]at h;simp at h
   | false =>
    rw[hs,if_neg (by decide)]at h
    have:=List.eq_of_mem_replicate h
    exact⟨0,by omega,by simp,by simpa using hs⟩
  ·obtain⟨j,h1,h2,h3⟩:=D2 h
   exact⟨j+1,by omega,by simp;omega,by simpa using h3⟩
theorem AK{s:PSys}{c:Nat}(h:c∈wkL s):c<s.classes.length/\(s.classes.getD c default).server=false:=by
 obtain⟨j,h1,h2,h3⟩:=D2 h
 have:c=j:=by omega
 subst this
 exact⟨h2,h3⟩
theorem Gi{s:PSys}(hg:s.good){c:Nat}(h:c<s.classes.length):gn s ⟨c,0⟩=true:=by
 refine bK.2 ⟨Int.natCast_nonneg _,by simp only;omega,Int.le_refl 0,?_⟩
 have hm:aW s ⟨c,0⟩∈s.classes:=by
  unfold aW;rw[List.getD_eq_getElem?_getD,List.getElem?_eq_getElem (by simp only;omega)];exact List.getElem_mem _
 have:=(hg.cls _ hm).l1
 simp only;omega
theorem r6{s:PSys}(hg:s.good):∀ws:List Nat,(∀c∈ws,c<s.classes.length)->f7 s (ws.map fun c:Nat=>[(⟨(c:Int),0⟩:PFr)]) ws=true
 | [],_=>rfl
 | c :: ws,h=>by
  rw[List.map_cons,f7,Bool.and_eq_true]
  refine⟨?_,r6 hg ws fun d hd=>h d (by simp[hd])⟩
  unfold dr
  rw[ja,fmd,Gi hg (h c (by simp))]
  simp
theorem sB{s:PSys}{G:PFr->Int}(hG:∀c,c∈wkL s->G ⟨c,0⟩=0):∀ws:List Nat,(∀c∈ws,c∈wkL s)->bP G (frames (ws.map fun c:Nat=>[(⟨(c:Int),0⟩:PFr)]))=0
 | [],_=>rfl
 | c :: ws,h=>by
  have ih:=sB hG ws fun d hd=>h d (by simp[hd])
  unfold frames at ih ⊢
  rw[List.map_cons,List.flatten_cons,k7,ih,bJ,hG c (h c (by simp))];rfl
theorem AP{s:PSys}(hg:s.good):Valid s (mF s):=by
 refine⟨hg,by unfold mF;rw[List.length_map],r6 hg _ fun c hc=>(AK hc).1,nh.2 ⟨fun i hi=>?_,fun i hi hs=>?_,fun i hi=>?_⟩⟩
 ·unfold mF
  rw[sB (fun c _=>(sn i).1) _ fun c hc=>hc]
  have hpk:=hg.pool (s.pools.getD i default) (by rw[List.getD_eq_getElem?_getD,List.getElem?_eq_getElem hi];exact List.getElem_mem _)
  unfold PPool.bad at hpk
  omega
 ·unfold mF
  have h0:∀c,c∈wkL s->frE s i ⟨c,0⟩=0:=fun c hc=>by
   unfold frE aW
   rw[if_neg]
   rintro ⟨h1,h2⟩
   rw[Int.toNat_natCast,(AK hc).2]at h2;cases h2
  rw[sB h0 _ fun c hc=>hc]
  have:=(hg.cls (s.classes.getD i default) (by rw[List.getD_eq_getElem?_getD,List.getElem?_eq_getElem hi];exact List.getElem_mem _)).w0
  omega
 ·unfold mF
  rw[sB (fun c _=>(sn i).2) _ fun c hc=>hc]
  omega
def srv(s:PSys)(f:PFr):Int:=if (aW s f).server=true then 1 else 0
theorem GI{s:PSys}(hg:s.good){q f:PFr}(hq:gn s q=true)(h:k6 s q f=true):srv s f=1:=by
 unfold k6 at h
 rw[Bool.and_eq_true,decide_eq_true_eq,decide_eq_true_eq]at h
 obtain⟨c1,c2,c3,c4⟩:=bK.1 hq
 have hf:=xS (hg.cls _ (nS hq)) (k:=q.a.toNat) (by omega)
 have he:(aW s q).steps[q.a.toNat]'(by omega)=b8 s q:=by
  unfold b8;rw[List.getD_eq_getElem?_getD,List.getElem?_eq_getElem (by omega)];rfl
 rw[he]at hf
 unfold jp at hf
 rw[h.1,if_neg (by decide),if_neg (by decide),if_neg (by decide),if_neg (by decide),h.2]at hf
 unfold srv aW
 rw[if_pos (by simpa using hf)]
theorem BE{s:PSys}(hg:s.good):∀(r:List PFr) (f:PFr),chn s (f :: r)->(r.length:Int)<=bP (srv s) (f :: r)
 | [],f,_=>by
  rw[bJ]
  have:0<=srv s f:=by unfold srv;split <;> omega
  simp only[List.length_nil]
  show ((0:Nat):Int)<=srv s f+0
  omega
 | g :: r,f,h=>by
  have ih:=BE hg r g h.2.2
  have hfo:gn s g=true:=Id h.2.2 g (by simp)
  rw[bJ,GI hg hfo h.2.1,List.length_cons]
  omega
theorem BD{s:PSys}:∀{L:List PFr},(∀f∈L,gn s f=true)->bP (srv s) L<=((List.range s.classes.length).map fun i=>bP (frE s i) L).sum
 | [],_=>by
  have:∀n:Nat,((List.range n).map fun i=>bP (frE s i) []).sum=0:=by
   intro n
   induction n with
   | zero=>rfl
   | succ n ih=>rw[List.range_succ,List.map_append,List.sum_append,ih];rfl
  rw[this];exact Int.le_refl _
 | f :: L,h=>by
  have ih:=BD (L:=L) fun q hq=>h q (by simp[hq])
  obtain⟨c1,c2,c3,c4⟩:=bK.1 (h f (by simp))
  have e:∀n:Nat,((List.range n).map fun i=>bP (frE s i) (f :: L)).sum=((List.range n).map fun i=>frE s i f).sum+((List.range n).map fun i=>bP (frE s i) L).sum:=by
   intro n
   induction n with
   | zero=>rfl
   | succ n ih=>rw[List.range_succ];simp only[List.map_append,List.sum_append,List.map_cons,List.map_nil,List.sum_cons,List.sum_nil];rw[ih];have:=bJ (frE s n) f L;omega
  have k:∀n:Nat,(if f.c.toNat<n then srv s f else 0)<=((List.range n).map fun i=>frE s i f).sum:=by
   intro n
   induction n with
   | zero=>simp
   | succ n ih =>
    rw[List.range_succ]
    simp only[List.map_append,List.sum_append,List.map_cons,List.map_nil,List.sum_cons,List.sum_nil]
    by_cases hn:f.c.toNat=n
    ·have:frE s n f=srv s f:=by
      unfold frE srv
      have:f.c=(n:Int):=by omega
      rw[this];simp
     rw[if_neg (by omega)]at ih
     rw[if_pos (by omega),this];omega
    ·have h0:0<=frE s n f:=by unfold frE;split <;> omega
     by_cases hlt:f.c.toNat<n
     ·rw[if_pos hlt]at ih;rw[if_pos (by omega)];omega
     ·rw[if_neg hlt]at ih;rw[if_neg (by omega)];omega
  have:=k s.classes.length
  rw[if_pos (by omega)]at this
  rw[e,bJ]
  omega
theorem kB{s:PSys}(i:Nat):∀{x:PSt} {l:List PFr},l∈x->bP (frE s i) l<=bP (frE s i) (frames x)
 | m :: x,l,h=>by
  have h0:∀L:List PFr,0<=bP (frE s i) L:=by
   intro L
   induction L with
   | nil=>exact Int.le_refl _
   | cons f L ih =>
    have:0<=frE s i f:=by unfold frE;split <;> omega
    rw[bJ];omega
  simp only[frames,List.flatten_cons,k7]
  rcases List.mem_cons.1 h with rfl|h
  ·have:=h0 x.flatten;omega
  ·have:=kB (s:=s) i h
   have:=h0 m
   simp only[frames]at *
   omega
theorem xD{s:PSys}{x:PSt}(hV:Valid s x):Deep 25 x:=by
 have hg:=hV.good
 refine⟨hV.l24,fun l hl=>?_⟩
 obtain⟨w,hw,rfl⟩:=List.getElem_of_mem hl
 obtain⟨c,_,hc⟩:=gG hV hw
 have hgd:x.getD w []=x[w]:=by rw[List.getD_eq_getElem?_getD,List.getElem?_eq_getElem hw];rfl
 rw[hgd]at hc
 obtain⟨h0,hb,hch⟩:=fp.1 hc
 obtain⟨r,hr⟩:=yb h0
 rw[hr]at hch
 have h1:=BE hg r _ hch
 rw[← hr,jg]at h1
 have h2:=BD (s:=s) (l7 hc).2
 obtain⟨_,o2,_⟩:=nh.1 hV.nover
 have h3:∀n:Nat,n<=s.classes.length->((List.range n).map fun i=>bP (frE s i) x[w]).sum<=4*n:=by
  intro n
  induction n with
  | zero=>simp
  | succ n ih =>
   intro hn
   have ih:=ih (by omega)
   rw[List.range_succ]
   simp only[List.map_append,List.sum_append,List.map_cons,List.map_nil,List.sum_cons,List.sum_nil]
   have:bP (frE s n) x[w]<=4:=by
    have hm:=kB (s:=s) n hl
    cases hs:(s.classes.getD n default).server with
    | false=>rw[xb hs];omega
    | true =>
     have:=o2 n (by omega) hs
     have hw4:=(hg.cls (s.classes.getD n default) (by rw[List.getD_eq_getElem?_getD,List.getElem?_eq_getElem (by omega)];exact List.getElem_mem _)).w4
     omega
   omega
 have h4:=h3 s.classes.length (Nat.le_refl _)
 have hnc:=hg.nc
 have hlen:x[w].length=r.length+1:=by rw[← List.length_reverse,hr];rfl
 omega
theorem wP(n:Int):IntKind.u8.wrap n=n % 256:=by simp[IntKind.wrap,IntKind.signed,IntKind.bits]
abbrev u8D(n:Nat):D:=.int .u8 n
abbrev qT(l:List Nat):List D:=l.map u8D
def kfr(f:PFr):List Nat:=[f.c.toNat,f.a.toNat]
def kst(l:List PFr):List Nat:=l.length :: l.flatMap kfr
def kX(x:PSt):List Nat:=x.flatMap kst
def wb(x:PSt):List UInt8:=fL (qT (kX x))
structure KFit (x:PSt):Prop where
 len:x.length<=24
 stk:∀l∈x,l.length<=25
 fr:∀l∈x,∀f∈l,0<=f.c/\f.c<100/\0<=f.a/\f.a<100
theorem n6{s:PSys}{x:PSt}(hV:Valid s x):KFit x:=by
 have hd:=xD hV
 refine⟨hd.len,hd.stk,fun l hl f hf=>?_⟩
 have hfo:=hV.frames f (List.mem_flatten.2 ⟨l,hl,hf⟩)
 obtain⟨c1,c2,c3,c4⟩:=bK.1 hfo
 have h12:=(hV.good.cls _ (nS hfo)).l12
 have hnc:=hV.good.nc
 omega
theorem zD(l:List Nat):ju (qT l)=true:=by simp[ju,List.all_eq_true]
theorem Lg{x:PSt}{k:Nat}{l:List PFr}{r:PSt}(hd:x.drop k=l :: r):kX (x.take (k+1))=kX (x.take k)++kst l:=by
 rw[aC hd];simp[kX]
theorem Qj{x:PSt}(hx:KFit x):∀k,(kX (x.take k)).length<=51*k:=by
 intro k
 have key:∀y:PSt,(∀l∈y,l.length<=25)->(kX y).length<=51*y.length:=by
  intro y
  induction y with
  | nil=>intro _;simp[kX]
  | cons l y ih =>
   intro h
   have h1:=h l (by simp)
   have h2:=ih fun q hq=>h q (by simp[hq])
   have h3:(kst l).length=1+2*l.length:=by
    unfold kst
    rw[List.length_cons]
    have:∀m:List PFr,(m.flatMap kfr).length=2*m.length:=by
     intro m
     induction m with
     | nil=>rfl
     | cons f m ih=>rw[List.flatMap_cons,List.length_append,ih];simp[kfr];omega
    rw[this];omega
   have h4:kX (l :: y)=kst l++kX y:=by simp[kX]
   rw[h4,List.length_append,List.length_cons]
   omega
 have:=key (x.take k) fun l hl=>hx.stk l (List.mem_of_mem_take hl)
 rw[List.length_take]at this
 omega
def V9(ds:List D)(v:AV):Prop:=∃x:PSt,ds=[stD x]/\KFit x/\v=.dat (.str (wb x))
theorem Qo:OkF Tryz.prog 55 (au V9):=by
 refine az Tryz.func55 rfl (by decide) ?_
 rintro ds v ⟨x,rfl,hx,rfl⟩
 have hxl:=hx.len
 have sS:(aG x).length=x.length:=by simp
 refine al [2] (Γ:=tbl []) ae _ _ _ ?_
 simp only[go_sem,Tryz.ntmps55,stD]
 refine av (cQ 3 none rfl (Nat.zero_le _)) ?_
 refine a6 (Γ:=tbl []) ae _ _ _ ?_
 simp only[go_sem,sS]
 refine ap (fun k:Nat=>⟨an 40 [(1,.ptr 0 0 0),(3,.sl 1 0 (kX (x.take k)).length),(9,.dat (.sl none (aG x))),(10,.dat (.int .i64 x.length)),(11,.dat (.int .i64 k))],[stO x,.row none (qT (kX (x.take k)))],0,[]⟩)
  (fun k=>k<=x.length) (fun k=>x.length - k) 0 (Nat.zero_le _) ?_ ?_
 ·rw[List.take_zero]
  exact a7 (by simp only[go_sem,Int.natCast_zero,kX,List.flatMap_nil,List.length_nil])
 rintro k hk
 cases hd:x.drop k with
 | nil =>
  obtain rfl:k=x.length:=aj hd hk
  have hk2:¬(x.length:Int)<x.length:=by omega
  rw[List.take_length]
  refine av (aq 1 (ag:=none) rfl (Nat.zero_le _)) ?_
  refine a6 (Γ:=tbl []) ae _ _ _ ?_
  have hW:List.take (kX x).length (qT (kX x))=qT (kX x):=List.take_of_length_le (by simp)
  have hLL:(kX x).length<=(qT (kX x)).length:=by simp
  have hb:=zD (kX x)
  simp only[go_sem,hk2,hW,hLL,List.drop_zero,hb]
  exact am (.inl rfl) [2] rfl trivial rfl
 | cons l r =>
 have hlt:=ao hd
 have hk2:(k:Int)<x.length:=by omega
 have hk0:(0:Int)<=k:=Int.natCast_nonneg k
 have hn:=ak (f:=eY) hd
 have hll:=hx.stk l (aN hd)
 have hff:=hx.fr l (aN hd)
 have hfl:(ed l).length=l.length:=by simp
 have hkl:=Qj hx k
 have hsn:=Lg hd
 have hwr:IntKind.u8.wrap (l.length:Int)=l.length:=by rw[wP];omega
 refine a6 (Γ:=tbl []) ae _ _ _ ?_
 generalize kX (x.take k)=A at *
 have hAl:(qT A).length=A.length:=by simp
 have hAt:List.take A.length (qT A)=qT A:=List.take_of_length_le (by simp)
 simp only[go_sem,hk2,hk0,hlt,hn,sS,eY,hfl,hAl,hAt,Nat.le_refl,hwr]
 refine⟨by omega,by omega,?_⟩
 let P:=fun j:Nat=>A++(l.length :: (l.take j).flatMap kfr)
 have hP0:P 0=A++[l.length]:=by simp[P]
 have hPl:P l.length=A++kst l:=by simp only[P,List.take_length,kst]
 have hPn:∀j,(P j).length<=A.length+1+2*j:=by
  intro j
  have:∀m:List PFr,(m.flatMap kfr).length=2*m.length:=by
   intro m
   induction m with
   | nil=>rfl
   | cons f m ih=>rw[List.flatMap_cons,List.length_append,ih];simp[kfr];omega
  simp only[P,List.length_append,List.length_cons,this,List.length_take]
  omega
 have hPs:∀j f r2,l.drop j=f :: r2->P (j+1)=P j++kfr f:=by
  intro j f r2 hd2
  simp only[P]
  rw[aC hd2];simp
 refine ap (fun j:Nat=>⟨an 40 [(1,.ptr 0 0 0),(3,.sl 1 0 (P j).length),(9,.dat (.sl none (aG x))),(10,.dat (.int .i64 x.length)),(11,.dat (.int .i64 k)),(21,.dat (.sl (some 2) (ed l))),(22,.dat (.int .i64 l.length)),(23,.dat (.int .i64 j))],[stO x,.row none (qT (P j))],0,[]⟩)
  (fun j=>j<=l.length) (fun j=>l.length - j) 0 (Nat.zero_le _) ?_ ?_
 ·rw[hP0,show qT (A++[l.length])=qT A++[u8D l.length] from by simp,List.length_append]
  refine aP (own:=[_,_]) (ex:=[_]) (Nat.zero_le _) ?_ ?_ ?_
  ·simp only[go_sem,Int.natCast_zero]
  ·simp only[go_sem]
  ·simp only[go_sem,Obj.under,AV.unders,AV.under]
 rintro j hj
 refine a6 (Γ:=tbl []) ae _ _ _ ?_
 have hPj:=hPn j
 cases hd2:l.drop j with
 | nil =>
  obtain rfl:j=l.length:=aj hd2 hj
  have hj2:¬(l.length:Int)<l.length:=by omega
  simp only[go_sem,hj2]
  refine⟨ac.2 (by omega),k+1,by omega,by omega,?_⟩
  rw[hPl,hsn]
  exact a7 (by simp only[go_sem,Int.natCast_add,Int.cast_ofNat_Int])
 | cons f r2 =>
 have re:=ao hd2
 have hj2:(j:Int)<l.length:=by omega
 have hj0:(0:Int)<=j:=Int.natCast_nonneg j
 have hn2:=ak (f:=frD) hd2
 obtain⟨f1,f2,f3,f4⟩:=hff f (aN hd2)
 have hw1:IntKind.u8.wrap f.c=f.c:=by rw[wP];omega
 have hw2:IntKind.u8.wrap f.a=f.a:=by rw[wP];omega
 have hPs:=hPs j f r2 hd2
 have e1:qT (P (j+1))=qT (P j)++[.int .u8 f.c,.int .u8 f.a]:=by
  rw[hPs];simp[kfr,Int.toNat_of_nonneg f1,Int.toNat_of_nonneg f3]
 have e2:(P (j+1)).length=(P j).length+2:=by rw[hPs];simp[kfr]
 have abj:(qT (P j)).length=(P j).length:=by simp
 have abk:List.take (P j).length (qT (P j))=qT (P j):=List.take_of_length_le (by simp)
 simp only[go_sem,hj2,hj0,re,hn2,frD,hfl,hw1,hw2,abj,abk,Nat.le_refl]
 refine⟨by omega,by omega,ac.2 (by omega),j+1,by omega,by omega,?_⟩
 rw[e1,e2]
 refine aP (own:=[_,_]) (ex:=[_,_]) (Nat.zero_le _) ?_ ?_ ?_
 ·simp only[go_sem,Int.natCast_add,Int.cast_ofNat_Int]
 ·simp only[go_sem]
 ·simp only[go_sem,Obj.under,AV.unders,AV.under]
end Go.AM

