/- Parts of the proof of a law of chapter 30, put behind one another. -/
import Derived.Test.YtnbppaolinopeaaZB
import Derived.Still
import Derived.LoopN
import Derived.ScopeJumps
set_option linter.unusedVariables false
set_option linter.unusedSimpArgs false
namespace Go.Proofs.Ytnbppaolinopeaa
open Go.RowKit Go.Proofs
section
def allG(w:World)(g:Gh):Gh:=⟨fun k=>max (g.I k) (match w.heap[k]? with|some (.cells c _ _)=>c.size|_=>0),g.φ⟩
def borL(S:St):V->Option V
 |.s v=>some (.s v)
 |.list z xs=>some (.list z xs)
 |.own _ _ z xs=>some (.list z xs)
 |.view l e=>(cont S (.view l e)).map fun r=>.list r.1 r.2
 |.sview l e lo n=>(cont S (.sview l e lo n)).map fun r=>.list r.1 r.2
 |_=>none
def wb_(S:St):List V->Option (List V)
 |[]=>some []
 |x::r=>(borL S x).bind fun y=>(wb_ S r).bind fun q=>some (y::q)
def bor(S:St):V->Option V
 |.agg cs=>(wb_ S cs).map .agg
 |x=>borL S x
def bors(S:St):List Opd->Option (List V)
 |[]=>some []
 |x::r=>(bor S (z7_ S x)).bind fun y=>(bors S r).bind fun q=>some (y::q)
def isS:V->Bool
 |.s _=>true
 |_=>false
def t2_:V->Bool
 |.agg cs=>cs.all isS
 |x=>isS x
def s1_:V->Bool
 |.tup vs=>vs.all t2_
 |x=>t2_ x
theorem pG_{g g':Gh}{w:World}{x:V}{v:Value}(hs:s1_ x=true)(h:Rep g w x v):Rep g' w x v:=by
 have hl:∀ {x:V} {v:Value},isS x=true->Rep g w x v->Rep g' w x v:=by
  intro x v hs h
  cases x<;>simp[isS]at hs
  cases h with|s h=>exact .s h
 have ha:∀ {x:V} {v:Value},t2_ x=true->Rep g w x v->Rep g' w x v:=by
  intro x v hs h
  by_cases hag:∃cs,x=.agg cs
  .obtain⟨cs,rfl⟩:=hag
   simp only[t2_,zzh_]at hs
   cases h with
   |agg e1 e2 e3=>exact .agg e1 e2 (fun j u c hu hc=>hl (hs u (zzd_ hu)) (e3 j u c hu hc))
  .exact hl (by cases x<;>first|exact hs|exact absurd ⟨_,rfl⟩ hag) h
 by_cases ht:∃vs,x=.tup vs
 .obtain⟨vs,rfl⟩:=ht
  simp only[s1_,zzh_]at hs
  cases h with
  |tup e1 e3=>exact .tup e1 (fun j u c hu hc=>ha (hs u (zzd_ hu)) (e3 j u c hu hc))
 .exact ha (by cases x<;>first|exact hs|exact absurd ⟨_,rfl⟩ ht) h
section
variable{P:Program}{F:Fr}{g:Gh}{w:World}{S:St}{a:Act}
theorem pw_{b o:Nat}{v:Value}(h:w.cell? ⟨b,o,none⟩=some v):o<(allG w g).I b:=by
 simp only[World.cell?]at h
 simp only[allG]
 split at h
 .next c e m hc =>
  simp at h
  have:=(zzm_.1 h).1
  rw[hc]
  simp only
  omega
 .cases h
theorem vJ_{x:V}{v:Value}(hi:immC x=true)(h:Rep g w x v):Rep (allG w g) w x v:=by
 refine h.keep (fun b o ho=>⟨by simp only[allG];omega,rfl⟩) (fun _ _ _=>rfl) (fun p b o hs=>?_)
 obtain⟨_,e⟩:=xp_ hi hs
 subst e
 simp[immC]at hi
theorem vg_{z:Nat}{xs:List V}{v:Value}(h:Reads g w z xs v):Rep (allG w g) w (.list z xs) v:=by
 obtain⟨A,c,vals,rfl,h1,h2,h3,h4,h5,h6,h7⟩:=h
 refine .list vals h1 h2 h3 h4 h5 (fun j hj=>?_) (fun j u hu=>vJ_ (h5 u (zzd_ hu)) (h7 j u hu))
 obtain⟨b,q,e1,e2⟩:=h6 j hj
 exact⟨b,q,e1,pw_ e2,e2⟩
theorem uH_(h:Rel F g w S a){x y:V}{v:Value}(hx:OpdOk F g w S a x v)(hb:borL S x=some y):Rep (allG w g) w y v/\immC y=true:=by
 cases x with
 |s u=>simp[borL]at hb;subst hb;exact⟨vJ_ rfl hx.rep,rfl⟩
 |list z xs=>simp[borL]at hb;subst hb;exact⟨vJ_ rfl hx.rep,rfl⟩
 |own m e z xs=>simp[borL]at hb;subst hb;exact⟨vg_ hx.rep.reads_own,rfl⟩
 | view l e =>
   simp only[borL,zzb_]at hb
   obtain⟨⟨z,xs⟩,h1,rfl⟩:=hb
   exact⟨vg_ (yQ_ h hx h1),rfl⟩
 | sview l e lo n =>
   simp only[borL,zzb_]at hb
   obtain⟨⟨z,xs⟩,h1,rfl⟩:=hb
   exact⟨vg_ (yQ_ h hx h1),rfl⟩
 |_=>simp[borL]at hb
theorem tP_:∀ {cs ys:List V},wb_ S cs=some ys->ys.length=cs.length/\∀(j:Nat) (x:V),cs[j]?=some x->∃y,ys[j]?=some y/\borL S x=some y
 |[],ys,h=>by simp[wb_]at h;subst h;simp
 | x :: r, ys, h => by
   simp only[wb_,zza_]at h
   obtain⟨y,h1,q,h2,h3⟩:=h
   cases h3
   obtain⟨k1,k2⟩:=tP_ h2
   refine⟨by simp[k1],fun j x' hj=>?_⟩
   cases j with
   |zero=>simp at hj;subst hj;exact⟨y,rfl,h1⟩
   |succ j=>simp at hj ⊢;exact k2 j x' hj
theorem nU_(h:Rel F g w S a){x:Operand}{q:Opd}{y:V}(hx:opd F x=some q)(hb:bor S (z7_ S q)=some y):Rep (allG w g) w y (a.eval x)/\immA y=true:=by
 have hok:=y5_ h hx
 by_cases hag:∃cs,z7_ S q=.agg cs
 .obtain⟨cs,hcs⟩:=hag
  have hrep:=hok.rep
  rw[hcs]at hb hrep
  simp only[bor,zzb_]at hb
  obtain⟨ys,h1,rfl⟩:=hb
  obtain⟨k1,k2⟩:=tP_ h1
  generalize hv:a.eval x=v at hrep
  cases hrep with
  | agg e1 e2 e3 =>
    rename_i vs
    have hleaf:∀(j:Nat) (u:V) (c:Value),cs[j]?=some u->vs[j]?=some c->OpdOk F g w S a u c:=by
     intro j u c hu hc
     have hlf:leaf u=true:=(e3 j u c hu hc).leaf_one (e2 c (by simpa using Array.mem_of_getElem? hc))
     cases q with
     | c v0 =>
       obtain⟨rfl,hv0⟩:=qI_ hx
       simp only[z7_,us_ hv0]at hcs
       cases hcs
     | t t =>
       obtain⟨rfl,_⟩:=xo_ hx
       have hs:(S.tm t).sub [j]=some u:=by rw[show S.tm t=.agg cs from hcs];simp[V.sub,hu]
       have hvs:vsub [j] (Act.tv a t)=some c:=by rw[show Act.tv a t=.agg vs from hv];simp[vsub,hc]
       exact⟨e3 j u c hu hc,h.link t [j] u c hs hvs,h.ept t [j] u hs,fun b o e=>h.ptr (.t t) _ _ [j] b o ⟨rfl,rfl⟩ (by rw[hs,e])⟩
     | v i =>
       obtain⟨t,rfl,hi⟩:=vv_ hx
       have hval:z8_ F g w a (.var i)=some (a.eval (.tmp t)):=by simp[z8_,hi,Act.tv,Act.eval]
       simp only[z7_]at hcs
       cases hvi:S.vs[i]? with
       |none=>rw[hvi]at hcs;cases hcs
       | some x0 =>
         rw[hvi]at hcs
         simp only at hcs
         split at hcs
         .next hf =>
          subst hcs
          have hs:(V.agg cs).sub [j]=some u:=by simp[V.sub,hu]
          have hn:=h.novw (.var i) _ hvi [j]
          have he:=sd_ h (l:=.var i) hvi hf [j] u hs
          refine⟨e3 j u c hu hc,?_,by rw[he];exact zzn_ _,fun b o e=>h.ptr (.l (.var i)) _ _ [j] b o ⟨hvi,hval⟩ (by rw[hs,e])⟩
          cases u<;>first|trivial|exact absurd hs (hn.1 _ _)|exact absurd hs (hn.2.1 _ _ _ _)|exact absurd hs (hn.2.2.1 _ _ _ _)
         .cases hcs
    refine⟨.agg (by omega) e2 (fun j u c hu hc=>?_),?_⟩
    .have hj:j<cs.length:=by rw[<-k1];exact(zzc_.1 hu).1
     obtain⟨y,q1,q2⟩:=k2 j _ (zzf_ hj)
     rw[hu]at q1
     cases q1
     exact(uH_ h (hleaf j _ c (zzf_ hj) hc) q2).1
    .simp only[immA,zzh_]
     intro u hu
     obtain⟨j,hj⟩:=List.mem_iff_getElem?.1 hu
     have hjl:j<cs.length:=by rw[<-k1];exact(zzc_.1 hj).1
     obtain⟨y,q1,q2⟩:=k2 j _ (zzf_ hjl)
     rw[hj]at q1
     cases q1
     have hc:vs[j]?=some (vs[j]'(by omega)):=by simp
     exact(uH_ h (hleaf j _ _ (zzf_ hjl) hc) q2).2
 ·have hb':borL S (z7_ S q)=some y:=by
   revert hb hag
   cases z7_ S q<;>intro hb hag<;>first|exact hb|exact absurd ⟨_,rfl⟩ hag
  obtain⟨k1,k2⟩:=uH_ h hok hb'
  exact⟨k1,by cases y<;>first|exact k2|(simp[immC]at k2)⟩
theorem rd_(h:Rel F g w S a):∀ {xs:List Operand} {qs:List Opd} {ys:List V},opds F xs=some qs->bors S qs=some ys->ys.length=xs.length/\(∀y∈ys,immA y=true)/\∀(i:Nat) (y:V) (v:Value),ys[i]?=some y->(xs.map a.eval)[i]?=some v->Rep (allG w g) w y v
 | [], qs, ys, hx, hb => by
   simp[opds]at hx
   subst hx
   simp[bors]at hb
   subst hb
   simp
 | x :: xs, qs, ys, hx, hb => by
   simp only[opds,zza_]at hx
   obtain⟨q,h1,qs',h2,h3⟩:=hx
   cases h3
   simp only[bors,zza_]at hb
   obtain⟨y,k1,ys',k2,k3⟩:=hb
   cases k3
   obtain⟨m1,m2,m3⟩:=rd_ h h2 k2
   obtain⟨n1,n2⟩:=nU_ h h1 k1
   refine⟨by simp[m1],fun z hz=>?_,fun i z v hz hv=>?_⟩
   .rcases List.mem_cons.1 hz with rfl|hz
    .exact n2
    .exact m2 z hz
   .cases i with
    |zero=>simp at hz hv;subst hz;subst hv;exact n1
    |succ i=>simp at hz hv;exact m3 i z v hz (by simpa using hv)
theorem ot_(h:Rel F g w S a){xs:Array Operand}{qs:List Opd}{f:FuncId}{d:Nat}(hx:opds F xs.toList=some qs)(hd:d<F.N)(hdv:d∉F.sv){ys:List V}(hb:bors S qs=some ys){q:V->Prop}(hc:PC P f ys q)(hs:∀r,q r->s1_ r=true) :
 Calls P f (xs.map a.eval) w fun e w'=>∃v r,e=.returned v/\q r/\Ends F g w S a { S with tm:=upd S.tm d r } (a.put (some d) v) w':=by
 obtain⟨m1,m2,m3⟩:=rd_ h hx hb
 have hlt:∀k,0<(allG w g).I k->k<w.heap.size:=by
  intro k hk
  simp only[allG]at hk
  split at hk
  .next hk'=>exact(zzm_.1 hk').1
  .exact h.Ilt k (by omega)
 obtain⟨hbd,hnown⟩:=tR_ (g:=allG w g) (w:=w) (args:=ys) (vals:=xs.map a.eval) (by simpa using m1) m2 (fun i x v hx' hv=>m3 i x v hx' (by simpa using hv)) hlt
 refine(hc _ w _ hbd).mono ?_
 rintro e w' ⟨v,r,bs',g',rfl,⟨rfl,hq⟩,hok,hb',hex⟩
 refine⟨v,r,rfl,hq,?_⟩
 have hsc:=hs r hq
 let g2:Gh:=⟨fun k=>if k<w.heap.size then g.I k else g'.I k,g.φ⟩
 have hblk:∀k,k<w.heap.size->w'.heap[k]?=w.heap[k]?/\g2.I k=g.I k:=fun k hk=>⟨(hex.same k hk (hnown k)).1,by show (if _ then _ else _)=_;rw[if_pos hk]⟩
 have hI:∀b o,o<g.I b->o<g2.I b/\w'.cell? ⟨b,o,none⟩=w.cell? ⟨b,o,none⟩:=by
  intro b o ho
  obtain⟨q1,q2⟩:=hblk b (h.Ilt b (by omega))
  exact⟨by omega,yyb_ (a:=⟨b,o,none⟩) q1⟩
 have h1:Rel F g2 w' S a:=by
  refine h.grow hI (fun _ _=>rfl) (fun b hb'=>?_) (fun r p k ho=>?_) (fun l d e z xs u hl hu=>?_) hex.size (fun k hk=>?_)
  .obtain⟨q1,q2⟩:=zU_ h hb'
   obtain⟨q3,q4⟩:=hblk _ q1
   exact⟨q3,by omega⟩
  .obtain⟨q1,q2,_⟩:=h.ownI r p k ho
   obtain⟨q3,q4⟩:=hblk _ q2
   exact⟨q3,by omega⟩
  .have hr:=(h.lentr l d e z xs u hl hu).1
   refine hr.keep hI (fun p k ⟨_,_,_,u',q1,q2,q3⟩=>?_) (fun _ _ _ _=>rfl)
   cases p with
   |cons i p=>simp[V.sub]at q1
   | nil =>
     simp[vsub]at q2
     subst q2
     exact(hblk k (yL_ hr q3)).1
  .have hk':0<(if k<w.heap.size then g.I k else g'.I k):=hk
   split at hk'
   .next hlt'=>exact zzk_ hlt' hex.size
   .exact hb'.Ilt k hk'
 have hval0:z8_ (Frn 1) g' w' ⟨#[v],[]⟩ (.var 0)=some v:=by simp[z8_,Frn,Act.tv]
 have hrep:Rep g2 w' r v:=pG_ hsc (hb'.rep (.l (.var 0)) r v ⟨rfl,hval0⟩)
 have hleaf:∀p x,r.sub p=some x->leaf x=true->isS x=true:=by
  intro p x hs' hl
  have hA:∀ {r x:V} {p:List Nat},t2_ r=true->r.sub p=some x->leaf x=true->isS x=true:=by
   intro r x p hr hs' hl
   by_cases hag:∃cs,r=.agg cs
   .obtain⟨cs,rfl⟩:=hag
    cases p with
    |nil=>simp[V.sub]at hs';subst hs';simp[leaf]at hl
    | cons i p =>
      simp only[V.sub,zza_]at hs'
      obtain⟨c,e1,e2⟩:=hs'
      simp only[t2_,zzh_]at hr
      have hc:=hr c (zzd_ e1)
      cases c<;>simp[isS]at hc
      cases p with
      |nil=>simp[V.sub]at e2;subst e2;rfl
      |cons j p=>simp[V.sub]at e2
   .have hr':isS r=true:=by cases r<;>first|exact hr|exact absurd ⟨_,rfl⟩ hag
    cases r<;>simp[isS]at hr'
    cases p with
    |nil=>simp[V.sub]at hs';subst hs';rfl
    |cons j p=>simp[V.sub]at hs'
  by_cases ht:∃vs,r=.tup vs
  .obtain⟨vs,rfl⟩:=ht
   cases p with
   |nil=>simp[V.sub]at hs';subst hs';simp[leaf]at hl
   | cons i p =>
     simp only[V.sub,zza_]at hs'
     obtain⟨c,e1,e2⟩:=hs'
     simp only[s1_,zzh_]at hsc
     exact hA (hsc c (zzd_ e1)) e2 hl
  .exact hA (by cases r<;>first|exact hsc|exact absurd ⟨_,rfl⟩ ht) hs' hl
 have hno:r≠.no:=fun e=>by subst e;simp[s1_,t2_,isS]at hsc
 have hnl:∀p d e0 e z xs,r.sub p≠some (.lent d e0 e z xs):=fun p d e0 e z xs hs'=>by have:=hleaf p _ hs' rfl;simp[isS]at this
 have hown:∀p e z xs,r.sub p≠some (.own true e z xs):=fun p e z xs hs'=>by have:=hleaf p _ hs' rfl;simp[isS]at this
 have hownw:∀r p k,Own F g2 w' S a r p k->Own F g w S a r p k:=by
  intro r p k ⟨x,u,hh,ho⟩
  refine⟨x,u,?_,ho⟩
  cases r with
  |t t=>exact hh
  |l l=>exact⟨hh.1,(y3_ hh.1 (fun _ _=>rfl) (fun b hb''=>(hblk _ (zU_ h hb'').1).1)) ▸ hh.2⟩
 refine⟨g2,h1.put (fun t=>Less.refl _) (fun _ _=>rfl) hd hdv hrep hno (fun p b o hs'=>?_) hnl (fun p x hs'=>?_) (fun p x u hs' hu=>?_) (fun p k ⟨e,z,xs,_,q1,_⟩=>absurd q1 (hown p e z xs)) (fun p p' k ⟨e,z,xs,_,q1,_⟩=>absurd q1 (hown p e z xs)) (fun p k m ⟨e,z,xs,_,q1,_⟩=>absurd q1 (hown p e z xs)),⟨hex.os,hex.tape,hex.output,hex.size,fun k hk _=>hblk k hk,fun k ho=>?_⟩,fun _ _=>rfl⟩
 .have:=hleaf p _ hs' rfl;simp[isS]at this
 .by_cases hl:leaf x=true
  .have:=hleaf p x hs' hl
   cases x<;>simp[isS]at this;exact zzn_ _
  .cases x<;>simp[leaf]at hl<;>exact zzn_ _
 .by_cases hl:leaf x=true
  .have:=hleaf p x hs' hl
   cases x<;>simp[isS]at this;trivial
  .cases x<;>simp[leaf]at hl<;>trivial
 .rcases ho with ⟨r',p,ho⟩|ho
  .rcases xm_ h1 (fun t=>Less.refl _) hd hdv hno hnl ho with ⟨_,e,z,xs,_,q1,_⟩|q
   .exact absurd q1 (hown _ e z xs)
   .exact .inl (.inl ⟨r',p,hownw r' p k q⟩)
  .exact .inl (.inr ho)
end
end
section
def pd_:V->Bool
 |.tup vs=>vs.all immA
 |x=>immA x
def nX_(g:Gh)(w:World)(i:Nat)(y:V)(v:Value):Prop:=(immA y=true/\Rep g w y v)\/(i=0/\∃e z xs,y=.list z xs/\Rep g w (.own true e z xs) v)
structure FrX(g:Gh)(w:World)(g':Gh)(w':World):Prop where
 os:w'.os=w.os
 tape:w'.tape=w.tape
 output:w'.output=w.output
 size:w.heap.size<=w'.heap.size
 same:∀k,k<w.heap.size->w'.heap[k]?=w.heap[k]?/\g'.I k=g.I k
 lt:∀k,0<g'.I k->k<w'.heap.size
def LC(P:Program)(f:FuncId)(ys:List V)(q:V->Prop):Prop :=
 ∀ (g : Gh) (w : World) (vals : Array Value), ys.length = vals.size → (∀ (i : Nat) (y : V) (v : Value), ys[i]? = some y → vals[i]? = some v → nX_ g w i y v) → (∀ k, 0 < g.I k → k < w.heap.size) →
   Calls P f vals w fun e w'=>∃v r g',e=.returned v/\q r/\pd_ r=true/\Rep g' w' r v/\FrX g w g' w'
def xB_(S:St):V->Bool
 |.s _=>true
 |.list _ _=>true
 |.agg cs=>cs.all immC
 | .view l _ => match S.at l with
   |some (.own _ _ _ _)=>true
   |some (.lent _ _ _ _ _)=>true
   |_=>false
 |_=>false
def yo_(S:St):List Opd->Bool
 |[]=>true
 |x::r=>xB_ S (z7_ S x)&&r.all fun y=>immA (z7_ S y)
def BC(P:Program)(f:FuncId)(ys:List V)(st:Bool)(q:V->Prop):Prop:=(PC P f ys q/\∀r,q r->s1_ r=true)\/(st=true/\LC P f ys q)
theorem BC.up{P:Program}{f:FuncId}{ys:List V}{st st':Bool}{q:V->Prop}(h:BC P f ys st q)(hs:st=true->st'=true):BC P f ys st' q:=h.imp id fun ⟨a,b⟩=>⟨hs a,b⟩
theorem BC.mono{P:Program}{f:FuncId}{ys:List V}{st:Bool}{q q':V->Prop}(h:BC P f ys st q)(hq:∀r,q r↔q' r):BC P f ys st q':=by
 have:q=q':=by funext r;exact propext (hq r)
 rwa [<-this]
section
variable{P:Program}{F:Fr}{g:Gh}{w:World}{S:St}{a:Act}
theorem vF_:∀ {cs ys:List V},cs.all immC=true->wb_ S cs=some ys->ys=cs
 |[],ys,_,h=>by simp[wb_]at h;exact h
 | x :: r, ys, hi, h => by
   simp only[List.all_cons,zzg_]at hi
   simp only[wb_,zza_]at h
   obtain⟨y,h1,q,h2,h3⟩:=h
   cases h3
   rw[vF_ hi.2 h2]
   have h0:=hi.1
   cases x<;>simp[immC]at h0<;>simp[borL]at h1<;>rw[h1]
theorem o8_(h:Rel F g w S a){x:Operand}{q:Opd}{y:V}(hx:opd F x=some q)(hb:bor S (z7_ S q)=some y)(hs:xB_ S (z7_ S q)=true):nX_ g w 0 y (a.eval x):=by
 have hok:=y5_ h hx
 generalize hl:z7_ S q=u at hb hs hok
 cases u with
 |s v=>simp[bor,borL]at hb;subst hb;exact .inl ⟨rfl,hok.rep⟩
 |list z xs=>simp[bor,borL]at hb;subst hb;exact .inl ⟨rfl,hok.rep⟩
 | agg cs =>
   simp only[bor,zzb_]at hb
   obtain⟨ys,h1,rfl⟩:=hb
   simp only[xB_]at hs
   rw[vF_ hs h1]
   exact .inl ⟨hs,hok.rep⟩
 | view l e =>
   simp only[bor,borL,zzb_]at hb
   obtain⟨⟨z,xs⟩,h1,rfl⟩:=hb
   simp only[cont]at h1
   split at h1
   .next he =>
    have hlk:=(hok.link he).2 z xs h1
    simp only[xB_]at hs
    split at hs
    .next m e' z' xs' hat =>
     simp only[St.row,hat,yya_,yyc_]at h1
     obtain⟨rfl,rfl⟩:=h1
     have hr:=h.rep (.l l) _ _ ⟨hat,hlk⟩
     cases m with
     |true=>exact .inr ⟨rfl,e',z',xs',rfl,hr⟩
     |false=>cases hr with|ownf hr _=>exact .inl ⟨rfl,hr⟩
    .next d e0 e' z' xs' hat =>
     simp only[St.row,hat]at h1
     split at h1
     .next he0 =>
      simp only[yya_,yyc_]at h1
      obtain⟨rfl,rfl⟩:=h1
      subst he0
      exact .inr ⟨rfl,e',z',xs',rfl,(h.lentr l d e' z' xs' _ hat hlk).1⟩
     .cases h1
    .cases hs
   .cases h1
 |_=>simp[xB_]at hs
theorem o9_(h:Rel F g w S a){x:Operand}{q:Opd}{y:V}(hx:opd F x=some q)(hb:bor S (z7_ S q)=some y)(hs:immA (z7_ S q)=true):immA y=true/\Rep g w y (a.eval x):=by
 have hok:=y5_ h hx
 generalize hl:z7_ S q=u at hb hs hok
 cases u with
 |s v=>simp[bor,borL]at hb;subst hb;exact⟨rfl,hok.rep⟩
 |list z xs=>simp[bor,borL]at hb;subst hb;exact⟨rfl,hok.rep⟩
 | agg cs =>
   simp only[bor,zzb_]at hb
   obtain⟨ys,h1,rfl⟩:=hb
   simp only[immA]at hs
   rw[vF_ hs h1]
   exact⟨hs,hok.rep⟩
 |_=>simp[immA,immC]at hs
theorem tp_(h:Rel F g w S a):∀ {xs:List Operand} {qs:List Opd} {ys:List V},opds F xs=some qs->bors S qs=some ys->(qs.all fun y=>immA (z7_ S y))=true->ys.length=xs.length/\∀(i:Nat) (y:V) (v:Value),ys[i]?=some y->(xs.map a.eval)[i]?=some v->immA y=true/\Rep g w y v
 | [], qs, ys, hx, hb, _ => by
   simp[opds]at hx
   subst hx
   simp[bors]at hb
   subst hb
   simp
 | x :: xs, qs, ys, hx, hb, hs => by
   simp only[opds,zza_]at hx
   obtain⟨q,h1,qs',h2,h3⟩:=hx
   cases h3
   simp only[bors,zza_]at hb
   obtain⟨y,k1,ys',k2,k3⟩:=hb
   cases k3
   simp only[List.all_cons,zzg_]at hs
   obtain⟨m1,m3⟩:=tp_ h h2 k2 hs.2
   refine⟨by simp[m1],fun i z v hz hv=>?_⟩
   cases i with
   |zero=>simp at hz hv;subst hz;subst hv;exact o9_ h h1 k1 hs.1
   |succ i=>simp at hz hv;exact m3 i z v hz (by simpa using hv)
theorem qV_(h:Rel F g w S a):∀ {xs:List Operand} {qs:List Opd} {ys:List V},opds F xs=some qs->bors S qs=some ys->yo_ S qs=true->ys.length=xs.length/\∀(i:Nat) (y:V) (v:Value),ys[i]?=some y->(xs.map a.eval)[i]?=some v->nX_ g w i y v
 | [], qs, ys, hx, hb, _ => by
   simp[opds]at hx
   subst hx
   simp[bors]at hb
   subst hb
   simp
 | x :: xs, qs, ys, hx, hb, hs => by
   simp only[opds,zza_]at hx
   obtain⟨q,h1,qs',h2,h3⟩:=hx
   cases h3
   simp only[bors,zza_]at hb
   obtain⟨y,k1,ys',k2,k3⟩:=hb
   cases k3
   simp only[yo_,zzg_]at hs
   obtain⟨m1,m3⟩:=tp_ h h2 k2 hs.2
   refine⟨by simp[m1],fun i z v hz hv=>?_⟩
   cases i with
   |zero=>simp at hz hv;subst hz;subst hv;exact o8_ h h1 k1 hs.1
   |succ i=>simp at hz hv;exact .inl (m3 i z v hz (by simpa using hv))
theorem tC_{r:V}(hr:pd_ r=true){p:List Nat}{x:V}(hs:r.sub p=some x)(hl:leaf x=true):immC x=true:=by
 by_cases ht:∃vs,r=.tup vs
 .obtain⟨vs,rfl⟩:=ht
  cases p with
  |nil=>simp[V.sub]at hs;subst hs;simp[leaf]at hl
  | cons i p =>
    simp only[V.sub,zza_]at hs
    obtain⟨c,e1,e2⟩:=hs
    simp only[pd_,zzh_]at hr
    exact wq_ (hr c (zzd_ e1)) e2 hl
 .refine wq_ ?_ hs hl
  cases r<;>first|exact hr|exact absurd ⟨_,rfl⟩ ht
theorem os_(h:Rel F g w S a){xs:Array Operand}{qs:List Opd}{f:FuncId}{d:Nat}(hx:opds F xs.toList=some qs)(hd:d<F.N)(hdv:d∉F.sv){ys:List V}(hb:bors S qs=some ys)(hst:yo_ S qs=true){q:V->Prop}(hc:LC P f ys q) :
 Calls P f (xs.map a.eval) w fun e w'=>∃v r,e=.returned v/\q r/\Ends F g w S a { S with tm:=upd S.tm d r } (a.put (some d) v) w':=by
 obtain⟨m1,m3⟩:=qV_ h hx hb hst
 refine(hc g w (xs.map a.eval) (by simpa using m1) (fun i x v hx' hv=>m3 i x v hx' (by simpa using hv)) h.Ilt).mono ?_
 rintro e w' ⟨v,r,g',rfl,hq,hfl,hrep',hex⟩
 refine⟨v,r,rfl,hq,?_⟩
 let g2:Gh:=⟨g'.I,g.φ⟩
 have hblk:∀k,k<w.heap.size->w'.heap[k]?=w.heap[k]?/\g2.I k=g.I k:=fun k hk=>hex.same k hk
 have hI:∀b o,o<g.I b->o<g2.I b/\w'.cell? ⟨b,o,none⟩=w.cell? ⟨b,o,none⟩:=by
  intro b o ho
  obtain⟨q1,q2⟩:=hblk b (h.Ilt b (by omega))
  exact⟨by omega,yyb_ (a:=⟨b,o,none⟩) q1⟩
 have h1:Rel F g2 w' S a:=by
  refine h.grow hI (fun _ _=>rfl) (fun b hb'=>?_) (fun r p k ho=>?_) (fun l d e z xs u hl hu=>?_) hex.size (fun k hk=>hex.lt k hk)
  .obtain⟨q1,q2⟩:=zU_ h hb'
   obtain⟨q3,q4⟩:=hblk _ q1
   exact⟨q3,by omega⟩
  .obtain⟨q1,q2,_⟩:=h.ownI r p k ho
   obtain⟨q3,q4⟩:=hblk _ q2
   exact⟨q3,by omega⟩
  .have hr:=(h.lentr l d e z xs u hl hu).1
   refine hr.keep hI (fun p k ⟨_,_,_,u',q1,q2,q3⟩=>?_) (fun _ _ _ _=>rfl)
   cases p with
   |cons i p=>simp[V.sub]at q1
   | nil =>
     simp[vsub]at q2
     subst q2
     exact(hblk k (yL_ hr q3)).1
 have hrep:Rep g2 w' r v:=hrep'.keep (fun b o ho=>⟨ho,rfl⟩) (fun _ _ _=>rfl) (fun p b o hs'=>by
  have:=tC_ hfl hs' rfl
  simp[immC]at this)
 have hleaf:∀p x,r.sub p=some x->leaf x=true->immC x=true:=fun p x hs' hl=>tC_ hfl hs' hl
 have hno:r≠.no:=fun e=>by subst e;simp[pd_,immA,immC]at hfl
 have hnl:∀p d e0 e z xs,r.sub p≠some (.lent d e0 e z xs):=fun p d e0 e z xs hs'=>by have:=hleaf p _ hs' rfl;simp[immC]at this
 have hown:∀p e z xs,r.sub p≠some (.own true e z xs):=fun p e z xs hs'=>by have:=hleaf p _ hs' rfl;simp[immC]at this
 have hownw:∀r p k,Own F g2 w' S a r p k->Own F g w S a r p k:=by
  intro r p k ⟨x,u,hh,ho⟩
  refine⟨x,u,?_,ho⟩
  cases r with
  |t t=>exact hh
  |l l=>exact⟨hh.1,(y3_ hh.1 (fun _ _=>rfl) (fun b hb''=>(hblk _ (zU_ h hb'').1).1)) ▸ hh.2⟩
 refine⟨g2,h1.put (fun t=>Less.refl _) (fun _ _=>rfl) hd hdv hrep hno (fun p b o hs'=>?_) hnl (fun p x hs'=>?_) (fun p x u hs' hu=>?_) (fun p k ⟨e,z,xs,_,q1,_⟩=>absurd q1 (hown p e z xs)) (fun p p' k ⟨e,z,xs,_,q1,_⟩=>absurd q1 (hown p e z xs)) (fun p k m ⟨e,z,xs,_,q1,_⟩=>absurd q1 (hown p e z xs)),⟨hex.os,hex.tape,hex.output,hex.size,fun k hk _=>hblk k hk,fun k ho=>?_⟩,fun _ _=>rfl⟩
 .have:=hleaf p _ hs' rfl;simp[immC]at this
 .by_cases hl:leaf x=true
  .have:=hleaf p x hs' hl
   cases x<;>simp[immC]at this<;>exact zzn_ _
  .cases x<;>simp[leaf]at hl<;>exact zzn_ _
 .by_cases hl:leaf x=true
  .have:=hleaf p x hs' hl
   cases x<;>simp[immC]at this<;>trivial
  .cases x<;>simp[leaf]at hl<;>trivial
 .rcases ho with ⟨r',p,ho⟩|ho
  .rcases xm_ h1 (fun t=>Less.refl _) hd hdv hno hnl ho with ⟨_,e,z,xs,_,q1,_⟩|q
   .exact absurd q1 (hown _ e z xs)
   .exact .inl (.inl ⟨r',p,hownw r' p k q⟩)
  .exact .inl (.inr ho)
theorem or_(h:Rel F g w S a){xs:Array Operand}{qs:List Opd}{f:FuncId}{d:Nat}(hx:opds F xs.toList=some qs)(hd:d<F.N)(hdv:d∉F.sv){ys:List V}(hb:bors S qs=some ys){q:V->Prop}(hc:BC P f ys (yo_ S qs) q) :
 Calls P f (xs.map a.eval) w fun e w'=>∃v r,e=.returned v/\q r/\Ends F g w S a { S with tm:=upd S.tm d r } (a.put (some d) v) w':=by
 rcases hc with ⟨h1,h2⟩|⟨h1,h2⟩
 .exact ot_ h hx hd hdv hb h1 h2
 .exact os_ h hx hd hdv hb h1 h2
end
end
inductive AX where
 |normal
 |exit (id:Nat)
 |ret
 |goto (l:Nat)
def MC(P:Program)(S:St)(f:Nat)(args:List Opd)(q:V->Prop):Prop :=
 ∀ (F : Fr) (g : Gh) (w : World) (a : Act) (xs : Array Operand) (d : Nat), Rel F g w S a → opds F xs.toList = some args → d < F.N → d ∉ F.sv →
   Calls P f (xs.map a.eval) w fun e w'=>∃v r,e=.returned v/\q r/\Ends F g w S a { S with tm:=upd S.tm d r } (a.put (some d) v) w'
def oC_(P:Program)(S:St)(d:Dst)(f:Nat)(args:List Opd)(K:St->Prop):Prop :=
 ∃ d', d = .t d' ∧
   ((∃ ys tm1, takes S S.tm args = some (ys, tm1) /\ (ys.map toImm).all immA = true /\ ∃ q, PC P f (ys.map toImm) q /\ ∀ r, q r -> K { S with tm := upd tm1 d' r }) \/
    (∃ys,bors S args=some ys/\∃q,BC P f ys (yo_ S args) q/\∀r,q r->True/\K { S with tm:=upd S.tm d' r }) \/
    (∃ys tm1,takes S S.tm args=some (ys,tm1)/\∃mask sel args bs Q,handOk S.bx ys mask sel args bs/\AC P f args bs Q/\∀r bs',Q r bs'->vH_ sel bs'=true/\K (aftS { S with tm:=tm1 } d' r sel bs')) \/
    (∃q,MC P S f args q/\∀r,q r->K { S with tm:=upd S.tm d' r }))
def callable(P:Program)(f:Nat):Bool:=match P.funcs[f]? with
 | some fn => fn.body.isSome && !(fn.name == "runtime.NumGoroutine")
 |none=>false
def n2_(P:Program)(S:St)(d:Dst)(t:Nat)(args:List Opd)(K:St->Prop):Prop :=
 ∃ d' b f, d = .t d' ∧ S.tm t = .ptr b (1000000000 + f) ∧ callable P f = true ∧ ∃ ys tm1, takes S S.tm args = some (ys, tm1) ∧ ∃ mask sel args' bs Q, handOk S.bx (ys ++ [.ptr b 0]) mask sel args' bs ∧ AC P f args' bs Q ∧
   ∀r bs',Q r bs'->vH_ sel bs'=true/\K (aftS { S with tm:=tm1 } d' r sel bs')
def WO(P:Program)(o:AOper)(S:St)(K:St->Prop):Prop :=
 match o.op with
 |.call f args=>oC_ P S o.dst f args K
 |.callv t args=>n2_ P S o.dst t args K
 | .isn ne x => match o.dst, cont S (z7_ S x) with
   |.t d,some r=>∀b:Bool,(r.2≠[]->b=ne)->K { S with tm:=upd S.tm d (.s (.bool b)) }
   |_,_=>False
 | op => match step S o.dst op with
   |some S'=>K S'
   |none=>False
def gB:V->Bool->Option Bool
 |.s (.bool b),want=>some (b==want)
 |.tup [],_=>some false
 |_,_=>none
def wC_(S:St):Dst->Option St
 |.t d=>some { S with tm:=upd S.tm d (.tup []) }
 |_=>none
def WG(P:Program)(o:AOper)(S:St)(K:St->Prop):Prop :=
 match o.guard with
 |none=>WO P o S K
 | some (t, want) => match gB (S.tm t) want with
   |some true=>WO P o S K
   |some false=>(match wC_ S o.dst with|some S'=>K S'|none=>False)
   |none=>False
def WR(P:Program):List AOper->St->(St->Prop)->Prop
 |[],S,K=>K S
 |o::r,S,K=>WG P o S fun S'=>WR P r S' K
def rdy(es:List (List Nat))(L:List Nat):List Nat:=(List.range es.length).filter fun i=>!L.contains i&&((es[i]?).getD []).all L.contains
def WN(P:Program)(ops:List AOper)(es:List (List Nat)):Nat->List Nat->St->(St->Prop)->Prop
 |0,L,S,K=>rdy es L=[]/\K S
 |f+1,L,S,K=>(rdy es L=[]->K S)/\∀i∈rdy es L,∀o,ops[i]?=some o->WG P o S fun S'=>WN P ops es f (i::L) S' K
section
def opdS:Opd->List Nat
 |.t t=>[t]
 |_=>[]
def wY_:Option Opd->List Nat
 |some x=>opdS x
 |none=>[]
def zv_:AOp->List Nat
 |.cvb x|.isn _ x|.mv x|.asg x|.un _ x|.conv _ x|.b2s x|.nilck x|.len x|.slen x|.box _ x|.fa _ x|.ld _ _ x|.mkf _ x=>opdS x
 |.pick c a b=>opdS c++(opdS a++opdS b)
 |.ex _ x y|.bin _ x y|.bib _ x y|.app _ _ _ x y|.mnx _ x y|.ia _ x y|.iaa _ _ x y|.st _ x y|.mk _ _ _ _ x y=>opdS x++opdS y
 |.ext t _=>[t]
 |.bld _ ps=>ps.flatMap fun p=>opdS p.2.2
 |.bls _ _ _ _ ps=>ps.flatMap fun p=>opdS p.2
 |.allo _=>[]
 |.sl _ _ x lo hi mx=>opdS x++(wY_ lo++(wY_ hi++wY_ mx))
 |.ssl x lo hi=>opdS x++(wY_ lo++wY_ hi)
 |.call _ args=>args.flatMap opdS
 |.callv t args=>t::args.flatMap opdS
def dstS:Dst->List Nat
 |.t d=>[d]
 |_=>[]
def gS:Option (Nat×Bool)->List Nat
 |some (t,_)=>[t]
 |none=>[]
def foot(o:AOper):List Nat:=dstS o.dst++(zv_ o.op++gS o.guard)
def ov(T:List Nat)(ρ τ:Nat->V):Nat->V:=fun t=>if t∈T then ρ t else τ t
theorem yE_{T:List Nat}{ρ τ:Nat->V}(h:∀t∈T,τ t=ρ t):ov T ρ τ=τ:=by
 funext t
 unfold ov
 split
 .next ht=>exact(h t ht).symm
 .rfl
theorem yz_{T:List Nat}{ρ τ:Nat->V}{d:Nat}{y:V}(hd:d∈T):ov T (upd ρ d y) τ=upd (ov T ρ τ) d y:=by
 funext t
 unfold ov upd
 by_cases e:t=d
 .subst e;simp[hd]
 .simp[e]
def St.tmd(S:St)(τ:Nat->V):St:=⟨τ,S.vs,S.bx,S.ep⟩
section
variable{S:St}{τ:Nat->V}{T:List Nat}
theorem uU_(l:Loc):(S.tmd τ).at l=S.at l:=by cases l<;>rfl
theorem wz_(l:Loc):(S.tmd τ).row l=S.row l:=by unfold St.row;rw[uU_];rfl
theorem wZ_(x:V):cont (S.tmd τ) x=cont S x:=by
 unfold cont
 cases x<;>first|rfl|(simp only[wz_];rfl)
theorem uS_(x:V):yh_ (S.tmd τ) x=yh_ S x:=by
 unfold yh_
 cases x<;>first|rfl|(simp only[uU_];rfl)
theorem vP_:∀(cs:List V),yR_ (S.tmd τ) cs=yR_ S cs
 |[]=>rfl
 |x::r=>by simp only[yR_,uS_,vP_ r]
theorem pC_(x:V):give (S.tmd τ) x=give S x:=by
 unfold give
 cases x<;>first|exact uS_ _|simp only[vP_]
theorem qa_(n:Nat)(x:V):ya_ (S.tmd τ) n x=ya_ S n x:=by
 unfold ya_
 cases x<;>first|rfl|(simp only[wz_];rfl)
theorem wA_(n:Nat)(x:V):yJ_ (S.tmd τ) n x=yJ_ S n x:=by
 unfold yJ_
 cases x<;>first|rfl|(simp only[wz_];rfl)
theorem zc_{x:Opd}(hs:∀t∈opdS x,t∈T)(h:∀t∈T,τ t=S.tm t):z7_ (S.tmd τ) x=z7_ S x:=by
 cases x with
 |t t=>exact h t (hs t (by simp[opdS]))
 |_=>rfl
theorem x5_{n:Nat}{x:Option Opd}(hs:∀t∈wY_ x,t∈T)(h:∀t∈T,τ t=S.tm t):zo_ (S.tmd τ) n x=zo_ S n x:=by
 cases x with
 |none=>rfl
 |some x=>simp only[zo_,zc_ hs h]
theorem sz_{ρ:Nat->V}{x:Opd}(hs:∀t∈opdS x,t∈T):zE_ (ov T ρ τ) x=ov T (zE_ ρ x) τ:=by
 cases x with
 | t t =>
   have ht:=hs t (by simp[opdS])
   have e:ov T ρ τ t=ρ t:=by simp[ov,ht]
   simp only[zE_,e]
   cases ρ t with
   |own m e z xs=>cases m<;>simp only<;>first|rw[yz_ ht]|rfl
   |agg cs=>simp only;split<;>first|rw[yz_ ht]|rfl
   |_=>rfl
 |_=>rfl
theorem v2_{ρ σ:Nat->V}{x:Opd}(hs:∀t∈opdS x,t∈T):ym_ (S.tmd σ) (ov T ρ τ) x=(ym_ S ρ x).map fun q=>(q.1,ov T q.2 τ):=by
 have e:wJ_ (S.tmd σ) (ov T ρ τ) x=wJ_ S ρ x:=by
  cases x with
  |t t=>simp[wJ_,ov,hs t (by simp[opdS])]
  |_=>rfl
 simp only[ym_,e]
 cases wJ_ S ρ x with
 |none=>rfl
 | some y =>
   simp only[zzt_,pC_]
   cases give S y with
   |none=>rfl
   |some q=>simp only[zzt_,zzz_,sz_ hs]
theorem v0_{σ:Nat->V}:∀(xs:List Opd) {ρ:Nat->V},(∀t∈xs.flatMap opdS,t∈T)->takes (S.tmd σ) (ov T ρ τ) xs=(takes S ρ xs).map fun q=>(q.1,ov T q.2 τ)
 |[],ρ,_=>rfl
 | x :: r, ρ, hs => by
   have h1:∀t∈opdS x,t∈T:=fun t ht=>hs t (by simp[ht])
   have h2:∀t∈r.flatMap opdS,t∈T:=fun t ht=>hs t (by rw[List.flatMap_cons];exact List.mem_append_right _ ht)
   simp only[takes,v2_ h1]
   cases ym_ S ρ x with
   |none=>rfl
   | some q =>
     simp only[zzz_,zzt_,v0_ r h2]
     cases takes S q.2 r with
     |none=>rfl
     |some q'=>rfl
theorem sv_(x:V):borL (S.tmd τ) x=borL S x:=by cases x<;>first|rfl|(simp only[borL,wZ_])
theorem uT_:∀(cs:List V),wb_ (S.tmd τ) cs=wb_ S cs
 |[]=>rfl
 |x::r=>by simp only[wb_,sv_,uT_ r]
theorem n8_(x:V):bor (S.tmd τ) x=bor S x:=by cases x<;>first|(simp only[bor,uT_];done)|(simp only[bor];exact sv_ _)
theorem su_(h:∀t∈T,τ t=S.tm t):∀(xs:List Opd),(∀t∈xs.flatMap opdS,t∈T)->bors (S.tmd τ) xs=bors S xs
 |[],_=>rfl
 | x :: r, hs => by
   have h1:∀t∈opdS x,t∈T:=fun t ht=>hs t (by simp[ht])
   have h2:∀t∈r.flatMap opdS,t∈T:=fun t ht=>hs t (by rw[List.flatMap_cons];exact List.mem_append_right _ ht)
   simp only[bors,n8_,zc_ h1 h,su_ h r h2]
theorem ri_(x:V):xB_ (S.tmd τ) x=xB_ S x:=by
 cases x with
 |view l e=>cases l<;>rfl
 |_=>rfl
theorem tX_(h:∀t∈T,τ t=S.tm t):∀(xs:List Opd),(∀t∈xs.flatMap opdS,t∈T)->yo_ (S.tmd τ) xs=yo_ S xs
 |[],_=>rfl
 | x :: r, hs => by
   have h1:∀t∈opdS x,t∈T:=fun t ht=>hs t (by simp[ht])
   have h2:∀t∈r.flatMap opdS,t∈T:=fun t ht=>hs t (by rw[List.flatMap_cons];exact List.mem_append_right _ ht)
   simp only[yo_]
   rw[ri_,zc_ h1 h]
   congr 1
   rw[Bool.eq_iff_iff,zzh_,zzh_]
   have e:∀y∈r,z7_ (S.tmd τ) y=z7_ S y:=fun y hy=>zc_ (fun t ht=>h2 t (List.mem_flatMap.2 ⟨y,hy,ht⟩)) h
   exact⟨fun q y hy=>by rw[<-e y hy];exact q y hy,fun q y hy=>by rw[e y hy];exact q y hy⟩
def zZ_:V->Bool
 |.own true _ _ _|.tup _=>false
 |.agg cs=>!cs.any y2_
 |_=>true
theorem vS_{ρ:Nat->V}{x:Opd}{t:Nat}(h:t∈opdS x->zZ_ (ρ t)=true):zE_ ρ x t=ρ t:=by
 cases x with
 | t u =>
   by_cases e:t=u
   .subst e
    have:=h (by simp[opdS])
    simp only[zE_]
    cases hx:ρ t with
    |own m e z xs=>cases m<;>rw[hx]at this<;>simp[zZ_]at this<;>simp[hx]
    | agg cs =>
      rw[hx]at this
      simp only[zZ_,yyh_]at this
      simp[this,hx]
    |_=>simp[hx]
   .exact vU_ ρ (fun q=>e (by injection q with q;exact q.symm))
 |_=>rfl
theorem xP_{ρ ρ1:Nat->V}{x:Opd}{y:V}{t:Nat}(hk:ym_ S ρ x=some (y,ρ1))(h:t∈opdS x->zZ_ (ρ t)=true):ρ1 t=ρ t:=by
 simp only[ym_,zza_]at hk
 obtain⟨_,_,_,_,hk⟩:=hk
 injection hk with hk
 injection hk with _ hk
 rw[<-hk]
 exact vS_ h
theorem x6_{t:Nat}:∀(xs:List Opd) {ρ ρ1:Nat->V} {ys:List V},takes S ρ xs=some (ys,ρ1)->(t∈xs.flatMap opdS->zZ_ (ρ t)=true)->ρ1 t=ρ t
 |[],ρ,ρ1,ys,hk,_=>by simp[takes]at hk;rw[hk.2]
 | x :: r, ρ, ρ1, ys, hk, h => by
   simp only[takes,zza_]at hk
   obtain⟨⟨y,ρ2⟩,k1,⟨ys',ρ3⟩,k2,k3⟩:=hk
   simp only[yya_,yyc_]at k3
   obtain⟨_,rfl⟩:=k3
   have e:=xP_ k1 (fun ht=>h (by simp[ht]))
   exact(x6_ r k2 (fun ht=>by show zZ_ (ρ2 t)=true;rw[e];exact h (by rw[List.flatMap_cons];exact List.mem_append_right _ ht))).trans e
end
end
section
section
variable{S:St}{τ:Nat->V}{T:List Nat}
theorem qS_{x:Opd}(hs:∀t∈opdS x,t∈T)(h:∀t∈T,τ t=S.tm t):mvV (S.tmd τ) x=(mvV S x).map fun q=>(q.1,ov T q.2 τ):=by
 have e:=yE_ h
 cases x with
 |c v=>simp[mvV,St.tmd,e]
 | v i =>
   simp only[mvV,St.tmd]
   cases S.vs[i]? with
   |none=>rfl
   | some x =>
     cases x<;>simp only[zzz_,e]<;>first|rfl|(split<;>simp[e])
 | t t =>
   have ht:=hs t (by simp[opdS])
   have e1:τ t=S.tm t:=h t ht
   simp only[mvV,St.tmd,e1]
   cases hx:S.tm t with
   |own m e' z xs=>cases m<;>simp[yz_ ht,e,y1_]
   | agg cs =>
     have:=sz_ (τ:=τ) (ρ:=S.tm) (x:=.t t) hs
     rw[e]at this
     simp[this]
   |tup vs=>simp[yz_ ht,e]
   |_=>simp[y1_,e]
theorem mx_{d:Nat}{x:Opd}(hs:∀t∈opdS x,t∈T)(hd:d∈T)(h:∀t∈T,τ t=S.tm t):mvD (S.tmd τ) d x=(mvD S d x).map fun q=>(q.1,ov T q.2 τ):=by
 have e:=yE_ h
 have ed:(S.tmd τ).tm d=S.tm d:=h d hd
 unfold mvD
 cases x with
 | v i =>
   simp only
   have e0:(S.tmd τ).vs=S.vs:=rfl
   have e1:(S.tmd τ).ep=S.ep:=rfl
   have e2:(S.tmd τ).tm=τ:=rfl
   rw[e0,e1,ed,e2]
   split
   .split
    .split<;>simp[e]
    .exact qS_ hs h
   .exact qS_ hs h
 |_=>exact qS_ hs h
theorem mC_{d n:Nat}{ag:Bool}{x:Opd}(hs:∀t∈opdS x,t∈T)(hd:d∈T)(h:∀t∈T,τ t=S.tm t):ldD (S.tmd τ) d n ag x=(ldD S d n ag x).map fun q=>(q.1,ov T q.2 τ):=by
 have e:=yE_ h
 have ed:(S.tmd τ).tm d=S.tm d:=h d hd
 have e1:(S.tmd τ).ep=S.ep:=rfl
 have e2:(S.tmd τ).tm=τ:=rfl
 unfold ldD
 rw[zc_ hs h]
 have hl:∀p,((ya_ (S.tmd τ) n p).bind fun cs=>(x4_ ag cs).map fun y=>(y,τ))=((ya_ S n p).bind fun cs=>(x4_ ag cs).map fun y=>(y,S.tm)).map fun q=>(q.1,ov T q.2 τ):=by
  intro p
  rw[qa_]
  cases ya_ S n p with
  |none=>rfl
  | some cs =>
    simp only[zzt_]
    cases x4_ ag cs<;>simp[e]
 have ea:∀b o,ldA (S.tmd τ) d n b o=ldA S d n b o:=fun b o=>by unfold ldA;rw[ed];rfl
 split
 .split
  .rw[ea]
   split
   .simp[e,St.tmd]
   .rw[uU_,ed,e1,e2]
    split
    .split
     .split<;>simp[e]
     .exact hl _
    .exact hl _
  .rfl
 .exact hl _
theorem mF_{z:Nat}{x i:Opd}(hx:∀t∈opdS x,t∈T)(hi:∀t∈opdS i,t∈T)(h:∀t∈T,τ t=S.tm t):iaV (S.tmd τ) z x i=(iaV S z x i).map fun q=>(q.1,ov T q.2 τ):=by
 have e:=yE_ h
 have e1:(S.tmd τ).ep=S.ep:=rfl
 have e2:(S.tmd τ).tm=τ:=rfl
 unfold iaV
 rw[zc_ hx h,zc_ hi h,e1,e2]
 cases yI_ (z7_ S i) with
 |none=>rfl
 | some n =>
   simp only
   split
   .rfl
   .cases hx':z7_ S x with
    | list z' xs =>
      simp only
      split
      .cases xs[n.toNat]?<;>simp[e]
      .rfl
    | own m e' z' xs =>
      cases m with
      |false=>rfl
      | true =>
        cases x with
        | t t =>
          simp only
          split
          .cases xs[n.toNat]?<;>simp[e,yz_ (hx t (by simp[opdS]))]
          .rfl
        |_=>rfl
    | view l e' =>
      simp only[wz_]
      split
      .cases S.row l with
       |none=>rfl
       |some q=>simp only;split<;>simp[e]
      .rfl
    | sview l e' lo m =>
      simp only[wz_]
      split
      .cases S.row l with
       |none=>rfl
       |some q=>simp only;split<;>simp[e]
      .rfl
    |_=>rfl
theorem nE_{z len:Nat}{x i:Opd}(hx:∀t∈opdS x,t∈T)(hi:∀t∈opdS i,t∈T)(h:∀t∈T,τ t=S.tm t):iaaV (S.tmd τ) z len x i=iaaV S z len x i:=by
 unfold iaaV
 rw[zc_ hx h,zc_ hi h]
 simp only[wA_]
theorem ne_{x:Opd}{lo hi:Option Opd}(hx:∀t∈opdS x,t∈T)(hl:∀t∈wY_ lo,t∈T)(hh:∀t∈wY_ hi,t∈T)(h:∀t∈T,τ t=S.tm t):sslV (S.tmd τ) x lo hi=sslV S x lo hi:=by
 unfold sslV
 rw[zc_ hx h]
 simp only[x5_ hl h,x5_ hh h]
theorem m7_{e z:Nat}{x:Opd}{lo hi mx:Option Opd}(hx:∀t∈opdS x,t∈T)(hl:∀t∈wY_ lo,t∈T)(hh:∀t∈wY_ hi,t∈T)(hm:∀t∈wY_ mx,t∈T)(h:∀t∈T,τ t=S.tm t):slV (S.tmd τ) e z x lo hi mx=(slV S e z x lo hi mx).map fun q=>(q.1,ov T q.2 τ):=by
 have e':=yE_ h
 have e1:(S.tmd τ).ep=S.ep:=rfl
 have e2:(S.tmd τ).tm=τ:=rfl
 unfold slV
 simp only[zc_ hx h,x5_ hl h,x5_ hh h,x5_ hm h,wz_,e1,e2]
 split
 .rfl
 .split
  .cases zo_ S 0 lo with
   |none=>rfl
   | some l => cases zo_ S 0 hi with
     |none=>rfl
     | some l' => cases zo_ S 0 mx with
       |none=>rfl
       |some m=>simp only[zzt_];split<;>simp[e']
  .rename_i z' xs _
   cases zo_ S 0 lo with
   |none=>rfl
   | some l => cases zo_ S xs.length hi with
     |none=>rfl
     | some l' => cases zo_ S xs.length mx with
       |none=>rfl
       | some m =>
         simp only[zzt_]
         split
         .split<;>simp[e']
         .rfl
  .rename_i z' xs _
   cases x with
   | t t =>
     simp only
     cases zo_ S 0 lo with
     |none=>rfl
     | some l => cases zo_ S xs.length hi with
       |none=>rfl
       |some l'=>simp only[zzt_];split<;>simp[e',yz_ (hx t (by simp[opdS]))]
   |_=>rfl
  .rename_i e9 z' xs _
   split
   .cases zo_ S 0 lo with
    |none=>rfl
    | some l => cases zo_ S xs.length hi with
      |none=>rfl
      | some l' => cases zo_ S xs.length mx with
        |none=>rfl
        | some m =>
          simp only[zzt_]
          split
          .split
           .simp[e']
           .split<;>simp[e']
          .rfl
   .rfl
  .rename_i v e1' _
   split
   .cases S.row v with
    |none=>rfl
    | some q =>
      obtain⟨z',xs⟩:=q
      simp only
      cases zo_ S 0 lo with
      |none=>rfl
      | some l => cases zo_ S xs.length hi with
        |none=>rfl
        | some l' => cases zo_ S xs.length mx with
          |none=>rfl
          | some m =>
            simp only[zzt_]
            split
            .split<;>simp[e']
            .rfl
   .rfl
  .rename_i v e1' lo0 n _
   split
   .cases S.row v with
    |none=>rfl
    | some q =>
      obtain⟨z',xs⟩:=q
      simp only
      cases zo_ S 0 lo with
      |none=>rfl
      | some l => cases zo_ S n hi with
        |none=>rfl
        |some l'=>simp only[zzt_];split<;>simp[e']
   .rfl
  .rfl
theorem ox_{d e z:Nat}{x:Opd}(hx:∀t∈opdS x,t∈T)(hd:d∈T)(h:∀t∈T,τ t=S.tm t):uJ_ (S.tmd τ) d e z x=(uJ_ S d e z x).map fun q=>(q.1,ov T q.2 τ):=by
 have e':=yE_ h
 have ed:(S.tmd τ).tm d=S.tm d:=h d hd
 have e1:(S.tmd τ).ep=S.ep:=rfl
 have e2:(S.tmd τ).tm=τ:=rfl
 unfold uJ_
 rw[zc_ hx h,ed,e1,e2]
 split
 .simp[e']
 .rename_i e1' z' xs _
  cases x with
  |t t=>simp only;split<;>simp[e',yz_ (hx t (by simp[opdS]))]
  |_=>rfl
 .split<;>simp[e']
 .rename_i l e1' _
  rw[uU_]
  split
  .split
   .split
    .split<;>simp[e']
    .rfl
   .rfl
  .rfl
 .rfl
theorem nV_{d e z b:Nat}{x y:Opd}(hx:∀t∈opdS x,t∈T)(hy:∀t∈opdS y,t∈T)(hd:d∈T)(h:∀t∈T,τ t=S.tm t):appV (S.tmd τ) d e z b x y=(appV S d e z b x y).map fun q=>(q.1,ov T q.2 τ):=by
 unfold appV
 rw[ox_ hx hd h,zc_ hy h,wZ_,zc_ hx h]
 cases uJ_ S d e z x with
 |none=>rfl
 | some q =>
   simp only[zzz_,zzt_]
   cases cont S (z7_ S y) with
   |none=>rfl
   |some r=>simp only[zzt_];split<;>rfl
theorem pR_{d:Nat}{op:AOp}(hs:∀t∈zv_ op,t∈T)(hd:d∈T)(h:∀t∈T,τ t=S.tm t):za_ (S.tmd τ) d op=(za_ S d op).map fun q=>(q.1,ov T q.2 τ):=by
 have e:=yE_ h
 have e2:(S.tmd τ).tm=τ:=rfl
 cases op with
 |mv x=>exact mx_ hs hd h
 |asg x=>rfl
 | pick c a b =>
   simp only[zv_,zzw_]at hs
   simp only[za_,zc_ (x:=c) (fun t ht=>hs t (.inl ht)) h,zc_ (x:=a) (fun t ht=>hs t (.inr (.inl ht))) h,zc_ (x:=b) (fun t ht=>hs t (.inr (.inr ht))) h,e2]
   repeat' split
   all_goals simp[e]
 | bin op x y =>
   simp only[zv_,zzw_]at hs
   simp only[za_,zc_ (x:=x) (fun t ht=>hs t (.inl ht)) h,zc_ (x:=y) (fun t ht=>hs t (.inr ht)) h,e2]
   split
   .rename_i a b _ _
    cases binS op a b<;>simp[e]
   .rfl
 | bib op x y =>
   simp only[zv_,zzw_]at hs
   simp only[za_,zc_ (x:=x) (fun t ht=>hs t (.inl ht)) h,zc_ (x:=y) (fun t ht=>hs t (.inr ht)) h,e2]
   split
   .rename_i a b _ _
    cases binB op a b<;>simp[e]
   .rfl
 | ex k x y =>
   simp only[zv_,zzw_]at hs
   simp only[za_,zc_ (x:=x) (fun t ht=>hs t (.inl ht)) h,zc_ (x:=y) (fun t ht=>hs t (.inr ht)) h,e2]
   cases exV k (z7_ S x) (z7_ S y)<;>simp[e]
 |isn ne x=>rfl
 | un op x =>
   simp only[za_,zc_ (x:=x) hs h,e2]
   split
   .rename_i a _
    cases unS op a<;>simp[e]
   .rfl
 | conv k x =>
   simp only[za_,zc_ (x:=x) hs h,e2]
   split<;>simp[e]
 | b2s x =>
   simp only[za_,zc_ (x:=x) hs h,e2,wZ_]
   cases cont S (z7_ S x) with
   |none=>rfl
   |some r=>simp only[zzt_];cases wa_ r.2<;>simp[e]
 | mkf f x =>
   simp only[za_,zc_ (x:=x) hs h,e2]
   split<;>simp[e]
 |callv t args=>rfl
 | nilck x =>
   simp only[za_,zc_ (x:=x) hs h,e2,wA_]
   cases yJ_ S 0 (z7_ S x)<;>simp[e]
 | ext t i =>
   have ht:t∈T:=hs t (by simp[zv_])
   have et:(S.tmd τ).tm t=S.tm t:=h t ht
   simp only[za_,et,e2]
   cases hx:S.tm t with
   | tup vs =>
     simp only
     cases vs[i]? with
     |none=>rfl
     | some y =>
       simp only[zzt_]
       split
       .split<;>simp[e,yz_ ht]
       .rfl
   |_=>rfl
 | bld zs ps =>
   have hp:∀t∈(ps.map (·.2.2)).flatMap opdS,t∈T:=fun t ht=>hs t (by simpa[zv_,List.flatMap_map] using ht)
   have:=v0_ (S:=S) (σ:=τ) (τ:=τ) (ps.map (·.2.2)) (ρ:=S.tm) hp
   rw[e]at this
   simp only[za_,e2,this]
   cases takes S S.tm (ps.map (·.2.2)) with
   |none=>rfl
   |some q=>simp only[zzz_,zzt_];cases vA_ (zs.map V.s) (ps.map fun p=>(p.1,p.2.1)) q.1<;>simp
 | bls e0 z zero n ps =>
   have hp:∀t∈(ps.map (·.2)).flatMap opdS,t∈T:=fun t ht=>hs t (by simpa[zv_,List.flatMap_map] using ht)
   have:=v0_ (S:=S) (σ:=τ) (τ:=τ) (ps.map (·.2)) (ρ:=S.tm) hp
   rw[e]at this
   simp only[za_,e2,this]
   cases takes S S.tm (ps.map (·.2)) with
   |none=>rfl
   | some q =>
     simp only[zzz_,zzt_]
     cases sets (List.replicate n (wW_ zero)) (ps.map (·.1)) (q.1.map toImm) z with
     |none=>rfl
     |some xs=>simp only[zzt_];split<;>simp
 |allo zs=>rfl
 |box n x=>rfl
 |ld n ag p=>exact mC_ hs hd h
 |st n p x=>rfl
 | fa off p =>
   simp only[za_,zc_ (x:=p) hs h,e2,wA_]
   cases yJ_ S off (z7_ S p)<;>simp[e]
 | ia z x i =>
   simp only[zv_,zzw_]at hs
   exact mF_ (fun t ht=>hs t (.inl ht)) (fun t ht=>hs t (.inr ht)) h
 | iaa z len x i =>
   simp only[zv_,zzw_]at hs
   simp only[za_,nE_ (z:=z) (len:=len) (x:=x) (i:=i) (fun t ht=>hs t (.inl ht)) (fun t ht=>hs t (.inr ht)) h,e2]
   cases iaaV S z len x i<;>simp[e]
 | sl e0 z x lo hi mx =>
   simp only[zv_,zzw_]at hs
   exact m7_ (fun t ht=>hs t (.inl ht)) (fun t ht=>hs t (.inr (.inl ht))) (fun t ht=>hs t (.inr (.inr (.inl ht)))) (fun t ht=>hs t (.inr (.inr (.inr ht)))) h
 | ssl x lo hi =>
   simp only[zv_,zzw_]at hs
   simp only[za_,ne_ (x:=x) (lo:=lo) (hi:=hi) (fun t ht=>hs t (.inl ht)) (fun t ht=>hs t (.inr (.inl ht))) (fun t ht=>hs t (.inr (.inr ht))) h,e2]
   cases sslV S x lo hi<;>simp[e]
 | app e0 z b x y =>
   simp only[zv_,zzw_]at hs
   exact nV_ (fun t ht=>hs t (.inl ht)) (fun t ht=>hs t (.inr ht)) hd h
 | len x =>
   simp only[za_,zc_ (x:=x) hs h,e2,wZ_]
   have el:lenT (S.tmd τ) x=ov T (lenT S x) τ:=by
    cases x with
    | t t =>
      have ht:t∈T:=hs t (by simp[opdS,zv_])
      have et:(S.tmd τ).tm t=S.tm t:=h t ht
      simp only[lenT,et,e2]
      cases S.tm t with
      |own m e' z xs=>cases m<;>simp[yz_ ht,e]
      |_=>simp[e]
    |_=>simp[lenT,e2,e]
   rw[el]
   cases cont S (z7_ S x)<;>simp
 | slen x =>
   simp only[za_,zc_ (x:=x) hs h,e2]
   split<;>simp[e]
 | mk e0 z b zero n c =>
   simp only[zv_,zzw_]at hs
   simp only[za_,mkV,zc_ (x:=n) (fun t ht=>hs t (.inl ht)) h,zc_ (x:=c) (fun t ht=>hs t (.inr ht)) h,e2]
   split
   .split<;>simp[e]
   .rfl
 | mnx mx x y =>
   simp only[zv_,zzw_]at hs
   simp only[za_,zc_ (x:=x) (fun t ht=>hs t (.inl ht)) h,zc_ (x:=y) (fun t ht=>hs t (.inr ht)) h,e2]
   split<;>simp[e]
 | cvb x =>
   cases x with
   | t t =>
     have ht:t∈T:=hs t (by simp[zv_,opdS])
     have et:(S.tmd τ).tm t=S.tm t:=h t ht
     have en:zF_ (S.tmd τ)=zF_ S:=rfl
     simp only[za_,cvbV,et,en,e2]
     split
     .split
      .simp[e,yz_ ht]
      .rfl
     .rfl
   |_=>rfl
 |call f args=>rfl
end
end
section
section
variable{S:St}
theorem yK_{ρ:Nat->V}{u t:Nat}{x:V}(h:t=u->False):upd ρ u x t=ρ t:=y9_ _ _ (fun e=>h e)
theorem ut_{x:Opd}{y:V}{tm1:Nat->V}{t:Nat}(hk:mvV S x=some (y,tm1))(h:t∈opdS x->zZ_ (S.tm t)=true):tm1 t=S.tm t:=by
 cases x with
 |c v=>simp[mvV]at hk;rw[hk.2]
 | v i =>
   simp only[mvV]at hk
   repeat' split at hk
   all_goals first
    |cases hk;done
    |(simp only[yya_,yyc_]at hk;rw[hk.2])
 | t u =>
   have hu:t=u->zZ_ (S.tm u)=true:=fun e=>e ▸ h (by simp[opdS,e])
   simp only[mvV]at hk
   cases hx:S.tm u with
   | own m e z xs =>
     rw[hx]at hk hu
     cases m with
     | true =>
       simp only[yya_,yyc_]at hk
       rw[<-hk.2]
       exact yK_ (fun e=>by have:=hu e;simp[zZ_]at this)
     |false=>simp[y1_]at hk;rw[hk.2]
   | agg cs =>
     rw[hx]at hk
     simp only[yya_,yyc_]at hk
     rw[<-hk.2]
     exact vS_ h
   | tup vs =>
     rw[hx]at hk hu
     simp only[yya_,yyc_]at hk
     rw[<-hk.2]
     exact yK_ (fun e=>by have:=hu e;simp[zZ_]at this)
   | _ =>
     rw[hx]at hk
     simp only at hk
     split at hk
     .simp only[yya_,yyc_]at hk;rw[hk.2]
     .cases hk
theorem rp_{d:Nat}{op:AOp}{y:V}{tm1:Nat->V}{t:Nat}(hk:za_ S d op=some (y,tm1))(h:t∈zv_ op->zZ_ (S.tm t)=true):tm1 t=S.tm t:=by
 cases op with
 | mv x =>
   simp only[za_,mvD]at hk
   split at hk
   .split at hk
    .split at hk
     .split at hk
      .simp only[yya_,yyc_]at hk;rw[hk.2]
      .cases hk
     .exact ut_ hk h
    .exact ut_ hk h
   .exact ut_ hk h
 | bld zs ps =>
   simp only[za_,zza_,zzb_]at hk
   obtain⟨⟨ys,ρ⟩,k1,cs,_,k2⟩:=hk
   injection k2 with _ k2
   subst k2
   exact x6_ _ k1 (fun ht=>h (by simpa[zv_,List.flatMap_map] using ht))
 | bls e z zero n ps =>
   simp only[za_,zza_]at hk
   obtain⟨⟨ys,ρ⟩,k1,xs,_,k2⟩:=hk
   split at k2
   .simp only[yya_,yyc_]at k2
    obtain⟨_,rfl⟩:=k2
    exact x6_ _ k1 (fun ht=>h (by simpa[zv_,List.flatMap_map] using ht))
   .cases k2
 | ext u i =>
   simp only[za_]at hk
   split at hk
   .next vs hv =>
    simp only[zza_]at hk
    obtain⟨x,_,hk⟩:=hk
    split at hk
    .simp only[yya_,yyc_]at hk
     rw[<-hk.2]
     split
     .refine yK_ (fun e=>?_)
      have:=h (by simp[zv_,e])
      rw[e,hv]at this
      simp[zZ_]at this
     .rfl
    .cases hk
   .cases hk
 | ia z x i =>
   simp only[za_,iaV]at hk
   have hown:∀ {u:Nat} {e z:Nat} {xs xs':List V},x=.t u->z7_ S x=.own true e z xs->upd S.tm u (.list z xs') t=S.tm t:=by
    intro u e z xs xs' hx hl
    subst hx
    refine yK_ (fun q=>?_)
    have:=h (by simp[zv_,opdS,q])
    have hl':S.tm u=.own true e z xs:=hl
    rw[q,hl']at this
    simp[zZ_]at this
   split at hk
   .cases hk
   .split at hk
    .cases hk
    .split at hk
     .split at hk
      .simp only[zza_]at hk
       obtain⟨_,_,hk⟩:=hk
       simp only[yya_,yyc_]at hk
       rw[hk.2]
      .cases hk
     .rename_i e z' xs hl
      cases x with
      | t u =>
        simp only at hk
        split at hk
        .simp only[zza_]at hk
         obtain⟨_,_,hk⟩:=hk
         simp only[yya_,yyc_]at hk
         rw[<-hk.2]
         refine yK_ (fun q=>?_)
         have:=h (by simp[zv_,opdS,q])
         have hl':S.tm u=.own true e z' xs:=hl
         rw[q,hl']at this
         simp[zZ_]at this
        .cases hk
      |_=>cases hk
     .repeat' split at hk
      all_goals first
       |cases hk;done
       |(simp only[yya_,yyc_]at hk;rw[hk.2])
     .repeat' split at hk
      all_goals first
       |cases hk;done
       |(simp only[yya_,yyc_]at hk;rw[hk.2])
     .cases hk
 | sl e0 z x lo hi mx =>
   simp only[za_,slV]at hk
   split at hk
   .cases hk
   .split at hk
    .simp only[zza_]at hk
     obtain⟨_,_,_,_,_,_,hk⟩:=hk
     split at hk
     .simp only[yya_,yyc_]at hk;rw[hk.2]
     .cases hk
    .simp only[zza_]at hk
     obtain⟨_,_,_,_,_,_,hk⟩:=hk
     repeat' split at hk
     all_goals first
      |cases hk;done
      |(simp only[yya_,yyc_]at hk;rw[hk.2])
    .rename_i e z' xs hl
     cases x with
     | t u =>
       simp only[zza_]at hk
       obtain⟨_,_,_,_,hk⟩:=hk
       split at hk
       .simp only[yya_,yyc_]at hk
        rw[<-hk.2]
        refine yK_ (fun q=>?_)
        have:=h (by simp[zv_,opdS,q])
        have hl':S.tm u=.own true e z' xs:=hl
        rw[q,hl']at this
        simp[zZ_]at this
       .cases hk
     |_=>cases hk
    .split at hk
     .simp only[zza_]at hk
      obtain⟨_,_,_,_,_,_,hk⟩:=hk
      repeat' split at hk
      all_goals first
       |cases hk;done
       |(simp only[yya_,yyc_]at hk;rw[hk.2])
     .cases hk
    .split at hk
     .split at hk
      .simp only[zza_]at hk
       obtain⟨_,_,_,_,_,_,hk⟩:=hk
       repeat' split at hk
       all_goals first
        |cases hk;done
        |(simp only[yya_,yyc_]at hk;rw[hk.2])
      .cases hk
     .cases hk
    .split at hk
     .split at hk
      .simp only[zza_]at hk
       obtain⟨_,_,_,_,hk⟩:=hk
       repeat' split at hk
       all_goals first
        |cases hk;done
        |(simp only[yya_,yyc_]at hk;rw[hk.2])
      .cases hk
     .cases hk
    .cases hk
 | app e0 z b x y' =>
   simp only[za_,appV,zza_]at hk
   obtain⟨⟨xs,ρ⟩,k1,r,_,hk⟩:=hk
   split at hk
   .simp only[yya_,yyc_]at hk
    obtain⟨_,rfl⟩:=hk
    simp only[uJ_]at k1
    split at k1
    .simp only[yya_,yyc_]at k1;rw[k1.2]
    .rename_i e z' xs hl
     cases x with
     | t u =>
       simp only at k1
       split at k1
       .simp only[yya_,yyc_]at k1
        rw[<-k1.2]
        refine yK_ (fun q=>?_)
        have:=h (by simp[zv_,opdS,q])
        have hl':S.tm u=.own true e z' xs:=hl
        rw[q,hl']at this
        simp[zZ_]at this
       .cases k1
     |_=>cases k1
    .split at k1
     .simp only[yya_,yyc_]at k1;rw[k1.2]
     .cases k1
    .repeat' split at k1
     all_goals first
      |cases k1;done
      |(simp only[yya_,yyc_]at k1;rw[k1.2])
    .cases k1
   .cases hk
 | ld n ag p =>
   have hl:∀q,((ya_ S n q).bind fun cs=>(x4_ ag cs).map fun y=>(y,S.tm))=some (y,tm1)->tm1 t=S.tm t:=by
    intro q hq
    simp only[zza_,zzb_]at hq
    obtain⟨_,_,_,_,hq⟩:=hq
    injection hq with _ hq
    rw[hq]
   simp only[za_,ldD]at hk
   split at hk
   .split at hk
    case isFalse=>cases hk
    split at hk
    .simp only[yya_,yyc_]at hk;rw[hk.2]
    split at hk
    .split at hk
     .split at hk
      .simp only[yya_,yyc_]at hk;rw[hk.2]
      .cases hk
     .exact hl _ hk
    .exact hl _ hk
   .exact hl _ hk
 | pick c a b =>
   simp only[za_]at hk
   split at hk
   .repeat' split at hk
    all_goals first
     |cases hk;done
     |(simp only[yya_,yyc_]at hk;rw[hk.2])
   .cases hk
 | cvb x =>
   cases x with
   | t u =>
     simp only[za_,cvbV]at hk
     split at hk
     .next e z xs hl =>
      split at hk
      .simp only[yya_,yyc_]at hk
       rw[<-hk.2]
       refine yK_ (fun q=>?_)
       have:=h (by simp[zv_,opdS,q])
       rw[q,hl]at this
       simp[zZ_]at this
      .cases hk
     .cases hk
   |_=>simp[za_,cvbV]at hk
 | len x =>
   simp only[za_,zzb_]at hk
   obtain⟨_,_,hk⟩:=hk
   injection hk with _ hk
   rw[<-hk]
   cases x with
   | t u =>
     simp only[lenT]
     cases hl:S.tm u with
     | own m e z xs =>
       cases m with
       | true =>
         refine yK_ (fun q=>?_)
         have:=h (by simp[zv_,opdS,q])
         rw[q,hl]at this
         simp[zZ_]at this
       |false=>rfl
     |_=>rfl
   |_=>rfl
 | b2s x =>
   simp only[za_,zza_,zzb_]at hk
   obtain⟨_,_,_,_,hk⟩:=hk
   injection hk with _ hk
   rw[hk]
 | mk e z b zero n c =>
   simp only[za_,zzb_]at hk
   obtain⟨_,_,hk⟩:=hk
   injection hk with _ hk
   rw[hk]
 | _ =>
   simp only[za_]at hk
   repeat' split at hk
   all_goals first
    |cases hk;done
    |(simp only[yya_,yyc_]at hk;rw[hk.2];done)
    |(simp only[zzb_]at hk;obtain⟨_,_,hk⟩:=hk;injection hk with _ hk;rw[hk])
def St.push(S:St)(c:List (List V)):St:=⟨S.tm,S.vs,S.bx++c,S.ep⟩
variable{c:List (List V)}
theorem wG_{l:Loc}{x:V}(h:S.at l=some x):(S.push c).at l=some x:=by
 cases l with
 |var i=>exact h
 | cell b o =>
   simp only[St.at,zza_]at h ⊢
   obtain⟨cs,h1,h2⟩:=h
   exact⟨cs,by simp only[St.push];rw[zzo_ (zzc_.1 h1).1,h1],h2⟩
theorem x0_{l:Loc}{r:Nat×List V}(h:S.row l=some r):(S.push c).row l=some r:=by
 unfold St.row at h ⊢
 split at h
 .next hx=>rw[wG_ hx];exact h
 .next hx=>rw[wG_ hx];exact h
 .cases h
theorem mT_(S S':St)(v:Value):cont S (.s v)=cont S' (.s v):=by
 unfold cont
 split<;>simp_all
theorem l3_(S S':St)(e z:Nat)(x:Opd)(lo hi mx:Option Opd)(v:Value)(hx:z7_ S x=.s v)(hx':z7_ S' x=.s v)(ho:∀n x,zo_ S' n x=zo_ S n x)(ht:S'.tm=S.tm):slV S' e z x lo hi mx=slV S e z x lo hi mx:=by
 unfold slV
 rw[hx,hx']
 simp only[ho,ht]
 split
 .rfl
 .split<;>simp_all
theorem xE_{x:V}{r:Nat×List V}(h:cont S x=some r):cont (S.push c) x=some r:=by
 cases x with
 | view l e =>
   simp only[cont]at h ⊢
   split at h
   .next he=>rw[if_pos (show e=(S.push c).ep from he)];exact x0_ h
   .cases h
 | sview l e lo n =>
   simp only[cont]at h ⊢
   split at h
   .next he =>
    rw[if_pos (show e=(S.push c).ep from he)]
    simp only[zza_]at h ⊢
    obtain⟨r',h1,h2⟩:=h
    exact⟨r',x0_ h1,h2⟩
   .cases h
 |s v=>exact mT_ S _ v ▸ h
 |_=>exact h
theorem u0_{x y:V}(h:yh_ S x=some y):yh_ (S.push c) x=some y:=by
 cases x with
 | view l e =>
   simp only[yh_]at h ⊢
   split at h
   .next he =>
    rw[if_pos (show e=(S.push c).ep from he)]
    split at h
    .next hx=>rw[wG_ hx];exact h
    .cases h
   .cases h
 | sview l e lo n =>
   simp only[yh_]at h ⊢
   split at h
   .next he =>
    rw[if_pos (show e=(S.push c).ep from he)]
    split at h
    .next hx=>rw[wG_ hx];exact h
    .cases h
   .cases h
 |own m e z xs=>cases m<;>exact h
 |_=>exact h
theorem vm_:∀ {cs ys:List V},yR_ S cs=some ys->yR_ (S.push c) cs=some ys
 |[],ys,h=>h
 | x :: r, ys, h => by
   simp only[yR_,zza_]at h ⊢
   obtain⟨y,h1,q,h2,h3⟩:=h
   exact⟨y,u0_ h1,q,vm_ h2,h3⟩
theorem qu_{x y:V}(h:give S x=some y):give (S.push c) x=some y:=by
 by_cases hag:∃cs,x=.agg cs
 .obtain⟨cs,rfl⟩:=hag
  simp only[give,zza_]at h ⊢
  obtain⟨q,h1,h2⟩:=h
  exact⟨q,vm_ h1,h2⟩
 .have e:∀S,give S x=yh_ S x:=fun S=>by cases x<;>first|rfl|exact absurd ⟨_,rfl⟩ hag
  rw[e]at h ⊢
  exact u0_ h
theorem rq_{ρ ρ1:Nat->V}{x:Opd}{y:V}(h:ym_ S ρ x=some (y,ρ1)):ym_ (S.push c) ρ x=some (y,ρ1):=by
 simp only[ym_,zza_]at h ⊢
 obtain⟨z,h1,q,h2,h3⟩:=h
 refine⟨z,?_,q,qu_ h2,h3⟩
 cases x<;>exact h1
theorem xR_:∀ {xs:List Opd} {ρ:Nat->V} {r:List V×(Nat->V)},takes S ρ xs=some r->takes (S.push c) ρ xs=some r
 |[],ρ,r,h=>h
 | x :: xs, ρ, r, h => by
   simp only[takes,zza_]at h ⊢
   obtain⟨q,h1,q',h2,h3⟩:=h
   exact⟨q,rq_ h1,q',xR_ h2,h3⟩
theorem rs_{n:Nat}{x:V}{cs:List V}(h:ya_ S n x=some cs):ya_ (S.push c) n x=some cs:=by
 cases x with
 | ptr b o =>
   simp only[ya_]at h ⊢
   by_cases hlt:o<1000000000
   case neg=>rw[if_neg hlt]at h;cases h
   rw[if_pos hlt]at h ⊢
   split at h
   .next cs' hb =>
    have:(S.push c).bx[b]?=some cs':=by simp only[St.push];rw[zzo_ (zzc_.1 hb).1,hb]
    rw[this]
    exact h
   .cases h
 | vp l e i q =>
   simp only[ya_]at h ⊢
   split at h
   .next he =>
    rw[if_pos (show e=(S.push c).ep from he)]
    split at h
    .next hr=>rw[x0_ hr];exact h
    .cases h
   .cases h
 |_=>exact h
theorem w3_{n:Nat}{x y:V}(h:yJ_ S n x=some y):yJ_ (S.push c) n x=some y:=by
 cases x with
 | vp l e i q =>
   simp only[yJ_]at h ⊢
   split at h
   .next he =>
    obtain⟨h1,h2⟩:=he
    obtain⟨r,hr⟩:=Option.isSome_iff_exists.1 h2
    rw[if_pos ⟨h1,by rw[x0_ hr];rfl⟩]
    exact h
   .cases h
 |_=>exact h
theorem tc_{x y:V}(h:borL S x=some y):borL (S.push c) x=some y:=by
 cases x with
 | view l e =>
   simp only[borL,zzb_]at h ⊢
   obtain⟨r,h1,h2⟩:=h
   exact⟨r,xE_ h1,h2⟩
 | sview l e lo n =>
   simp only[borL,zzb_]at h ⊢
   obtain⟨r,h1,h2⟩:=h
   exact⟨r,xE_ h1,h2⟩
 |_=>exact h
theorem u1_:∀ {cs ys:List V},wb_ S cs=some ys->wb_ (S.push c) cs=some ys
 |[],ys,h=>h
 | x :: r, ys, h => by
   simp only[wb_,zza_]at h ⊢
   obtain⟨y,h1,q,h2,h3⟩:=h
   exact⟨y,tc_ h1,q,u1_ h2,h3⟩
theorem pX_{x y:V}(h:bor S x=some y):bor (S.push c) x=some y:=by
 by_cases hag:∃cs,x=.agg cs
 .obtain⟨cs,rfl⟩:=hag
  simp only[bor,zzb_]at h ⊢
  obtain⟨q,h1,h2⟩:=h
  exact⟨q,u1_ h1,h2⟩
 .have e:∀S,bor S x=borL S x:=fun S=>by cases x<;>first|rfl|exact absurd ⟨_,rfl⟩ hag
  rw[e]at h ⊢
  exact tc_ h
theorem tb_:∀ {xs:List Opd} {ys:List V},bors S xs=some ys->bors (S.push c) xs=some ys
 |[],ys,h=>h
 | x :: r, ys, h => by
   simp only[bors,zza_]at h ⊢
   obtain⟨y,h1,q,h2,h3⟩:=h
   exact⟨y,pX_ (by cases x<;>exact h1),q,tb_ h2,h3⟩
theorem s8_{x:V}(h:xB_ S x=true):xB_ (S.push c) x=true:=by
 cases x with
 | view l e =>
   cases l with
   |var i=>exact h
   | cell b o =>
     simp only[xB_]at h ⊢
     cases hx:S.at (.cell b o) with
     |none=>rw[hx]at h;cases h
     |some y=>rw[wG_ hx];rw[hx]at h;exact h
 |_=>exact h
theorem ta_{xs:List Opd}(h:yo_ S xs=true):yo_ (S.push c) xs=true:=by
 cases xs with
 |nil=>rfl
 | cons x r =>
   simp only[yo_,zzg_,zzh_]at h ⊢
   have e:∀y,z7_ (S.push c) y=z7_ S y:=fun y=>by cases y<;>rfl
   refine⟨?_,fun y hy=>by rw[e];exact h.2 y hy⟩
   rw[e]
   exact s8_ h.1
theorem rr_(hcS:∀cs∈c,∀x∈cs,isS x=true){d:Nat}{op:AOp}{r:V×(Nat->V)}(h:za_ S d op=some r):za_ (S.push c) d op=some r:=by
 have hm:∀x,mvV (S.push c) x=mvV S x:=fun x=>by cases x<;>rfl
 have el:∀x,z7_ (S.push c) x=z7_ S x:=fun x=>by cases x<;>rfl
 have eo:∀n x,zo_ (S.push c) n x=zo_ S n x:=fun n x=>by cases x<;>rfl
 have et:(S.push c).tm=S.tm:=rfl
 have ee:(S.push c).ep=S.ep:=rfl
 cases op with
 | mv x =>
   have:mvD (S.push c) d x=mvD S d x:=by cases x<;>rfl
   show mvD (S.push c) d x=some r
   rw[this];exact h
 | cvb x =>
   cases x with
   | t u =>
     simp only[za_,cvbV,et]at h ⊢
     split at h
     .next e z xs hl =>
      split at h
      .next hcd =>
       have:zF_ (S.push c)=true:=by
        have h3:=hcd.2.2
        simp only[zF_,zzg_,zzh_,St.push]at h3 ⊢
        refine⟨h3.1,fun cs hcs x hx=>?_⟩
        rcases zzw_.1 hcs with q|q
        .exact h3.2 cs q x hx
        .have:=hcS cs q x hx
         cases x<;>first|rfl|simp[isS]at this
       rw[if_pos ⟨hcd.1,hcd.2.1,this⟩]
       exact h
      .cases h
     .cases h
   |_=>exact h
 | b2s x =>
   simp only[za_,el,et,zza_]at h ⊢
   obtain⟨q,h1,h2⟩:=h
   exact⟨q,xE_ h1,h2⟩
 | nilck x =>
   simp only[za_,el,et,zzb_]at h ⊢
   obtain⟨q,h1,h2⟩:=h
   exact⟨q,w3_ h1,h2⟩
 | mkf f x =>
   simp only[za_,el,et]at h ⊢
   exact h
 | fa off x =>
   simp only[za_,el,et,zzb_]at h ⊢
   obtain⟨q,h1,h2⟩:=h
   exact⟨q,w3_ h1,h2⟩
 | bld zs ps =>
   simp only[za_,et,zza_]at h ⊢
   obtain⟨q,h1,h2⟩:=h
   exact⟨q,xR_ h1,h2⟩
 | bls e z zero n ps =>
   simp only[za_,et,zza_]at h ⊢
   obtain⟨q,h1,h2⟩:=h
   exact⟨q,xR_ h1,h2⟩
 | len x =>
   have ev:lenT (S.push c) x=lenT S x:=by cases x<;>rfl
   simp only[za_,el,et,ev,zzb_]at h ⊢
   obtain⟨q,h1,h2⟩:=h
   exact⟨q,xE_ h1,h2⟩
 | ld n ag p =>
   have hl:∀q,((ya_ S n q).bind fun cs=>(x4_ ag cs).map fun y=>(y,S.tm))=some r->((ya_ (S.push c) n q).bind fun cs=>(x4_ ag cs).map fun y=>(y,S.tm))=some r:=by
    intro q hq
    simp only[zza_]at hq ⊢
    obtain⟨cs,h1,h2⟩:=hq
    exact⟨cs,rs_ h1,h2⟩
   simp only[za_,ldD,el,et,ee]at h ⊢
   cases hx:z7_ S p with
   | ptr b o =>
     rw[hx]at h
     simp only at h ⊢
     by_cases hlt:o<1000000000
     case neg=>rw[if_neg hlt]at h;cases h
     rw[if_pos hlt]at h ⊢
     cases hb:S.bx[b]? with
     | none =>
       have hat:S.at (.cell b o)=none:=by simp[St.at,hb]
       have hA:ldA S d n b o=none:=by
        unfold ldA
        split
        .simp[hb]
        .rfl
       rw[hat,hA]at h
       simp[ya_,hb]at h
     | some cs =>
       have hA:ldA (S.push c) d n b o=ldA S d n b o:=by
        have hb':(S.push c).bx[b]?=S.bx[b]?:=by
         simp only[St.push]
         rw[zzo_ (zzc_.1 hb).1]
        unfold ldA
        rw[hb']
        rfl
       rw[hA]
       split at h
       .exact h
       have hat:(S.push c).at (.cell b o)=S.at (.cell b o):=by
        simp only[St.at,St.push]
        rw[zzo_ (zzc_.1 hb).1]
       rw[hat]
       split at h
       .split at h
        .next hc=>rw[if_pos hc];exact h
        .next hc=>rw[if_neg hc];exact hl _ h
       .exact hl _ h
   |_=>rw[hx]at h;exact hl _ h
 | ia z x i =>
   simp only[za_,iaV,el,et,ee]at h ⊢
   cases hi:yI_ (z7_ S i) with
   |none=>rw[hi]at h;cases h
   | some n =>
     rw[hi]at h
     simp only at h ⊢
     split at h
     .cases h
     .next hc =>
      rw[if_neg hc]
      cases hx:z7_ S x with
      | view l e =>
        rw[hx]at h
        simp only at h ⊢
        split at h
        .next he =>
         rw[if_pos he]
         cases hr:S.row l with
         |none=>rw[hr]at h;cases h
         |some q=>rw[hr]at h;rw[x0_ hr];exact h
        .cases h
      | sview l e lo m =>
        rw[hx]at h
        simp only at h ⊢
        split at h
        .next he =>
         rw[if_pos he]
         cases hr:S.row l with
         |none=>rw[hr]at h;cases h
         |some q=>rw[hr]at h;rw[x0_ hr];exact h
        .cases h
      |own m e z xs=>rw[hx]at h;cases m<;>exact h
      |_=>rw[hx]at h;exact h
 | iaa z len x i =>
   simp only[za_,iaaV,el,et,zzb_]at h ⊢
   obtain⟨q,h1,h2⟩:=h
   refine⟨q,?_,h2⟩
   split at h1
   .cases h1
   .split at h1
    .next hc=>rw[if_pos hc];exact w3_ h1
    .cases h1
 | sl e0 z x lo hi mx =>
   by_cases hs:∃v,z7_ S x=.s v
   .obtain⟨v,hv⟩:=hs
    have:=l3_ S (S.push c) e0 z x lo hi mx v hv (by rw[el];exact hv) eo rfl
    show slV (S.push c) e0 z x lo hi mx=some r
    rw[this];exact h
   simp only[za_,slV,el,et,eo,ee]at h ⊢
   split at h
   .cases h
   .next hz =>
    rw[if_neg hz]
    cases hx:z7_ S x with
    | view l e =>
      rw[hx]at h
      simp only at h ⊢
      split at h
      .next he =>
       rw[if_pos he]
       cases hr:S.row l with
       |none=>rw[hr]at h;cases h
       |some q=>rw[hr]at h;rw[x0_ hr];exact h
      .cases h
    | sview l e lo0 n =>
      rw[hx]at h
      simp only at h ⊢
      split at h
      .next he =>
       rw[if_pos he]
       cases hr:S.row l with
       |none=>rw[hr]at h;cases h
       |some q=>rw[hr]at h;rw[x0_ hr];exact h
      .cases h
    |own m e z xs=>rw[hx]at h;cases m<;>exact h
    |s v=>exact absurd ⟨v,hx⟩ hs
    |_=>rw[hx]at h;exact h
 | ssl x lo hi =>
   simp only[za_,sslV,el,et,eo]at h ⊢
   exact h
 | app e0 z b x y =>
   simp only[za_,appV,el,zza_]at h ⊢
   obtain⟨q,h1,r',h2,h3⟩:=h
   refine⟨q,?_,r',xE_ h2,h3⟩
   simp only[uJ_,el,et,ee]at h1 ⊢
   cases hx:z7_ S x with
   | view l e =>
     rw[hx]at h1
     simp only at h1 ⊢
     split at h1
     .next he =>
      rw[if_pos he]
      cases hr:S.at l with
      |none=>rw[hr]at h1;cases h1
      |some q=>rw[hr]at h1;rw[wG_ hr];exact h1
     .cases h1
   |own m e z xs=>rw[hx]at h1;cases m<;>exact h1
   |s v=>rw[hx]at h1;revert h1;split<;>simp_all
   |_=>rw[hx]at h1;exact h1
 | mk e z b zero n cc =>
   simp only[za_,mkV,el,et]at h ⊢
   exact h
 | _ =>
   simp only[za_,el,et]at h ⊢
   exact h
end
end
section
def noVO:Opd->Bool
 |.v _=>false
 |_=>true
def zh_(S:St):AOp->Bool
 | .mv (.v i) => match S.vs[i]? with
   |some x=>y7_ x&&y1_ x
   |none=>false
 |.mv _=>true
 | .nilck (.t t) => match S.tm t with
   |.ptr _ _=>true
   |.ip _=>true
   |_=>false
 | .fa _ (.t t) => match S.tm t with
   |.ptr _ _=>true
   |.ip _=>true
   |_=>false
 |.ext _ _=>true
 |.bin _ x y=>noVO x&&noVO y
 |.bib _ x y=>noVO x&&noVO y
 |.un _ x=>noVO x
 |.conv _ x=>noVO x
 |.slen x=>noVO x
 | .len (.t t) => match S.tm t with
   |.list _ _=>true
   |_=>false
 |.pick c a b=>noVO c&&noVO a&&noVO b
 |.bls _ _ _ _ ps=>cps ps
 | .ia _ (.t t) i => noVO i && (match S.tm t with
   |.list _ _=>true
   |_=>false)
 | .ld _ _ (.t t) => match S.tm t with
   |.ip _=>true
   |_=>false
 |_=>false
def VsSame(S S':St):Prop:=∀(j:Nat) (x:V),y7_ x=true->S.vs[j]?=some x->S'.vs[j]?=some x
inductive Cls where
 |q|a|s
deriving DecidableEq
def cls(ac:Bool):AOp->Cls
 |.asg _|.st _ _ _|.box _ _=>.s
 |.allo _=>.a
 |.call _ _=>if ac then .s else .q
 |_=>.q
def mm_(q:Nat):V->Bool
 |.ptr b _=>decide (b=q)
 |_=>false
def nj_(ys:List V)(sel:List Nat):Bool:=sel.all fun q=>ys.any (mm_ q)
def DO(P:Program)(ac:Bool)(o:AOper)(S S':St):Prop :=
 match o.op with
 |.call f args=>∃d,o.dst=.t d /\
  (if ac then ∃ ys tm1, takes S S.tm args = some (ys, tm1) /\ ∃ mask sel args' bs R bs', handOk S.bx ys mask sel args' bs /\ AC P f args' bs (fun r b => r = R /\ b = bs') /\ (vH_ sel bs' = true /\ nj_ ys sel = true) /\ S' = aftS { S with tm := tm1 } d R sel bs'
   else (∃ys tm1,takes S S.tm args=some (ys,tm1)/\(ys.map toImm).all immA=true/\∃R,PC P f (ys.map toImm) (fun r=>r=R)/\S'={ S with tm:=upd tm1 d R }) \/
    (∃ys,bors S args=some ys/\∃R,BC P f ys (yo_ S args) (fun r=>r=R)/\True/\S'={ S with tm:=upd S.tm d R }))
 |op=>step S o.dst op=some S'
def DG(P:Program)(ac:Bool)(o:AOper)(S S':St):Prop :=
 match o.guard with
 |none=>DO P ac o S S'
 |some (t,want)=>∃go,gB (S.tm t) want=some go/\if go=true then DO P ac o S S' else wC_ S o.dst=some S'
section
variable{P:Program}{S S' R:St}{τ:Nat->V}{T:List Nat}{ac:Bool}
theorem mQ_{o:AOper}{K:St->Prop}(h:DO P ac o S S')(hk:K S'):WO P o S K:=by
 unfold DO at h
 unfold WO
 cases hop:o.op with
 | call f args =>
   rw[hop]at h
   simp only at h ⊢
   obtain⟨d,h1,h3⟩:=h
   refine⟨d,h1,?_⟩
   split at h3
   .obtain⟨ys,tm1,h2,mask,sel,args',bs,R,bs',k1,k2,k3,rfl⟩:=h3
    exact .inr (.inr (.inl ⟨ys,tm1,h2,mask,sel,args',bs,_,k1,k2,fun r b ⟨e1,e2⟩=>by subst e1 e2;exact⟨k3.1,hk⟩⟩))
   .rcases h3 with ⟨ys,tm1,h2,k1,R,k2,rfl⟩|⟨ys,h2,R,k2,k3,rfl⟩
    .exact .inl ⟨ys,tm1,h2,k1,_,k2,fun r e=>by subst e;exact hk⟩
    .exact .inr (.inl ⟨ys,h2,_,k2,fun r e=>by subst e;exact⟨k3,hk⟩⟩)
 | isn ne x =>
   rw[hop]at h
   generalize o.dst=dd at h
   exfalso
   cases dd<;>simp[step,za_]at h
 | callv t args =>
   rw[hop]at h
   generalize o.dst=dd at h
   exfalso
   cases dd<;>simp[step]at h
 | _ =>
   rw[hop]at h
   simp only at h ⊢
   rw[h]
   exact hk
theorem lp_{o:AOper}{K:St->Prop}(h:DG P ac o S S')(hk:K S'):WG P o S K:=by
 unfold DG at h
 unfold WG
 cases hg:o.guard with
 |none=>rw[hg]at h;exact mQ_ h hk
 | some q =>
   obtain⟨t,want⟩:=q
   rw[hg]at h
   obtain⟨b,h1,h2⟩:=h
   simp only[h1]
   cases b
   .simp only[yyi_,if_false]at h2
    simp only[h2]
    exact hk
   .simp only[if_true]at h2
    exact mQ_ h2 hk
theorem n7_(σ:Nat->V):(S.tmd τ).tmd σ=S.tmd σ:=rfl
theorem xF_{l:Loc}{y:V}:(S.tmd τ).place l y=(S.place l y).map (·.tmd τ):=by
 cases l with
 | var i =>
   simp only[St.place,St.tmd]
   cases S.vs[i]? with
   |none=>rfl
   |some old=>simp only;split<;>rfl
 | cell b o =>
   simp only[St.place,St.tmd]
   cases S.bx[b]? with
   |none=>rfl
   | some cs =>
     simp only
     cases cs[o]? with
     |none=>rfl
     |some old=>simp only;split<;>rfl
theorem wH_:∀(ys:List V) {S:St} {b o:Nat},(S.tmd τ).places b o ys=(S.places b o ys).map (·.tmd τ)
 |[],S,b,o=>rfl
 | y :: r, S, b, o => by
   simp only[St.places,xF_]
   cases S.place (.cell b o) y with
   |none=>rfl
   |some S'=>simp only[zzz_,zzt_,wH_ r]
theorem ur_{l:Loc}{y:V}(h:S.place l y=some S'):S'.tm=S.tm:=by
 obtain⟨_,_,_,h,_⟩:=yi_ h
 exact h
theorem tf_:∀(ys:List V) {S S':St} {b o:Nat},S.places b o ys=some S'->S'.tm=S.tm
 |[],S,S',b,o,h=>by simp[St.places]at h;rw[h]
 | y :: r, S, S', b, o, h => by
   simp only[St.places,zza_]at h
   obtain⟨S1,h1,h2⟩:=h
   rw[tf_ r h2,ur_ h1]
theorem wg_(σ:Nat->V):({ S with tm:=σ }:St)=S.tmd σ:=rfl
theorem sH_(σ ρ:Nat->V)(S R:St):reep (S.tmd σ) (R.tmd ρ)=(reep S R).tmd ρ:=by
 unfold reep
 have e:zF_ (S.tmd σ)=zF_ S:=rfl
 rw[e]
 split<;>rfl
theorem m5_{n:Nat}{p x:Opd}(hp:∀t∈opdS p,t∈T)(hx:∀t∈opdS x,t∈T)(h:∀t∈T,τ t=S.tm t)(hs:stV S n p x=some R):stV (S.tmd τ) n p x=some (R.tmd (ov T R.tm τ)):=by
 have e:=yE_ h
 have e1:=v2_ (S:=S) (σ:=τ) (τ:=τ) (ρ:=S.tm) hx
 rw[e]at e1
 have e2:(S.tmd τ).tm=τ:=rfl
 have e3:(S.tmd τ).ep=S.ep:=rfl
 simp only[stV]at hs ⊢
 rw[e2,e1,zc_ hp h,e3]
 cases hk:ym_ S S.tm x with
 |none=>rw[hk]at hs;cases hs
 | some r =>
   rw[hk]at hs
   simp only[zzt_,zzz_]at hs ⊢
   split at hs
   .next hc =>
    rw[if_pos hc]
    split at hs
    .next b o hl =>
     by_cases hlt:o<1000000000
     case neg=>rw[if_neg hlt]at hs;cases hs
     rw[if_pos hlt]at hs ⊢
     rw[wg_,wH_]at hs
     have hs':=hs
     rw[zzb_]at hs
     obtain⟨R0,h1,rfl⟩:=hs
     show (S.tmd (ov T r.2 τ)).places b o (cellsOf r.1)=_
     rw[wH_,h1]
     rfl
    .next l e' i q hl =>
     split at hs
     .next he =>
      rw[if_pos he,uU_]
      split at hs
      .next e'' z xs ha =>
       split at hs
       .next old ho =>
        split at hs
        .cases hs
        .next hi =>
         rw[if_neg hi]
         simp only[zza_]at hs ⊢
         obtain⟨y,h1,h2⟩:=hs
         refine⟨y,h1,?_⟩
         rw[zzb_]at h2 ⊢
         obtain⟨R1,h2,rfl⟩:=h2
         rw[wg_,xF_,zzb_]at h2
         obtain⟨R0,h3,rfl⟩:=h2
         refine⟨R0.tmd (ov T r.2 τ),?_,?_⟩
         .show (S.tmd (ov T r.2 τ)).place l _=_
          rw[xF_,h3]
          rfl
         .rw[sH_,qp_]
          show _=(reep S (R0.tmd r.2)).tmd _
          rw[show reep S (R0.tmd r.2)=(reep S R0).tmd r.2 from sH_ S.tm r.2 S R0]
          rfl
       .cases hs
      .cases hs
     .cases hs
    .cases hs
   .cases hs
theorem nc_{d:Dst}{op:AOp}(hd:∀t∈dstS d,t∈T)(hs:∀t∈zv_ op,t∈T)(h:∀t∈T,τ t=S.tm t)(hst:step S d op=some R):step (S.tmd τ) d op=some (R.tmd (ov T R.tm τ)):=by
 have e:=yE_ h
 have e2:(S.tmd τ).tm=τ:=rfl
 by_cases hq:(yB_ op=false/\isSt op=false)/\(∀zs,op≠.allo zs)/\(∀n x,op≠.box n x)
 .obtain⟨d',y,tm1,rfl,h1,rfl⟩:=zt_ hq.1 hq.2 hst
  have hd':d'∈T:=hd d' (by simp[dstS])
  have h2:=pR_ (S:=S) (τ:=τ) (T:=T) (d:=d') (op:=op) hs hd' h
  rw[h1]at h2
  have h3:step (S.tmd τ) (.t d') op=(za_ (S.tmd τ) d' op).map fun r=>{ (S.tmd τ) with tm:=upd r.2 d' r.1 }:=by
   cases op<;>first|rfl|(simp[yB_,isSt]at hq;done)|(simp only[za_]at h1;cases h1)
  rw[h3,h2]
  simp only[zzz_]
  congr 1
  simp only[St.tmd]
  rw[yz_ hd']
 .cases op<;>first|(exfalso;apply hq;simp[yB_,isSt];done)|skip
  .rename_i x
   have e1:=v2_ (S:=S) (σ:=τ) (τ:=τ) (ρ:=S.tm) (x:=x) hs
   rw[e]at e1
   cases d with
   | v i =>
     simp only[step]at hst ⊢
     rw[e2,e1]
     cases hk:ym_ S S.tm x with
     |none=>rw[hk]at hst;cases hst
     | some r =>
       rw[hk]at hst
       simp only[zzt_,zzz_]at hst ⊢
       rw[wg_,xF_,zzb_]at hst
       obtain⟨R0,h3,rfl⟩:=hst
       rw[wg_,n7_,xF_,h3]
       rfl
   |_=>simp[step]at hst
  .rename_i zs
   cases d with
   | t d' =>
     have hd':d'∈T:=hd d' (by simp[dstS])
     simp only[step]at hst ⊢
     cases hst
     simp only[St.tmd]
     rw[yz_ hd',e]
   |_=>simp[step]at hst
  .rename_i n x
   have e1:=v2_ (S:=S) (σ:=τ) (τ:=τ) (ρ:=S.tm) (x:=x) hs
   rw[e]at e1
   cases d with
   | t d' =>
     have hd':d'∈T:=hd d' (by simp[dstS])
     simp only[step]at hst ⊢
     rw[e2,e1]
     cases hk:ym_ S S.tm x with
     |none=>rw[hk]at hst;cases hst
     | some r =>
       rw[hk]at hst
       simp only[zzt_,zzz_]at hst ⊢
       split at hst
       .next hc =>
        rw[if_pos hc]
        cases hst
        simp only[St.tmd]
        rw[yz_ hd']
       .cases hst
   |_=>simp[step]at hst
  .rename_i n p x
   simp only[zv_,zzw_]at hs
   simp only[step]at hst ⊢
   exact m5_ (fun t ht=>hs t (.inl ht)) (fun t ht=>hs t (.inr ht)) h hst
theorem oz_{d:Nat}{r:V}{sel:List Nat}{bs:List (List V)}(hd:d∈T){ρ:Nat->V}:aftS (S.tmd (ov T ρ τ)) d r sel bs=(aftS (S.tmd ρ) d r sel bs).tmd (ov T (aftS (S.tmd ρ) d r sel bs).tm τ):=by
 simp only[aftS,St.tmd]
 rw[yz_ hd]
theorem mR_{o:AOper}(hT:∀t∈dstS o.dst++zv_ o.op,t∈T)(h:∀t∈T,τ t=S.tm t)(hst:DO P ac o S R):DO P ac o (S.tmd τ) (R.tmd (ov T R.tm τ)):=by
 have hd:∀t∈dstS o.dst,t∈T:=fun t ht=>hT t (List.mem_append_left _ ht)
 have hs:∀t∈zv_ o.op,t∈T:=fun t ht=>hT t (List.mem_append_right _ ht)
 unfold DO at hst ⊢
 cases hop:o.op with
 | call f args =>
   rw[hop]at hst hs
   simp only at hst ⊢
   obtain⟨d,h1,h3⟩:=hst
   have hd':d∈T:=hd d (by simp[h1,dstS])
   have e1:=v0_ (S:=S) (σ:=τ) (τ:=τ) args (ρ:=S.tm) hs
   rw[yE_ h]at e1
   refine⟨d,h1,?_⟩
   split at h3
   .next hac =>
    obtain⟨ys,tm1,h2,mask,sel,args',bs,R',bs',k1,k2,k3,rfl⟩:=h3
    rw[h2]at e1
    rw[if_pos hac]
    exact⟨ys,ov T tm1 τ,e1,mask,sel,args',bs,R',bs',k1,k2,k3,(oz_ hd').symm⟩
   .next hac =>
    rw[if_neg hac]
    rcases h3 with ⟨ys,tm1,h2,k1,R',k2,rfl⟩|⟨ys,h2,R',k2,k3,rfl⟩
    .rw[h2]at e1
     refine .inl ⟨ys,ov T tm1 τ,e1,k1,R',k2,?_⟩
     simp only[St.tmd]
     rw[yz_ hd']
    .refine .inr ⟨ys,by rw[su_ h args hs];exact h2,R',by rw[tX_ h args hs];exact k2,k3,?_⟩
     simp only[St.tmd]
     rw[yz_ hd',yE_ h]
 | _ =>
   rw[hop]at hst hs
   exact nc_ hd hs h hst
theorem mS_{o:AOper}(h:∀t∈foot o,τ t=S.tm t)(hst:DG P ac o S R):DG P ac o (S.tmd τ) (R.tmd (ov (foot o) R.tm τ)):=by
 have hT:∀t∈dstS o.dst++zv_ o.op,t∈foot o:=fun t ht=>by
  simp only[foot,zzw_]at ht ⊢
  rcases ht with ht|ht
  .exact .inl ht
  .exact .inr (.inl ht)
 unfold DG at hst ⊢
 cases hg:o.guard with
 |none=>rw[hg]at hst;exact mR_ hT h hst
 | some q =>
   obtain⟨t,want⟩:=q
   rw[hg]at hst
   obtain⟨b,h1,h2⟩:=hst
   refine⟨b,by rw[show (S.tmd τ).tm t=S.tm t from h t (by simp[foot,hg,gS])];exact h1,?_⟩
   split at h2
   .next e=>rw[if_pos e];exact mR_ hT h h2
   .next e =>
    rw[if_neg e]
    unfold wC_ at h2 ⊢
    split at h2
    .next d hd =>
     cases h2
     simp only[St.tmd]
     rw[yz_ (hT d (by simp[hd,dstS])),yE_ h]
    .cases h2
theorem qb_{d:Dst}{op:AOp}{t:Nat}(hst:step S d op=some R)(hd:t∉dstS d)(h:t∈zv_ op->zZ_ (S.tm t)=true):R.tm t=S.tm t:=by
 by_cases hq:(yB_ op=false/\isSt op=false)/\(∀zs,op≠.allo zs)/\(∀n x,op≠.box n x)
 .obtain⟨d',y,tm1,rfl,h1,rfl⟩:=zt_ hq.1 hq.2 hst
  have:t≠d':=fun e=>hd (by simp[dstS,e])
  show upd tm1 d' y t=_
  rw[y9_ _ _ this]
  exact rp_ h1 h
 .cases op<;>first|(exfalso;apply hq;simp[yB_,isSt];done)|skip
  .rename_i x
   cases d with
   | v i =>
     simp only[step,zza_]at hst
     obtain⟨r,h1,h2⟩:=hst
     rw[ur_ h2]
     exact xP_ (y:=r.1) h1 h
   |_=>simp[step]at hst
  .cases d with
   | t d' =>
     simp only[step]at hst
     cases hst
     have:t≠d':=fun e=>hd (by simp[dstS,e])
     exact y9_ _ _ this
   |_=>simp[step]at hst
  .rename_i n x
   cases d with
   | t d' =>
     have:t≠d':=fun e=>hd (by simp[dstS,e])
     simp only[step,zza_]at hst
     obtain⟨r,h1,h2⟩:=hst
     split at h2
     .cases h2
      show upd r.2 d' _ t=_
      rw[y9_ _ _ this]
      exact xP_ (y:=r.1) h1 h
     .cases h2
   |_=>simp[step]at hst
  .rename_i n p x
   simp only[step,stV,zza_]at hst
   obtain⟨r,h1,h2⟩:=hst
   have hk:r.2 t=S.tm t:=xP_ (y:=r.1) h1 (fun ht=>h (by simp[zv_,ht]))
   split at h2
   .split at h2
    .split at h2
     .rw[tf_ _ h2];exact hk
     .cases h2
    .split at h2
     .split at h2
      .split at h2
       .split at h2
        .cases h2
        .obtain⟨y,_,h4⟩:=zza_.1 h2
         obtain⟨S1,h3,rfl⟩:=zzb_.1 h4
         rw[qp_,ur_ h3];exact hk
       .cases h2
      .cases h2
     .cases h2
    .cases h2
   .cases h2
theorem pn_{o:AOper}{t:Nat}(hst:DO P ac o S R)(hd:t∉dstS o.dst)(h:t∈zv_ o.op->zZ_ (S.tm t)=true):R.tm t=S.tm t:=by
 unfold DO at hst
 cases hop:o.op with
 | call f args =>
   rw[hop]at hst h
   simp only at hst
   obtain⟨d,h1,h3⟩:=hst
   have:t≠d:=fun e=>hd (by simp[dstS,e,h1])
   split at h3
   .obtain⟨ys,tm1,h2,mask,sel,args',bs,R',bs',k1,k2,k3,rfl⟩:=h3
    show upd tm1 d _ t=_
    rw[y9_ _ _ this,x6_ args h2 h]
   .rcases h3 with ⟨ys,tm1,h2,k1,R',k2,rfl⟩|⟨ys,h2,R',k2,k3,rfl⟩
    .show upd tm1 d _ t=_
     rw[y9_ _ _ this,x6_ args h2 h]
    .exact y9_ _ _ this
 | _ =>
   rw[hop]at hst h
   exact qb_ hst hd h
theorem pp_{o:AOper}{t:Nat}(hst:DG P ac o S R)(hd:t∉dstS o.dst)(h:t∈zv_ o.op->zZ_ (S.tm t)=true):R.tm t=S.tm t:=by
 unfold DG at hst
 cases hg:o.guard with
 |none=>rw[hg]at hst;exact pn_ hst hd h
 | some q =>
   obtain⟨u,want⟩:=q
   rw[hg]at hst
   obtain⟨b,h1,h2⟩:=hst
   split at h2
   .exact pn_ h2 hd h
   .unfold wC_ at h2
    split at h2
    .next d hd' =>
     cases h2
     have:t≠d:=fun e=>hd (by simp[dstS,e,hd'])
     exact y9_ _ _ this
    .cases h2
def St.mem(S G:St):St:=⟨S.tm,G.vs,G.bx,G.ep⟩
theorem dg_q{o:AOper}(hc:cls ac o.op=.q)(hst:DG P ac o S R):R=S.tmd R.tm:=by
 have hdo:∀ {R},DO P ac o S R->R=S.tmd R.tm:=by
  intro R hst
  unfold DO at hst
  cases hop:o.op with
  | call f args =>
    rw[hop]at hst hc
    simp only at hst
    obtain⟨d,h1,h3⟩:=hst
    split at h3
    .next hac=>simp[cls,hac]at hc
    .rcases h3 with ⟨ys,tm1,h2,k1,R',k2,rfl⟩|⟨ys,h2,R',k2,k3,rfl⟩<;>rfl
  | _ =>
    rw[hop]at hst hc
    simp only at hst
    first
     |(simp[cls]at hc;done)
     |(obtain⟨d',y,tm1,_,_,rfl⟩:=zt_ ⟨rfl,rfl⟩ ⟨by simp,by simp⟩ hst;rfl)
 unfold DG at hst
 cases hg:o.guard with
 |none=>rw[hg]at hst;exact hdo hst
 | some q =>
   obtain⟨u,want⟩:=q
   rw[hg]at hst
   obtain⟨b,h1,h2⟩:=hst
   split at h2
   .exact hdo h2
   .unfold wC_ at h2
    split at h2
    .cases h2;rfl
    .cases h2
theorem nP_{c:List (List V)}(hcS:∀cs∈c,∀x∈cs,isS x=true){o:AOper}(hc:cls ac o.op=.q)(hst:DG P ac o S R):DG P ac o (S.push c) (R.push c):=by
 have hdo:∀ {R},DO P ac o S R->DO P ac o (S.push c) (R.push c):=by
  intro R hst
  unfold DO at hst ⊢
  cases hop:o.op with
  | call f args =>
    rw[hop]at hst hc
    simp only at hst ⊢
    obtain⟨d,h1,h3⟩:=hst
    refine⟨d,h1,?_⟩
    split at h3
    .next hac=>simp[cls,hac]at hc
    .next hac =>
     rw[if_neg hac]
     rcases h3 with ⟨ys,tm1,h2,k1,R',k2,rfl⟩|⟨ys,h2,R',k2,k3,rfl⟩
     .exact .inl ⟨ys,tm1,xR_ h2,k1,R',k2,rfl⟩
     .exact .inr ⟨ys,tb_ h2,R',k2.up ta_,k3,rfl⟩
  | callv t args =>
    rw[hop]at hst
    generalize o.dst=dd at hst
    exfalso
    cases dd<;>simp[step]at hst
  | _ =>
    rw[hop]at hst hc
    simp only at hst ⊢
    first
     |(simp[cls]at hc;done)
     | (obtain ⟨d', y, tm1, hd, h1, rfl⟩ := zt_ ⟨rfl, rfl⟩ ⟨by simp, by simp⟩ hst
        have:=rr_ (c:=c) hcS h1
        rw[hd]
        simp only[step]
        rw[this]
        rfl)
 unfold DG at hst ⊢
 cases hg:o.guard with
 |none=>rw[hg]at hst;exact hdo hst
 | some q =>
   obtain⟨u,want⟩:=q
   rw[hg]at hst
   obtain⟨b,h1,h2⟩:=hst
   refine⟨b,h1,?_⟩
   split at h2
   .next e=>rw[if_pos e];exact hdo h2
   .next e =>
    rw[if_neg e]
    unfold wC_ at h2 ⊢
    split at h2
    .cases h2;rfl
    .cases h2
end
end
section
section
variable{P:Program}{S S' S1 S2 R:St}{ac:Bool}
def VsFor(op:AOp)(S S':St):Prop:=∀(i:Nat) (x:V),op=.mv (.v i)->y7_ x=true->S.vs[i]?=some x->S'.vs[i]?=some x
theorem VsFor.same{op:AOp}(h:VsSame S S'):VsFor op S S':=fun i x _ q1 q2=>h i x q1 q2
theorem se_{op:AOp}(hl:zh_ S op=true)(ht:∀t∈zv_ op,S'.tm t=S.tm t)(hv:VsFor op S S'):zh_ S' op=true:=by
 cases op with
 | mv x =>
   cases x with
   | v i =>
     simp only[zh_]at hl ⊢
     cases hx:S.vs[i]? with
     |none=>rw[hx]at hl;cases hl
     | some x =>
       rw[hx]at hl
       simp only[zzg_]at hl
       rw[hv i x rfl hl.1 hx]
       simp[hl]
   |_=>rfl
 | nilck x =>
   cases x with
   |t t=>simp only[zh_]at hl ⊢;rw[ht t (by simp[zv_,opdS])];exact hl
   |_=>simp[zh_]at hl
 | fa off x =>
   cases x with
   |t t=>simp only[zh_]at hl ⊢;rw[ht t (by simp[zv_,opdS])];exact hl
   |_=>simp[zh_]at hl
 | ia z x i =>
   cases x with
   |t t=>simp only[zh_]at hl ⊢;rw[ht t (by simp[zv_,opdS])];exact hl
   |_=>simp[zh_]at hl
 | ld n ag x =>
   cases x with
   |t t=>simp only[zh_]at hl ⊢;rw[ht t (by simp[zv_,opdS])];exact hl
   |_=>simp[zh_]at hl
 | len x =>
   cases x with
   |t t=>simp only[zh_]at hl ⊢;rw[ht t (by simp[zv_,opdS])];exact hl
   |_=>simp[zh_]at hl
 |_=>first|exact hl|(simp[zh_]at hl;done)
theorem zQ_{x:Opd}(hn:noVO x=true)(ht:S'.tm=S.tm):z7_ S' x=z7_ S x:=by
 cases x with
 |v i=>simp[noVO]at hn
 |t t=>simp only[z7_,ht]
 |c v=>rfl
theorem uW_{S S':St}{τ:Nat->V}:∀(xs:List Opd),(∀x∈xs,rD_ x=true)->takes S τ xs=takes S' τ xs
 |[],_=>rfl
 | x :: r, h => by
   have h1:=h x (by simp)
   have h2:=uW_ (S:=S) (S':=S') (τ:=τ) r (fun y hy=>h y (by simp[hy]))
   cases x with
   |c v=>cases v<;>simp[rD_]at h1<;>simp[takes,ym_,wJ_,z7_,ofC,give,yh_,zE_,h2]
   |_=>simp[rD_]at h1
theorem rA_{d:Nat}{op:AOp}{r:V×(Nat->V)}(hl:zh_ S op=true)(hq:za_ S d op=some r)(ht:S'.tm=S.tm)(hv:VsFor op S S'):za_ S' d op=some r:=by
 cases op with
 | mv x =>
   cases x with
   | v i =>
     simp only[zh_]at hl
     cases hx:S.vs[i]? with
     |none=>rw[hx]at hl;cases hl
     | some x =>
       rw[hx]at hl
       simp only[zzg_]at hl
       have hx':=hv i x rfl hl.1 hx
       simp only[za_,mvD,mvV,hx,hx',ht]at hq ⊢
       cases x<;>simp[y7_]at hl<;>exact hq
   |t t=>simp only[za_,mvD,mvV,ht]at hq ⊢;exact hq
   |c v=>simp only[za_,mvD,mvV,ht]at hq ⊢;exact hq
 | nilck x =>
   cases x with
   | t t =>
     simp only[zh_]at hl
     simp only[za_,z7_,ht]at hq ⊢
     cases hx:S.tm t<;>rw[hx]at hl hq<;>simp at hl<;>exact hq
   |_=>simp[zh_]at hl
 | fa off x =>
   cases x with
   | t t =>
     simp only[zh_]at hl
     simp only[za_,z7_,ht]at hq ⊢
     cases hx:S.tm t<;>rw[hx]at hl hq<;>simp at hl<;>exact hq
   |_=>simp[zh_]at hl
 |ext t i=>simp only[za_,ht]at hq ⊢;exact hq
 |bin op x y=>simp only[zh_,zzg_]at hl;simp only[za_,zQ_ hl.1 ht,zQ_ hl.2 ht,ht]at hq ⊢;exact hq
 |bib op x y=>simp only[zh_,zzg_]at hl;simp only[za_,zQ_ hl.1 ht,zQ_ hl.2 ht,ht]at hq ⊢;exact hq
 |un op x=>simp only[zh_]at hl;simp only[za_,zQ_ hl ht,ht]at hq ⊢;exact hq
 |conv op x=>simp only[zh_]at hl;simp only[za_,zQ_ hl ht,ht]at hq ⊢;exact hq
 |slen x=>simp only[zh_]at hl;simp only[za_,zQ_ hl ht,ht]at hq ⊢;exact hq
 |pick c a b=>simp only[zh_,zzg_]at hl;simp only[za_,zQ_ hl.1.1 ht,zQ_ hl.1.2 ht,zQ_ hl.2 ht,ht]at hq ⊢;exact hq
 | bls e z zero n ps =>
   simp only[zh_]at hl
   have hc:∀p∈ps,rD_ p.2=true:=by
    simp only[cps,zzg_,zzh_]at hl
    exact hl.1
   simp only[za_,ht]at hq ⊢
   rw[uW_ (S:=S') (S':=S) _ (fun x hx=>by obtain⟨p,hp,rfl⟩:=List.mem_map.1 hx;exact hc p hp)]
   exact hq
 | ia z x i =>
   cases x with
   | t t =>
     simp only[zh_,zzg_]at hl
     obtain⟨hi,hx⟩:=hl
     have hx0:z7_ S' (.t t)=z7_ S (.t t):=by simp only[z7_,ht]
     simp only[za_,iaV]at hq ⊢
     rw[hx0,zQ_ hi ht,ht]
     cases hv:S.tm t with
     |list z' xs=>simp only[z7_,hv]at hq ⊢;exact hq
     |_=>rw[hv]at hx;simp at hx
   |_=>simp[zh_]at hl
 | ld n ag x =>
   cases x with
   | t t =>
     simp only[zh_]at hl
     simp only[za_,ldD,z7_,ht]at hq ⊢
     cases hv:S.tm t with
     |ip cs=>rw[hv]at hq;simp only[ya_]at hq ⊢;exact hq
     |_=>rw[hv]at hl;simp at hl
   |_=>simp[zh_]at hl
 | len x =>
   cases x with
   | t t =>
     simp only[zh_]at hl
     simp only[za_,z7_,ht]at hq ⊢
     cases hv:S.tm t with
     | list z xs =>
       rw[hv]at hq
       simp only[lenT,ht,hv,cont]at hq ⊢
       exact hq
     |_=>rw[hv]at hl;simp at hl
   |_=>simp[zh_]at hl
 |_=>simp[zh_]at hl
theorem qW_{op:AOp}(hl:zh_ S op=true):(yB_ op=false/\isSt op=false)/\(∀zs,op≠.allo zs)/\(∀n x,op≠.box n x)/\(∀f args,op≠.call f args):=by
 cases op<;>first|(simp[zh_]at hl;done)|simp[yB_,isSt]
theorem r7_{o:AOper}{G:St}(hl:zh_ S o.op=true)(hst:DG P ac o S R)(hv:VsFor o.op S G):DG P ac o (S.mem G) (R.mem G):=by
 obtain⟨k1,k2,k3,k4⟩:=qW_ hl
 have hdo:∀ {R},DO P ac o S R->DO P ac o (S.mem G) (R.mem G):=by
  intro R hst
  unfold DO at hst ⊢
  cases hop:o.op with
  |call f args=>exact absurd hop (k4 _ _)
  |callv t args=>rw[hop]at hl;simp[zh_]at hl
  | _ =>
    rw[hop]at hst hl hv k1 k2 k3
    simp only at hst ⊢
    obtain⟨d',y,tm1,hd,h1,rfl⟩:=zt_ k1 ⟨k2,k3⟩ hst
    have:=rA_ (S':=S.mem G) hl h1 rfl hv
    rw[hd]
    first
     |(simp[yB_]at k1;done)
     |(simp[isSt]at k1;done)
     |(exact absurd rfl (k2 _))
     |(exact absurd rfl (k3 _ _))
     |(simp only[step];rw[this];rfl)
 unfold DG at hst ⊢
 cases hg:o.guard with
 |none=>rw[hg]at hst;exact hdo hst
 | some q =>
   obtain⟨u,want⟩:=q
   rw[hg]at hst
   obtain⟨b,h1,h2⟩:=hst
   refine⟨b,h1,?_⟩
   split at h2
   .next e=>rw[if_pos e];exact hdo h2
   .next e =>
    rw[if_neg e]
    unfold wC_ at h2 ⊢
    split at h2
    .cases h2;rfl
    .cases h2
theorem sJ_{l:Loc}{y:V}(h:S.place l y=some S')(hl:∀i,l=.var i->y7_ y=false/\∃old,S.vs[i]?=some old/\y7_ old=false):VsSame S S'/\VsSame S' S:=by
 cases l with
 | cell b o =>
   simp only[St.place]at h
   repeat' split at h
   all_goals first
    |cases h;done
    |(cases h;exact⟨fun j x _ q=>q,fun j x _ q=>q⟩)
 | var i =>
   obtain⟨h1,old,h2,h3⟩:=hl i rfl
   simp only[St.place,h2]at h
   split at h
   .cases h
   .cases h
    have hi:=(zzc_.1 h2).1
    refine⟨fun j x hf q=>?_,fun j x hf q=>?_⟩
    .have:i≠j:=fun e=>by subst e;rw[h2]at q;cases q;rw[h3]at hf;cases hf
     simp only
     rw[List.getElem?_set_ne this];exact q
    ·have:i≠j:=fun e=>by
      subst e
      simp only[List.getElem?_set,hi,if_true]at q
      cases q
      rw[h1]at hf;cases hf
     simp only at q
     rw[List.getElem?_set_ne this]at q;exact q
theorem VsSame.refl(S:St):VsSame S S:=fun _ _ _ q=>q
theorem VsSame.trans(h:VsSame S S')(h':VsSame S' S1):VsSame S S1:=fun j x hf q=>h' j x hf (h j x hf q)
theorem VsSame.of(h:S'.vs=S.vs):VsSame S S'/\VsSame S' S:=⟨fun j x _ q=>h ▸ q,fun j x _ q=>h ▸ q⟩
theorem te_:∀(ys:List V) {S S':St} {b o:Nat},S.places b o ys=some S'->VsSame S S'/\VsSame S' S
 |[],S,S',b,o,h=>by simp[St.places]at h;subst h;exact⟨.refl _,.refl _⟩
 | y :: r, S, S', b, o, h => by
   simp only[St.places,zza_]at h
   obtain⟨S1,h1,h2⟩:=h
   obtain⟨a1,a2⟩:=sJ_ h1 (fun i e=>by cases e)
   obtain⟨b1,b2⟩:=te_ r h2
   exact⟨a1.trans b1,b2.trans a2⟩
theorem n0_{o:AOper}{x:Opd}(ha:o.op=.asg x)(hst:DG P ac o S R){i:Nat}(hd:o.dst≠.v i):R.vs[i]?=S.vs[i]?:=by
 have hdo:∀ {R},DO P ac o S R->R.vs[i]?=S.vs[i]?:=by
  intro R hst
  unfold DO at hst
  rw[ha]at hst
  cases hdst:o.dst with
  | v k =>
    rw[hdst]at hst hd
    simp only[step,zza_]at hst
    obtain⟨r,_,h2⟩:=hst
    have hk:k≠i:=fun e=>hd (by rw[e])
    simp only[St.place]at h2
    split at h2
    .split at h2
     .cases h2
     .cases h2
      simp only
      rw[List.getElem?_set_ne hk]
    .cases h2
  |_=>rw[hdst]at hst;simp[step]at hst
 unfold DG at hst
 cases hg:o.guard with
 |none=>rw[hg]at hst;exact hdo hst
 | some q =>
   obtain⟨u,want⟩:=q
   rw[hg]at hst
   obtain⟨b,h1,h2⟩:=hst
   split at h2
   .exact hdo h2
   .unfold wC_ at h2
    split at h2
    .cases h2;rfl
    .cases h2
theorem po_{o:AOper}(ha:yB_ o.op=false)(hst:DG P ac o S R):VsSame S R/\VsSame R S:=by
 have hdo:∀ {R},DO P ac o S R->VsSame S R/\VsSame R S:=by
  intro R hst
  unfold DO at hst
  cases hop:o.op with
  | call f args =>
    rw[hop]at hst
    simp only at hst
    obtain⟨d,h1,h3⟩:=hst
    split at h3
    .obtain⟨ys,tm1,h2,mask,sel,args',bs,R',bs',_,_,_,rfl⟩:=h3;exact VsSame.of rfl
    .rcases h3 with ⟨ys,tm1,h2,k1,R',k2,rfl⟩|⟨ys,h2,R',k2,k3,rfl⟩<;>exact VsSame.of rfl
  |asg x=>rw[hop]at ha;simp[yB_]at ha
  | st n p x =>
    rw[hop]at hst
    simp only[step,stV,zza_]at hst
    obtain⟨r,h1,h2⟩:=hst
    split at h2
    .split at h2
     .split at h2
      case isFalse=>cases h2
      have:=te_ _ h2;exact this
     .split at h2
      .split at h2
       .next l e i q hlk he e' z xs hat =>
        split at h2
        .split at h2
         .cases h2
         .obtain⟨y,_,h4⟩:=zza_.1 h2
          obtain⟨S1,h3,rfl⟩:=zzb_.1 h4
          have:=sJ_ h3 (fun i' el=>⟨rfl,.own true e' z xs,by subst el;exact hat,rfl⟩)
          exact⟨fun j x hf q=>by rw[qo_];exact this.1 j x hf q,fun j x hf q=>this.2 j x hf (by rw[<-qo_ S S1];exact q)⟩
        .cases h2
       .cases h2
      .cases h2
     .cases h2
    .cases h2
  | allo zs =>
    rw[hop]at hst
    simp only[step]at hst
    split at hst
    .cases hst;exact VsSame.of rfl
    .cases hst
  | box n x =>
    rw[hop]at hst
    simp only[step]at hst
    split at hst
    .simp only[zza_]at hst
     obtain⟨r,h1,h2⟩:=hst
     split at h2
     .cases h2;exact VsSame.of rfl
     .cases h2
    .cases hst
  | _ =>
    rw[hop]at hst
    simp only at hst
    obtain⟨d',y,tm1,hd,h1,rfl⟩:=zt_ ⟨rfl,rfl⟩ ⟨by simp,by simp⟩ hst
    exact VsSame.of rfl
 unfold DG at hst
 cases hg:o.guard with
 |none=>rw[hg]at hst;exact hdo hst
 | some q =>
   obtain⟨u,want⟩:=q
   rw[hg]at hst
   obtain⟨b,h1,h2⟩:=hst
   split at h2
   .exact hdo h2
   .unfold wC_ at h2
    split at h2
    .cases h2;exact VsSame.of rfl
    .cases h2
theorem dg_a{o:AOper}(hc:cls ac o.op=.a)(hst:DG P ac o S R):(∃d,R=S.tmd (upd S.tm d (.tup [])))\/∃d zs,(∀x∈zs,isS x=true)/\R=(S.tmd (upd S.tm d (.ptr S.bx.length 0))).push [zs]:=by
 have hop:∃zs,o.op=.allo zs:=by
  cases h:o.op<;>rw[h]at hc<;>first|exact⟨_,rfl⟩|(simp[cls]at hc;done)|(simp only[cls]at hc;split at hc<;>cases hc)
 obtain⟨zs,hop⟩:=hop
 have hdo:∀ {R},DO P ac o S R->∃d zs,(∀x∈zs,isS x=true)/\R=(S.tmd (upd S.tm d (.ptr S.bx.length 0))).push [zs]:=by
  intro R hst
  unfold DO at hst
  rw[hop]at hst
  simp only[step]at hst
  split at hst
  .cases hst;exact⟨_,zs.map .s,by simp[isS],rfl⟩
  .cases hst
 unfold DG at hst
 cases hg:o.guard with
 |none=>rw[hg]at hst;exact .inr (hdo hst)
 | some q =>
   obtain⟨u,want⟩:=q
   rw[hg]at hst
   obtain⟨b,h1,h2⟩:=hst
   split at h2
   .exact .inr (hdo h2)
   .unfold wC_ at h2
    split at h2
    .cases h2;exact .inl ⟨_,rfl⟩
    .cases h2
theorem dia{oi oj:AOper}{ai aj:Bool}{X Y:St}(hi:DG P ai oi S S1)(hj:DG P aj oj (S1.mem S) X)(hX:X.tm=S2.tm)(hi':DG P ai oi (S.mem X) Y)(hY:Y.tm=S1.tm)(hG:Y.vs=S2.vs/\Y.bx=S2.bx/\Y.ep=S2.ep)
 (k1:∀t∈foot oj,S1.tm t=S.tm t) (k2:∀t,t∉foot oi->S1.tm t=S.tm t) (k3:∀t∈foot oi,S2.tm t=S1.tm t) (k4:∀t,t∉foot oj->S2.tm t=S1.tm t) :
 ∃S1',DG P aj oj S S1'/\DG P ai oi S1' S2/\(∀t,(t∈foot oj->S2.tm t=S.tm t)->S1'.tm t=S.tm t)/\S1'.vs=X.vs/\S1'.bx=X.bx:=by
 have e1:(S1.mem S).tmd S.tm=S:=rfl
 have hj2:=mS_ (S:=S1.mem S) (τ:=S.tm) (fun t ht=>(k1 t ht).symm) hj
 rw[e1]at hj2
 have hag:∀t∈foot oi,ov (foot oj) X.tm S.tm t=S.tm t:=by
  intro t ht
  unfold ov
  split
  .next h=>rw[hX,k3 t ht,k1 t h]
  .rfl
 have hi2:=mS_ (S:=S.mem X) (τ:=ov (foot oj) X.tm S.tm) hag hi'
 refine⟨_,hj2,?_,fun t ht=>?_,rfl,rfl⟩
 rotate_left
 .show ov (foot oj) X.tm S.tm t=S.tm t
  unfold ov
  split
  .next h=>rw[hX];exact ht h
  .rfl
 have e2:(S.mem X).tmd (ov (foot oj) X.tm S.tm)=X.tmd (ov (foot oj) X.tm S.tm):=rfl
 rw[e2]at hi2
 have e3:Y.tmd (ov (foot oi) Y.tm (ov (foot oj) X.tm S.tm))=S2:=by
  have:ov (foot oi) Y.tm (ov (foot oj) X.tm S.tm)=S2.tm:=by
   funext t
   unfold ov
   split
   .next h=>rw[hY];exact(k3 t h).symm
   .next h =>
    split
    .rw[hX]
    .next h'=>rw[k4 t h',k2 t h]
  rw[this]
  cases S2
  simp only[St.tmd]at hG ⊢
  simp[hG]
 rw[e3]at hi2
 exact hi2
end
end
section
def sepV(b:Nat):V->Bool
 |.ptr q _=>decide (q≠b)
 |.s _=>true
 |.list _ _=>true
 |_=>false
def sepO(S:St)(b:Nat):Opd->Bool
 |.c v=>sepV b (ofC v)
 |.t t=>sepV b (S.tm t)
 |.v _=>false
def nD_(b:Nat):V->Bool
 |.ptr q _=>decide (q=b)
 |_=>false
def ldOk(u:Nat)(S:St):AOp->Bool
 | .ld _ _ (.t a) => match S.tm a with
   | .ptr b _ => nD_ b (S.tm u) && (match S.bx[b]? with
     |some cs=>cs.all immC
     |none=>false)
   |_=>false
 |_=>true
def qN_(v:V):V->Bool
 | .ptr q _ => match v with
   |.ptr b _=>decide (q≠b)
   |_=>false
 |_=>false
def uZ_(S:St)(a:Nat):AOp->Bool
 | .call _ args => match S.tm a with
   |.ptr b _=>args.all (sepO S b)
   |_=>false
 |.st _ (.t w) _=>qN_ (S.tm w) (S.tm a)
 |_=>true
def BIG:Nat:=1000000
def ldV(S:St):AOp->Bool
 | .ld n ag (.t a) => match S.tm a with
   | .ptr b o => (match S.at (.cell b o) with
     |some x=>decide (n=1)&&!ag&&zF_ S&&(y2_ x||immC x)
     |none=>false)
   |_=>false
 |_=>false
def vpOk(S:St):AOp->Bool
 | .st _ (.t t) _ => match S.tm t with
   |.vp _ _ _ _=>true
   |_=>false
 |_=>false
def ldC(a:Nat)(S:St)(op:AOp):Bool:=if BIG<=a then ldV S op else ldOk a S op
def sepC(a:Nat)(S:St)(op:AOp):Bool:=if BIG<=a then vpOk S op else uZ_ S a op
def apOk(A:Ann)(k:Nat)(o:AOper)(S:St):Bool:=A.ap.all fun p=>(!decide (p.1=k)||sepC p.2.1 S o.op)&&(!decide (p.2.2=k)||ldC p.2.1 S o.op)
def rI_(A:Ann)(i j:Nat):Bool:=A.ap.any fun p=>decide (p.1=j)&&decide (p.2.2=i)&&decide (p.2.1<BIG)
def wB_(A:Ann)(i:Nat):Bool:=A.ap.all fun p=>decide (p.2.2≠i)||decide (p.2.1<BIG)
def oR_(A:Ann)(i j:Nat)(oi oj:AOper):Bool :=
 match oi,oj with
 |⟨_,.ld _ _ (.t _),none⟩,⟨_,.call _ _,none⟩=>rI_ A i j&&wB_ A i
 |⟨_,.ld _ _ (.t _),none⟩,⟨.v _,.asg _,none⟩=>rI_ A i j&&wB_ A i
 |⟨_,.ld _ _ (.t a),none⟩,⟨.none,.st _ (.t _) _,none⟩=>(A.ap.contains (j,a+BIG,i)&&A.ap.all (fun p=>decide (p.2.2≠i)||decide (BIG<=p.2.1)))||(rI_ A i j&&wB_ A i)
 |_,_=>false
def mX_(A:Ann)(i j:Nat)(oi oj:AOper):Bool:=A.ap.all fun p=>decide (BIG<=p.2.1)||((decide (p.1≠i)&&decide (p.1≠j))&&(decide (p.2.2≠i)&&decide (p.2.2≠j)))||(A.sh.contains p.2.1&&!(dstS oi.dst).contains p.2.1&&!(dstS oj.dst).contains p.2.1)
section
variable{P:Program}{S S' S1 S2 R:St}{A:Ann}{ac:Bool}
theorem pF_{b:Nat}{y q:V}(h:sepV b y=true)(hg:give S y=some q):q=y:=by
 cases y<;>simp[sepV]at h<;>simp[give,yh_]at hg<;>exact hg.symm
theorem uV_{b:Nat}:∀(args:List Opd) {ys:List V} {tm1:Nat->V},args.all (sepO S b)=true->takes S S.tm args=some (ys,tm1)->tm1=S.tm/\∀y∈ys,sepV b y=true
 | [], ys, tm1, _, h => by
   simp[takes]at h
   obtain⟨rfl,rfl⟩:=h
   simp
 | x :: r, ys, tm1, ha, h => by
   simp only[List.all_cons,zzg_]at ha
   simp only[takes,ym_,zza_]at h
   obtain⟨q,⟨y,h1,q1,h2,h3⟩,q',h4,h5⟩:=h
   have hy:sepV b y=true/\zE_ S.tm x=S.tm:=by
    cases x with
    |c v=>simp only[wJ_,yya_]at h1;subst h1;exact⟨ha.1,rfl⟩
    | t t =>
      simp only[wJ_,yya_]at h1
      have hs:=ha.1
      simp only[sepO]at hs
      rw[h1]at hs
      refine⟨hs,?_⟩
      simp only[zE_]
      rw[h1]
      cases y<;>simp[sepV]at hs<;>rfl
    |v i=>simp[sepO]at ha
   have e1:=pF_ hy.1 h2
   cases h3
   rw[hy.2]at h4
   obtain⟨r1,r2⟩:=uV_ r ha.2 h4
   cases h5
   refine⟨r1,fun z hz=>?_⟩
   rw[List.mem_cons]at hz
   rcases hz with rfl|hz
   .rw[e1];exact hy.1
   .exact r2 z hz
theorem ni_{b:Nat}{ys:List V}{sel:List Nat}(h:nj_ ys sel=true)(hy:∀y∈ys,sepV b y=true):b∉sel:=by
 intro hb
 simp only[nj_,zzh_,List.any_eq_true]at h
 obtain⟨y,h1,h2⟩:=h b hb
 have h3:=hy y h1
 cases y<;>simp[mm_]at h2
 simp[sepV,h2]at h3
theorem t1_{b ep:Nat}:∀(cs:List V) (o:Nat),cs.all immC=true->seens b ep o cs=cs
 |[],o,_=>rfl
 | x :: r, o, h => by
   simp only[List.all_cons,zzg_]at h
   rw[seens,t1_ r _ h.2]
   have h1:=h.1
   cases x<;>simp[immC]at h1<;>rfl
theorem mB_{d n a b o:Nat}{ag:Bool}{cs:List V}(hp:S.tm a=.ptr b o)(hb:S.bx[b]?=some cs)(hi:cs.all immC=true) :
 ldD S d n ag (.t a)=if o<1000000000 then ((if o+n<=cs.length/\((cs.drop o).take n).all y1_=true then some ((cs.drop o).take n) else none).bind fun cs=>(x4_ ag cs).map fun y=>(y,S.tm)) else none:=by
 have hsub:∀x∈(cs.drop o).take n,immC x=true:=fun x hx=>by
  rw[zzh_]at hi
  exact hi x (yyl_ (List.mem_of_mem_take hx))
 have h1:(if ag=true then ldA S d n b o else none)=none:=by
  split
  .unfold ldA
   split
   .rw[hb]
    simp only[zzt_]
    rw[if_neg]
    rintro⟨_,h⟩
    rw[List.any_eq_true]at h
    obtain⟨x,hx,hl⟩:=h
    have:=hsub x hx
    cases x<;>simp[immC,p1_]at this hl
   .rfl
  .rfl
 by_cases hlt:o<1000000000
 case neg=>simp only[ldD,z7_,hp];rw[if_neg hlt,if_neg hlt]
 rw[if_pos hlt]
 have hl:ya_ S n (.ptr b o)=if o+n<=cs.length/\((cs.drop o).take n).all y1_=true then some ((cs.drop o).take n) else none:=by
  simp only[ya_,hb]
  rw[if_pos hlt]
  rw[t1_ _ _ (by rw[zzh_];exact hsub)]
 have h2:S.at (.cell b o)=cs[o]?:=by simp[St.at,hb]
 simp only[ldD,z7_,hp,h1,h2,hl]
 rw[if_pos hlt]
 cases hc:cs[o]? with
 |none=>rfl
 | some x =>
   have hx:immC x=true:=by
    rw[zzh_]at hi
    exact hi x (zzd_ hc)
   cases x<;>simp[immC]at hx<;>rfl
theorem v6_{u n a:Nat}{ag:Bool}(h:ldOk u S (.ld n ag (.t a))=true):∃b z z' cs,S.tm a=.ptr b z/\S.tm u=.ptr b z'/\S.bx[b]?=some cs/\cs.all immC=true:=by
 simp only[ldOk]at h
 split at h
 .next b z hp =>
  rw[zzg_]at h
  obtain⟨h1,h2⟩:=h
  split at h2
  .next cs hcs =>
   cases hu:S.tm u<;>rw[hu]at h1<;>simp[nD_]at h1
   subst h1
   exact⟨_,z,_,cs,hp,rfl,hcs,h2⟩
  .cases h2
 .cases h
theorem nC_{d u n a:Nat}{ag:Bool}{r:V×(Nat->V)}(hk:ldOk u S (.ld n ag (.t a))=true)(hq:za_ S d (.ld n ag (.t a))=some r)(ht:S'.tm=S.tm)(hb:∀b z,S.tm a=.ptr b z->S'.bx[b]?=S.bx[b]?):za_ S' d (.ld n ag (.t a))=some r:=by
 obtain⟨b,z,z',cs,hp,_,hcs,hi⟩:=v6_ hk
 simp only[za_]at hq ⊢
 rw[mB_ hp hcs hi]at hq
 rw[mB_ (S:=S') (by rw[ht];exact hp) ((hb b z hp).trans hcs) hi,ht]
 exact hq
theorem nQ_{o:AOper}{G:St}{u n a:Nat}{ag:Bool}(hop:o.op=.ld n ag (.t a))(hg:o.guard=none)(hk:ldOk u S o.op=true)(hst:DG P ac o S R)(hb:∀b z,S.tm a=.ptr b z->G.bx[b]?=S.bx[b]?):DG P ac o (S.mem G) (R.mem G):=by
 unfold DG at hst ⊢
 rw[hg]at hst ⊢
 unfold DO at hst ⊢
 rw[hop]at hst hk ⊢
 simp only at hst ⊢
 obtain⟨d',y,tm1,hd,h1,rfl⟩:=zt_ ⟨rfl,rfl⟩ ⟨by simp,by simp⟩ hst
 have:=nC_ (S':=S.mem G) hk h1 rfl hb
 rw[hd]
 simp only[step]
 rw[this]
 rfl
theorem rT_{k:Nat}{o:AOper}(h:apOk A k o S=true)(ht:∀t∈foot o,S'.tm t=S.tm t)(ha:∀p∈A.ap,p.2.1<BIG->p.1=k\/p.2.2=k->S'.tm p.2.1=S.tm p.2.1)
 (hb:∀p∈A.ap,p.2.2=k->ldC p.2.1 S o.op=true->ldC p.2.1 S' o.op=true):apOk A k o S'=true:=by
 simp only[apOk,zzh_,zzg_,zzy_,yyh_,decide_eq_false_iff_not]at h ⊢
 refine fun p hp=>⟨?_,?_⟩
 .rcases(h p hp).1 with q|q
  .exact .inl q
  .by_cases hk:p.1=k
   .refine .inr ?_
    unfold sepC at q ⊢
    split
    .next hB =>
     rw[if_pos hB]at q
     unfold vpOk at q ⊢
     cases hop:o.op with
     | st n p x =>
       rw[hop]at q
       cases p with
       | t t =>
         simp only at q ⊢
         rw[ht t (by simp[foot,hop,zv_,opdS])];exact q
       |_=>cases q
     |_=>rw[hop]at q;cases q
    .next hB =>
     rw[if_neg hB]at q
     unfold uZ_ at q ⊢
     cases hop:o.op with
     | call f args =>
       rw[hop]at q
       simp only at q ⊢
       rw[ha p hp (by omega) (.inl hk)]
       cases hv:S.tm p.2.1 with
       | ptr b z =>
         rw[hv]at q
         simp only[zzh_]at q ⊢
         intro x hx
         have:=q x hx
         cases x with
         | t t =>
           simp only[sepO]at this ⊢
           rw[ht t ?_];exact this
           simp only[foot,hop,zv_,zzw_,List.mem_flatMap]
           exact .inr (.inl ⟨_,hx,by simp[opdS]⟩)
         |_=>exact this
       |_=>rw[hv]at q;cases q
     | st n w x =>
       rw[hop]at q
       cases w with
       | t w =>
         simp only at q ⊢
         rw[ha p hp (by omega) (.inl hk),ht w (by simp[foot,hop,zv_,opdS])]
         exact q
       |_=>rfl
     |_=>rfl
   .exact .inl hk
 .rcases(h p hp).2 with q|q
  .exact .inl q
  .by_cases hk:p.2.2=k
   .exact .inr (hb p hp hk q)
   .exact .inl hk
theorem xc_{u:Nat}{op:AOp}(h:ldOk u S op=true)(hu:S'.tm u=S.tm u)(ht:∀t∈zv_ op,S'.tm t=S.tm t)(hb:∀n ag a b z cs,op=.ld n ag (.t a)->S.tm a=.ptr b z->S.bx[b]?=some cs->S'.bx[b]?=some cs):ldOk u S' op=true:=by
 cases op with
 | ld n ag x =>
   cases x with
   | t a =>
     have hs:=ht a (by simp[zv_,opdS])
     simp only[ldOk]at h ⊢
     rw[hs,hu]
     cases hv:S.tm a with
     | ptr b z =>
       rw[hv]at h
       simp only[zzg_]at h ⊢
       refine⟨h.1,?_⟩
       replace h:=h.2
       cases hcs:S.bx[b]? with
       | some cs =>
         simp only[hcs]at h
         simp only[hb n ag a b z cs rfl hv hcs]
         exact h
       |none=>simp[hcs]at h
     |_=>rw[hv]at h;cases h
   |_=>rfl
 |_=>rfl
theorem v7_{a:Nat}{op:AOp}(h:ldC a S op=true)(hu:a<BIG->S'.tm a=S.tm a)(ht:∀t∈zv_ op,S'.tm t=S.tm t)(hv:S'.vs=S.vs)(hb:S'.bx=S.bx):ldC a S' op=true:=by
 unfold ldC at h ⊢
 split
 .next hB =>
  rw[if_pos hB]at h
  unfold ldV at h ⊢
  have hno:zF_ S'=zF_ S:=by simp only[zF_,hv,hb]
  cases op with
  | ld n ag x =>
    cases x with
    | t a =>
      simp only at h ⊢
      rw[ht a (by simp[zv_,opdS])]
      cases hp:S.tm a with
      | ptr b o =>
        rw[hp]at h
        have hat:S'.at (.cell b o)=S.at (.cell b o):=by simp only[St.at,hb]
        simp only[hat,hno]at h ⊢
        exact h
      |_=>rw[hp]at h;cases h
    |_=>cases h
  |_=>cases h
 .next hB =>
  rw[if_neg hB]at h
  exact xc_ h (hu (by omega)) ht (fun n ag a b z cs _ _ q=>by rw[hb];exact q)
theorem qQ_(h:∀l x,S.at l=some x->yG_ x=true):zF_ S=true:=by
 simp only[zF_,zzg_,zzh_]
 refine⟨fun x hx=>?_,fun cs hcs x hx=>?_⟩
 .obtain⟨i,hi⟩:=List.mem_iff_getElem?.1 hx
  exact h (.var i) x hi
 .obtain⟨b,hb⟩:=List.mem_iff_getElem?.1 hcs
  obtain⟨o,ho⟩:=List.mem_iff_getElem?.1 hx
  exact h (.cell b o) x (by simp[St.at,hb,ho])
theorem ts_{op:AOp}(h:ldV S op=true)(ht:∀t∈zv_ op,S'.tm t=S.tm t)(hno:zF_ S'=true)(hat:∀l x,S.at l=some x->S'.at l=some x\/(y2_ x=true/\∃y,S'.at l=some y/\y2_ y=true)):ldV S' op=true:=by
 unfold ldV at h ⊢
 cases op with
 | ld n ag x =>
   cases x with
   | t a =>
     simp only at h ⊢
     rw[ht a (by simp[zv_,opdS])]
     cases hp:S.tm a with
     | ptr b o =>
       rw[hp]at h
       simp only at h ⊢
       cases hx:S.at (.cell b o) with
       |none=>rw[hx]at h;cases h
       | some x =>
         rw[hx]at h
         simp only[zzg_]at h
         rcases hat _ _ hx with q|⟨_,y,q1,q2⟩
         .rw[q]
          simp only[zzg_]
          exact⟨⟨h.1.1,hno⟩,h.2⟩
         .rw[q1]
          simp only[zzg_]
          exact⟨⟨h.1.1,hno⟩,by simp[q2]⟩
     |_=>rw[hp]at h;cases h
   |_=>cases h
 |_=>cases h
theorem tt_{a:Nat}{op:AOp}(hl:zh_ S op=true)(h:ldC a S op=true):ldC a S' op=true:=by
 unfold ldC at h ⊢
 split
 .next hB =>
  rw[if_pos hB]at h
  exfalso
  unfold ldV at h
  cases op with
  | ld n ag x =>
    cases x with
    | t a =>
      simp only[zh_]at hl
      simp only at h
      cases hp:S.tm a<;>rw[hp]at hl h<;>simp at hl h
    |_=>cases h
  |_=>cases h
 .next hB =>
  rw[if_neg hB]at h
  cases op with
  | ld n ag x =>
    cases x with
    | t a =>
      exfalso
      simp only[zh_]at hl
      simp only[ldOk]at h
      cases hp:S.tm a<;>rw[hp]at hl h<;>simp at hl h
    |_=>rfl
  |_=>rfl
theorem oe_{a:Nat}{op:AOp}{zs:List V}(h:ldC a S op=true)(hu:a<BIG->S'.tm a=S.tm a)(ht:∀t∈zv_ op,S'.tm t=S.tm t)(hv:S'.vs=S.vs)(hb:S'.bx=S.bx++[zs])(hz:∀x∈zs,isS x=true):ldC a S' op=true:=by
 have hold:∀b cs,S.bx[b]?=some cs->S'.bx[b]?=some cs:=fun b cs q=>by
  have hlt:=(zzc_.1 q).1
  rw[hb,zzo_ hlt];exact q
 unfold ldC at h ⊢
 split
 .next hB =>
  rw[if_pos hB]at h
  have hno:zF_ S'=zF_ S:=by
   have:zs.all yG_=true:=zzh_.2 fun x hx=>by
    have:=hz x hx
    cases x<;>simp[isS]at this<;>rfl
   simp[zF_,hv,hb,this]
  by_cases hn:zF_ S=true
  .refine ts_ h ht (by rw[hno];exact hn) (fun l x hx=>.inl ?_)
   cases l with
   |var i=>simp only[St.at,hv]at hx ⊢;exact hx
   | cell b o =>
     simp only[St.at,zza_]at hx ⊢
     obtain⟨cs,h1,h2⟩:=hx
     exact⟨cs,hold b cs h1,h2⟩
  .exfalso
   unfold ldV at h
   split at h
   .split at h
    .split at h
     .simp only[zzg_]at h
      exact hn h.1.2
     .cases h
    .cases h
   .cases h
 .next hB =>
  rw[if_neg hB]at h
  exact xc_ h (hu (by omega)) ht (fun n ag a b z cs _ _ q=>hold b cs q)
theorem qY_{n a:Nat}{ag:Bool}(h:ldV S (.ld n ag (.t a))=true):∃b o x,S.tm a=.ptr b o/\S.at (.cell b o)=some x/\(y2_ x=true\/immC x=true)/\n=1/\ag=false:=by
 unfold ldV at h
 cases hp:S.tm a with
 | ptr b o =>
   simp only[hp]at h
   cases hx:S.at (.cell b o) with
   |none=>rw[hx]at h;cases h
   | some x =>
     rw[hx]at h
     simp only[zzg_,zzp_,yyh_,zzy_]at h
     exact⟨b,o,x,rfl,hx,h.2,h.1.1.1,h.1.1.2⟩
 |_=>simp only[hp]at h;cases h
theorem rC_{n a:Nat}{ag:Bool}(h:ldV S (.ld n ag (.t a))=true):zF_ S=true:=by
 unfold ldV at h
 simp only at h
 split at h
 .split at h
  .simp only[zzg_]at h
   exact h.1.2
  .cases h
 .cases h
theorem pZ_{n u:Nat}{x:Opd}(hn:zF_ S=true)(hv:vpOk S (.st n (.t u) x)=true)(hs:step S .none (.st n (.t u) x)=some R):zF_ R=true/\R.ep=S.ep/\∀l y,S.at l=some y->R.at l=some y\/(y2_ y=true/\∃z,R.at l=some z/\y2_ z=true):=by
 simp only[vpOk]at hv
 cases hp:S.tm u with
 | vp l e i q =>
   simp only[step,stV,z7_,hp]at hs
   obtain⟨r,h1,h2⟩:=zza_.1 hs
   split at h2
   .split at h2
    .split at h2
     .next e' z xs hat =>
      split at h2
      .split at h2
       .cases h2
       .obtain⟨y,_,h4⟩:=zza_.1 h2
        obtain⟨S3,h5,rfl⟩:=zzb_.1 h4
        obtain⟨_,old,hold,htm,hep,hlen,hatR,_⟩:=yi_ h5
        have hre:reep S S3={ S3 with ep:=S.ep }:=by unfold reep;rw[if_pos hn]
        rw[hre]
        have hat3:∀l',St.at { S3 with ep:=S.ep } l'=S3.at l':=fun l'=>by cases l'<;>rfl
        have hat1:∀l',St.at { S with tm:=r.2 } l'=S.at l':=fun l'=>by cases l'<;>rfl
        refine⟨qQ_ fun l' x' hx'=>?_,rfl,fun l' y' hy'=>?_⟩
        .rw[hat3,hatR]at hx'
         split at hx'
         .cases hx';rfl
         .rw[hat1]at hx';exact to_ hn hx'
        .rw[hat3,hatR]
         by_cases hll:l'=l
         .subst hll
          rw[hat]at hy'
          cases hy'
          rw[if_pos rfl]
          exact .inr ⟨rfl,_,rfl,rfl⟩
         .rw[if_neg hll,hat1]
          exact .inl hy'
      .cases h2
     .cases h2
    .cases h2
   .cases h2
 |_=>simp only[hp]at hv;cases hv
theorem oQ_{d a b o:Nat}{x:V}(hp:S.tm a=.ptr b o)(hx:S.at (.cell b o)=some x)(hk:y2_ x=true\/immC x=true):ldD S d 1 false (.t a)=if o<1000000000 then some (y6_ (.cell b o) S.ep x,S.tm) else none:=by
 by_cases hlt:o<1000000000
 case neg=>simp only[ldD,z7_,hp];rw[if_neg hlt,if_neg hlt]
 rw[if_pos hlt]
 have hb:∃cs,S.bx[b]?=some cs/\cs[o]?=some x:=by
  simp only[St.at,zza_]at hx
  exact hx
 obtain⟨cs,h1,h2⟩:=hb
 have ho:=(zzc_.1 h2).1
 have hd:(cs.drop o).take 1=[x]:=by
  rw[List.drop_eq_getElem_cons ho]
  have:=(zzc_.1 h2).2
  simp[this]
 have hkn:y1_ x=true:=by rcases hk with q|q<;>cases x<;>first|rfl|(simp[y2_]at q;done)|(simp[immC]at q)
 have hl:ya_ S 1 (.ptr b o)=some [y6_ (.cell b o) S.ep x]:=by
  simp only[ya_,h1,hd]
  rw[if_pos hlt,if_pos ⟨by omega,by simp[hkn]⟩]
  rfl
 simp only[ldD,z7_,hp,yyi_,if_false,hx,hl]
 rw[if_pos hlt]
 rcases hk with q|q<;>cases x<;>first|(simp[y2_]at q;done)|(simp[immC]at q;done)|rfl
theorem th_{b k:Nat}(hk:k≠b):∀(ys:List V) {S R:St} {o:Nat},S.places b o ys=some R->R.bx[k]?=S.bx[k]?
 |[],S,R,o,h=>by simp only[St.places,yya_]at h;rw[h]
 | y :: ys, S, R, o, h => by
   simp only[St.places,zza_]at h
   obtain⟨S',h1,h2⟩:=h
   rw[th_ hk ys h2]
   simp only[St.place]at h1
   split at h1
   .split at h1
    .split at h1
     .cases h1
     .cases h1
      exact List.getElem?_set_ne (Ne.symm hk)
    .cases h1
   .cases h1
theorem l2_{n w b z k:Nat}{x:Opd}(h:step S .none (.st n (.t w) x)=some R)(hp:S.tm w=.ptr b z)(hk:k≠b):R.bx[k]?=S.bx[k]?:=by
 simp only[step,stV,z7_,hp,zza_]at h
 obtain⟨r,_,h2⟩:=h
 split at h2
 .split at h2
  .have:=th_ (S:=⟨r.2,S.vs,S.bx,S.ep⟩) hk _ h2
   exact this
  .cases h2
 .cases h2
end
end
section
def uY_(o:AOper)(S:St):Bool:=match o.guard with
 |some (u,want)=>gB (S.tm u) want==some false
 |none=>false
def dynOk(A:Ann)(k:Nat)(o:AOper)(S:St):Bool:=(uY_ o S||(zv_ o.op).all (fun t=>!A.sh.contains t||zZ_ (S.tm t)))&&(!A.lf.contains k||zh_ S o.op)&&apOk A k o S
def DGd(P:Program)(A:Ann)(k:Nat)(o:AOper)(S S':St):Prop:=DG P (A.acs.contains k) o S S'/\dynOk A k o S=true
def sP_(op:AOp)(d:Dst):Bool:=match op,d with
 |.mv (.v i),.v k=>decide (i≠k)
 |.mv (.v _),_=>false
 |_,_=>true
def pi_(a b:AOper):Bool :=
 match a,b with
 |⟨.t d,.ext t n,none⟩,⟨.t d',.ext t' n',none⟩=>decide (t=t')&&decide (n≠n')&&decide (d≠d')&&decide (d≠t)&&decide (d'≠t)
 |_,_=>false
def tS_(A:Ann)(i j:Nat)(oi oj:AOper):Bool :=
 pi_ oi oj ||
 ((dstS oi.dst).all (fun t => !(foot oj).contains t) && (dstS oj.dst).all (fun t => !(foot oi).contains t) && (foot oi).all (fun t => !(foot oj).contains t || A.sh.contains t) && mX_ A i j oi oj &&
   (match cls (A.acs.contains i) oi.op,cls (A.acs.contains j) oj.op with
   |.q,.q=>true
   |.q,.a=>true
   |.q,.s=>(A.lf.contains i&&(!yB_ oj.op||sP_ oi.op oj.dst))||oR_ A i j oi oj
   |.s,.q=>A.lf.contains j&&(!yB_ oi.op||sP_ oj.op oi.dst)
   |_,_=>false))
section
variable{P:Program}{S S' S1 S2 R:St}{A:Ann}
theorem nO_{ac:Bool}{o:AOper}{t:Nat}(hst:DG P ac o S R)(hd:t∉dstS o.dst)(h:uY_ o S=true):R.tm t=S.tm t:=by
 unfold DG at hst
 unfold uY_ at h
 cases hg:o.guard with
 |none=>rw[hg]at h;cases h
 | some q =>
   obtain⟨u,want⟩:=q
   rw[hg]at hst h
   obtain⟨b,h1,h2⟩:=hst
   have hb:b=false:=by simp only[h1]at h;simpa using h
   subst hb
   simp only[yyi_,if_false]at h2
   unfold wC_ at h2
   split at h2
   .next d hd' =>
    cases h2
    have:t≠d:=fun e=>hd (by simp[dstS,e,hd'])
    exact y9_ _ _ this
   .cases h2
theorem s0_{o:AOper}(ht:∀t∈foot o,S'.tm t=S.tm t):uY_ o S'=uY_ o S:=by
 unfold uY_
 cases hg:o.guard with
 |none=>rfl
 | some q =>
   obtain⟨u,want⟩:=q
   simp only
   rw[ht u (by simp[foot,gS,hg])]
theorem v8_{k:Nat}{o:AOper}{t:Nat}(h:DGd P A k o S R)(hd:t∉dstS o.dst)(hs:A.sh.contains t=true):R.tm t=S.tm t:=by
 have h2:=h.2
 simp only[dynOk,zzg_,zzy_,zzh_]at h2
 rcases h2.1.1 with hk|hk
 .exact nO_ h.1 hd hk
 refine pp_ h.1 hd (fun ht=>?_)
 have:=hk t ht
 rw[hs]at this
 simpa using this
theorem pl_{k:Nat}{o:AOper}{t:Nat}(h:DGd P A k o S R)(hf:t∉foot o):R.tm t=S.tm t:=by
 simp only[foot,zzw_,not_or]at hf
 exact pp_ h.1 hf.1 (fun ht=>absurd ht hf.2.1)
theorem tI_{k:Nat}{o:AOper}(h:dynOk A k o S=true)(ht:∀t∈foot o,S'.tm t=S.tm t)(hv:A.lf.contains k=true->VsFor o.op S S')(ha:∀p∈A.ap,p.2.1<BIG->p.1=k\/p.2.2=k->S'.tm p.2.1=S.tm p.2.1)
 (hb:∀p∈A.ap,p.2.2=k->ldC p.2.1 S o.op=true->ldC p.2.1 S' o.op=true):dynOk A k o S'=true:=by
 have hsl:∀t∈zv_ o.op,S'.tm t=S.tm t:=fun t h=>ht t (by simp[foot,h])
 have hap:apOk A k o S'=true:=rT_ (by simp only[dynOk,zzg_]at h;exact h.2) ht ha hb
 simp only[dynOk,zzg_,zzy_,zzh_]at h ⊢
 refine⟨⟨h.1.1.imp (fun q=>by rw[s0_ ht];exact q) fun q t hm=>by rw[hsl t hm];exact q t hm,?_⟩,hap⟩
 have h2:=h.1.2
 cases hl:A.lf.contains k with
 |false=>exact .inl rfl
 | true =>
   rw[hl]at h2
   exact .inr (se_ (h2.resolve_left (by simp)) hsl (hv hl))
theorem ph_{b:Bool}{d t n:Nat}:DG P b ⟨.t d,.ext t n,none⟩ S R↔∃vs y,S.tm t=.tup vs/\vs[n]?=some y/\(y1_ y&&!p0_ y)=true/\R=S.tmd (upd (if yb_ y then upd S.tm t (.tup (vs.set n (spent y))) else S.tm) d y):=by
 simp only[DG,DO,step,za_]
 constructor
 .intro h
  rw[zzb_]at h
  obtain⟨r,h1,rfl⟩:=h
  split at h1
  .next vs hv =>
   simp only[zza_]at h1
   obtain⟨y,h2,h3⟩:=h1
   split at h3
   .next hc=>cases h3;exact⟨vs,y,hv,h2,hc,rfl⟩
   .cases h3
  .cases h1
 .rintro⟨vs,y,h1,h2,h3,rfl⟩
  rw[h1]
  simp only[h2,zzt_,h3,if_true,zzz_]
  rfl
theorem pg_{k:Nat}{d t n:Nat}{vs vs':List V}(h:dynOk A k ⟨.t d,.ext t n,none⟩ S=true)(ht:S.tm t=.tup vs)(ht':S'.tm t=.tup vs'):dynOk A k ⟨.t d,.ext t n,none⟩ S'=true:=by
 simp only[dynOk,uY_,Bool.false_or,zv_,List.all_cons,List.all_nil,Bool.and_true,zzg_,ht,ht',zZ_,zh_,apOk,uZ_,ldOk]at h ⊢
 exact h
theorem om_{i j d t n d' n':Nat}(hn:n≠n')(hdd:d≠d')(hdt:d≠t)(hdt':d'≠t)(hi:DGd P A i ⟨.t d,.ext t n,none⟩ S S1)(hj:DGd P A j ⟨.t d',.ext t n',none⟩ S1 S2) :
 ∃S1',DGd P A j ⟨.t d',.ext t n',none⟩ S S1'/\DGd P A i ⟨.t d,.ext t n,none⟩ S1' S2:=by
 obtain⟨hi1,hi2⟩:=hi
 obtain⟨hj1,hj2⟩:=hj
 rw[ph_]at hi1 hj1
 obtain⟨vs,y,a1,a2,a3,rfl⟩:=hi1
 obtain⟨vs',y',b1,b2,b3,rfl⟩:=hj1
 have b1:upd (if yb_ y then upd S.tm t (.tup (vs.set n (spent y))) else S.tm) d y t=.tup vs':=b1
 have b0:=b1
 rw[y9_ _ _ (Ne.symm hdt)]at b1
 have hvs:vs'=if yb_ y then vs.set n (spent y) else vs:=by
  cases hc:yb_ y with
  |true=>rw[hc]at b1;simp only[if_true,zm_]at b1;injection b1 with q;simp[q]
  |false=>rw[hc]at b1;simp only[yyi_,if_false]at b1;rw[a1]at b1;injection b1 with q;simp[q]
 have b2':vs[n']?=some y':=by
  rw[hvs]at b2
  split at b2
  .rw[List.getElem?_set_ne hn]at b2;exact b2
  .exact b2
 have c1:(S.tmd (upd (if yb_ y' then upd S.tm t (.tup (vs.set n' (spent y'))) else S.tm) d' y')).tm t=.tup (if yb_ y' then vs.set n' (spent y') else vs):=by
  show upd _ d' y' t=_
  rw[y9_ _ _ (Ne.symm hdt')]
  split<;>simp_all [zm_]
 refine⟨S.tmd (upd (if yb_ y' then upd S.tm t (.tup (vs.set n' (spent y'))) else S.tm) d' y'),⟨ph_.2 ⟨vs,y',a1,b2',b3,rfl⟩,pg_ hj2 b0 a1⟩,ph_.2 ⟨_,y,c1,?_,a3,?_⟩,pg_ hi2 a1 c1⟩
 .split
  .rw[List.getElem?_set_ne (Ne.symm hn)];exact a2
  .exact a2
 .simp only[St.tmd,St.mk.injEq,and_true]
  rw[hvs]
  funext u
  by_cases e1:u=d
  .subst e1
   simp only[upd,if_true,if_neg hdd]
   cases yb_ y'<;>cases yb_ y<;>simp[upd,hdt]
  .by_cases e2:u=d'
   .subst e2
    simp only[upd,if_true,if_neg (Ne.symm hdd)]
    cases yb_ y'<;>cases yb_ y<;>simp[upd,hdt']
   .by_cases e3:u=t
    .subst e3
     cases yb_ y'<;>cases yb_ y<;>simp[upd,e1,e2,List.set_comm _ _ hn]
    .cases yb_ y'<;>cases yb_ y<;>simp[upd,e1,e2,e3]
theorem swap{i j:Nat}{oi oj:AOper}(hap:tS_ A i j oi oj=true)(hi:DGd P A i oi S S1)(hj:DGd P A j oj S1 S2):∃S1',DGd P A j oj S S1'/\DGd P A i oi S1' S2:=by
 simp only[tS_,zzy_]at hap
 rcases hap with hap|hap
 .unfold pi_ at hap
  split at hap
  .simp only[zzg_,zzp_]at hap
   obtain⟨⟨⟨⟨rfl,hn⟩,hdd⟩,hdt⟩,hdt'⟩:=hap
   exact om_ hn hdd hdt hdt' hi hj
  .cases hap
 .rw[zzg_]at hap
  obtain⟨hap,hc⟩:=hap
  simp only[zzg_,zzh_,yyh_,zzy_,List.contains_eq_mem,decide_eq_false_iff_not,zzp_]at hap
  obtain⟨⟨⟨d1,d2⟩,d3⟩,d4⟩:=hap
  simp only[mX_,zzh_,zzg_,yyh_,zzy_,List.contains_eq_mem,decide_eq_false_iff_not,zzp_]at d4
  have k2:∀t,t∉foot oi->S1.tm t=S.tm t:=fun t ht=>pl_ hi ht
  have k4:∀t,t∉foot oj->S2.tm t=S1.tm t:=fun t ht=>pl_ hj ht
  have k1:∀t∈foot oj,S1.tm t=S.tm t:=by
   intro t ht
   by_cases h:t∈foot oi
   .exact v8_ hi (fun hd=>d1 t hd ht) (by simpa using(d3 t h).resolve_left (fun q=>q ht))
   .exact k2 t h
  have k3:∀t∈foot oi,S2.tm t=S1.tm t:=by
   intro t ht
   by_cases h:t∈foot oj
   .exact v8_ hj (fun hd=>d2 t hd ht) (by simpa using(d3 t ht).resolve_left (fun q=>q h))
   .exact k4 t h
  have kA:∀p∈A.ap,p.2.1<BIG->((p.1=i\/p.2.2=i)\/(p.1=j\/p.2.2=j))->S1.tm p.2.1=S.tm p.2.1/\S2.tm p.2.1=S1.tm p.2.1:=by
   intro p hp hB hij
   rcases d4 p hp with (q|⟨⟨q1,q2⟩,q3,q4⟩)|⟨⟨q1,q2⟩,q3⟩
   .omega
   .rcases hij with (e|e)|(e|e)
    .exact absurd e q1
    .exact absurd e q3
    .exact absurd e q2
    .exact absurd e q4
   .exact⟨v8_ hi q2 (by simpa using q1),v8_ hj q3 (by simpa using q1)⟩
  -- what the memory of each is to the other
  have fin:∀ {X Y:St},DG P (A.acs.contains j) oj (S1.mem S) X->X.tm=S2.tm->DG P (A.acs.contains i) oi (S.mem X) Y->Y.tm=S1.tm->(Y.vs=S2.vs/\Y.bx=S2.bx/\Y.ep=S2.ep) ->
   (A.lf.contains j=true->VsFor oj.op S1 S)->(A.lf.contains i=true->VsFor oi.op S X) ->
   (∀p∈A.ap,p.2.2=j->ldC p.2.1 S1 oj.op=true->ldC p.2.1 S oj.op=true)->(∀p∈A.ap,p.2.2=i->ldC p.2.1 S oi.op=true->∀T:St,T.vs=X.vs->T.bx=X.bx->(p.2.1<BIG->T.tm p.2.1=S.tm p.2.1)->(∀t∈zv_ oi.op,T.tm t=S.tm t)->ldC p.2.1 T oi.op=true)->∃S1',DGd P A j oj S S1'/\DGd P A i oi S1' S2:=by
   intro X Y h1 h2 h3 h4 h5 h6 h7 h8 h9
   obtain⟨S1',q1,q2,q3,q4,q5⟩:=dia hi.1 h1 h2 h3 h4 h5 k1 k2 k3 k4
   have q3':∀t∈foot oi,S1'.tm t=S.tm t:=fun t ht=>q3 t fun h=>by rw[k3 t ht,k1 t h]
   exact⟨S1',⟨q1,tI_ hj.2 (fun t ht=>(k1 t ht).symm) h6 (fun p hp e e2=>(kA p hp e (.inr e2)).1.symm) h8⟩,q2,
    tI_ hi.2 q3' (fun hl=>fun n x e1 e2 e3=>by rw[q4];exact h7 hl n x e1 e2 e3) (fun p hp e e2=>q3 _ fun _=>by have:=kA p hp e (.inl e2);rw[this.2,this.1]) (fun p hp e h=>h9 p hp e h S1' q4 q5 (fun hB=>q3 _ fun _=>by have:=kA p hp hB (.inl (.inr e));rw[this.2,this.1]) (fun t ht=>q3' t (by simp[foot,ht])))⟩
  have hlf:∀ {k o S},dynOk A k o S=true->A.lf.contains k=true->zh_ S o.op=true:=by
   intro k o S h hl
   simp only[dynOk,zzg_]at h
   have:=h.1.2
   rw[hl]at this
   simpa using this
  have hsame:∀p∈A.ap,S1=S.tmd S1.tm->p.2.2=j->ldC p.2.1 S1 oj.op=true->ldC p.2.1 S oj.op=true:=fun p hp e1 e h=>v7_ h (fun hB=>(kA p hp hB (.inr (.inr e))).1.symm) (fun t ht=>(k1 t (by simp[foot,ht])).symm) (by rw[e1];rfl) (by rw[e1];rfl)
  split at hc
  .next ci cj =>
   have e1:=dg_q ci hi.1
   have e2:=dg_q cj hj.1
   have m1:S1.mem S=S1:=by rw[e1];rfl
   have m2:S.mem S2=S:=by rw[e2,e1];rfl
   exact fin (X:=S2) (Y:=S1) (by rw[m1];exact hj.1) rfl (by rw[m2];exact hi.1) rfl (by rw[e2];exact⟨rfl,rfl,rfl⟩) (fun _=>.same (VsSame.of (by rw[e1];rfl)).1) (fun _=>.same (VsSame.of (by rw[e2,e1];rfl)).1)
    (fun p hp=>hsame p hp e1) (fun p _ _ h T hv hb hu ht=>v7_ h hu ht (by rw[hv,e2,e1];rfl) (by rw[hb,e2,e1];rfl))
  .next ci cj =>
   have e1:=dg_q ci hi.1
   have m1:S1.mem S=S1:=by rw[e1];rfl
   rcases dg_a cj hj.1 with ⟨d,e2⟩|⟨d,zs,hzs,e2⟩
   .have m2:S.mem S2=S:=by rw[e2,e1];rfl
    exact fin (X:=S2) (Y:=S1) (by rw[m1];exact hj.1) rfl (by rw[m2];exact hi.1) rfl (by rw[e2];exact⟨rfl,rfl,rfl⟩) (fun _=>.same (VsSame.of (by rw[e1];rfl)).1) (fun _=>.same (VsSame.of (by rw[e2,e1];rfl)).1)
     (fun p hp=>hsame p hp e1) (fun p _ _ h T hv hb hu ht=>v7_ h hu ht (by rw[hv,e2,e1];rfl) (by rw[hb,e2,e1];rfl))
   .have m2:S.mem S2=S.push [zs]:=by rw[e2,e1];rfl
    exact fin (X:=S2) (Y:=S1.push [zs]) (by rw[m1];exact hj.1) rfl (by rw[m2];exact nP_ (by simpa using hzs) ci hi.1) rfl (by rw[e2];exact⟨rfl,rfl,rfl⟩) (fun _=>.same (VsSame.of (by rw[e1];rfl)).1) (fun _=>.same (VsSame.of (by rw[e2,e1];rfl)).1)
     (fun p hp=>hsame p hp e1) (fun p _ _ h T hv hb hu ht=>oe_ h hu ht (by rw[hv,e2,e1];rfl) (by rw[hb,e2,e1];rfl) hzs)
  .next ci cj =>
   simp only[zzy_]at hc
   have e1:=dg_q ci hi.1
   have m1:S1.mem S=S1:=by rw[e1];rfl
   rcases hc with hc|hc
   .simp only[zzg_,zzy_,yyh_]at hc
    have hli:=hlf hi.2 hc.1
    have hvs:VsFor oi.op S S2:=by
     rcases hc.2 with h|h
     .exact .same ((VsSame.of (S:=S) (S':=S1) (by rw[e1];rfl)).1.trans (po_ h hj.1).1)
     .by_cases ha:yB_ oj.op=true
      .intro n x q1 q2 q3
       have hjo:∃y,oj.op=.asg y:=by
        cases hop:oj.op<;>rw[hop]at ha<;>simp[yB_]at ha
        exact⟨_,rfl⟩
       obtain⟨y,hy⟩:=hjo
       have hd:oj.dst≠.v n:=by
        intro e
        rw[q1,e]at h
        simp[sP_]at h
       rw[n0_ hy hj.1 hd,e1]
       exact q3
      .exact .same ((VsSame.of (S:=S) (S':=S1) (by rw[e1];rfl)).1.trans (po_ (by simpa using ha) hj.1).1)
    refine fin (X:=S2) (Y:=S1.mem S2) (by rw[m1];exact hj.1) rfl (r7_ hli hi.1 hvs) rfl ⟨rfl,rfl,rfl⟩ (fun _=>.same (VsSame.of (by rw[e1];rfl)).1) (fun _=>hvs)
     (fun p hp=>hsame p hp e1) (fun p _ _ h T _ _ _ _=>tt_ hli h)
   .unfold oR_ at hc
    split at hc
    .next d n ag a d' f args =>
     simp only[zzg_,rI_,wB_,List.any_eq_true,zzp_,zzh_,zzy_]at hc
     obtain⟨⟨⟨u0,u,v0⟩,hin,⟨⟨hj0,hi0⟩,hsm⟩⟩,hall⟩:=hc
     simp only at hj0 hi0 hsm
     subst hj0
     subst hi0
     have hai:ldOk u S (.ld n ag (.t a))=true:=by
      have:=hi.2
      simp only[dynOk,zzg_,apOk,zzh_,zzy_,yyh_,decide_eq_false_iff_not]at this
      have:=(this.2 _ hin).2.resolve_left (fun h=>h rfl)
      rwa [ldC,if_neg (Nat.not_le.2 hsm)]at this
     have hta:S1.tm u=S.tm u:=(kA _ hin hsm (.inr (.inl rfl))).1
     obtain⟨b0,z0,z1,cs0,hpa,hpu,hcs0,_⟩:=v6_ hai
     have haj:uZ_ S1 u (.call f args)=true:=by
      have:=hj.2
      simp only[dynOk,zzg_,apOk,zzh_,zzy_,yyh_,decide_eq_false_iff_not]at this
      have:=(this.2 _ hin).1.resolve_left (fun h=>h rfl)
      rwa [sepC,if_neg (Nat.not_le.2 hsm)]at this
     have hac:A.acs.contains u0=true:=by
      simp only[cls]at cj
      split at cj
      .assumption
      .cases cj
     have hvs:VsSame S S2:=(VsSame.of (S:=S) (S':=S1) (by rw[e1];rfl)).1.trans (po_ (o:=⟨d',.call f args,none⟩) rfl hj.1).1
     have hbx:∀b z,S.tm a=.ptr b z->S2.bx[b]?=S.bx[b]?:=by
      intro b z hv
      rw[hpa]at hv
      cases hv
      have hlt:=(zzc_.1 hcs0).1
      simp only[uZ_,hta,hpu]at haj
      have hst:=hj.1
      simp only[DG,DO,hac,if_true]at hst
      obtain⟨dd,_,ys,tm1,g1,mask,sel,args',bs,R,bs',g2,g3,g4,rfl⟩:=hst
      have hs:=ni_ g4.2 (uV_ args haj g1).2
      have e3:S1.bx=S.bx:=by rw[e1];rfl
      show (xl_ S1.bx sel bs')[b0]?=_
      rw[e3]
      exact vl_ hlt hs
     exact fin (X:=S2) (Y:=S1.mem S2) (by rw[m1];exact hj.1) rfl (nQ_ rfl rfl hai hi.1 hbx) rfl ⟨rfl,rfl,rfl⟩ (fun _=>.same (VsSame.of (by rw[e1];rfl)).1) (fun _=>.same hvs)
      (fun p hp=>hsame p hp e1) (fun p hp hpi h T hv hb hu ht=>by
       have hp2:=(hall p hp).resolve_left (fun h=>h hpi)
       unfold ldC at h ⊢
       rw[if_neg (by omega)]at h ⊢
       exact xc_ h (hu hp2) ht (fun n' ag' a' b z cs e q h=>by cases e;rw[hb,hbx b z q];exact h))
    .next d n ag a d' x =>
     simp only[zzg_,rI_,wB_,List.any_eq_true,zzp_,zzh_,zzy_]at hc
     obtain⟨⟨⟨u0,u,v0⟩,hin,⟨⟨hj0,hi0⟩,hsm⟩⟩,hall⟩:=hc
     simp only at hj0 hi0 hsm
     subst hj0
     subst hi0
     have hai:ldOk u S (.ld n ag (.t a))=true:=by
      have:=hi.2
      simp only[dynOk,zzg_,apOk,zzh_,zzy_,yyh_,decide_eq_false_iff_not]at this
      have:=(this.2 _ hin).2.resolve_left (fun h=>h rfl)
      rwa [ldC,if_neg (Nat.not_le.2 hsm)]at this
     have hta:S1.tm u=S.tm u:=(kA _ hin hsm (.inr (.inl rfl))).1
     obtain⟨b0,z0,z1,cs0,hpa,hpu,hcs0,_⟩:=v6_ hai
     have hbx2:S2.bx=S.bx:=by
      have hst:=hj.1
      simp only[DG,DO,step,zza_]at hst
      obtain⟨r,g1,g2⟩:=hst
      have e3:S1.bx=S.bx:=by rw[e1];rfl
      simp only[St.place]at g2
      split at g2
      .split at g2
       .cases g2
       .cases g2;exact e3
      .cases g2
     have hbx:∀b z,S.tm a=.ptr b z->S2.bx[b]?=S.bx[b]?:=fun b z _=>by rw[hbx2]
     refine fin (X:=S2) (Y:=S1.mem S2) (by rw[m1];exact hj.1) rfl (nQ_ rfl rfl hai hi.1 hbx) rfl ⟨rfl,rfl,rfl⟩ (fun _=>.same (VsSame.of (by rw[e1];rfl)).1) (fun _=>fun n x q1 _ _=>by cases q1)
      (fun p hp=>hsame p hp e1) (fun p hp hpi h T hv hb hu ht=>by
       have hp2:=(hall p hp).resolve_left (fun h=>h hpi)
       unfold ldC at h ⊢
       rw[if_neg (by omega)]at h ⊢
       exact xc_ h (hu hp2) ht (fun n' ag' a' b z cs e q h=>by cases e;rw[hb,hbx b z q];exact h))
    .next d n ag a n' w x =>
     rcases Bool.or_eq_true_iff.1 hc with hc|hc
     case inr =>
      simp only[zzg_,rI_,wB_,List.any_eq_true,zzp_,zzh_,zzy_]at hc
      obtain⟨⟨⟨u0,u,v0⟩,hin,⟨⟨hj0,hi0⟩,hsm⟩⟩,hall⟩:=hc
      simp only at hj0 hi0 hsm
      subst hj0
      subst hi0
      have hai:ldOk u S (.ld n ag (.t a))=true:=by
       have:=hi.2
       simp only[dynOk,zzg_,apOk,zzh_,zzy_,yyh_,decide_eq_false_iff_not]at this
       have:=(this.2 _ hin).2.resolve_left (fun h=>h rfl)
       rwa [ldC,if_neg (Nat.not_le.2 hsm)]at this
      have hta:S1.tm u=S.tm u:=(kA _ hin hsm (.inr (.inl rfl))).1
      obtain⟨b0,z0,z1,cs0,hpa,hpu,hcs0,_⟩:=v6_ hai
      have haj:uZ_ S1 u (.st n' (.t w) x)=true:=by
       have:=hj.2
       simp only[dynOk,zzg_,apOk,zzh_,zzy_,yyh_,decide_eq_false_iff_not]at this
       have:=(this.2 _ hin).1.resolve_left (fun h=>h rfl)
       rwa [sepC,if_neg (Nat.not_le.2 hsm)]at this
      have hbx:∀b z,S.tm a=.ptr b z->S2.bx[b]?=S.bx[b]?:=by
       intro b z hv
       rw[hpa]at hv
       cases hv
       simp only[uZ_,hta,hpu]at haj
       cases hw:S1.tm w<;>rw[hw]at haj<;>simp[qN_]at haj
       have e3:S1.bx=S.bx:=by rw[e1];rfl
       rw[l2_ (S:=S1) (show step S1 .none (.st n' (.t w) x)=some S2 from hj.1) hw haj,e3]
      exact fin (X:=S2) (Y:=S1.mem S2) (by rw[m1];exact hj.1) rfl (nQ_ rfl rfl hai hi.1 hbx) rfl ⟨rfl,rfl,rfl⟩ (fun _=>.same (VsSame.of (by rw[e1];rfl)).1) (fun _=>fun n x q1 _ _=>by cases q1)
       (fun p hp=>hsame p hp e1) (fun p hp hpi h T hv hb hu ht=>by
        have hp2:=(hall p hp).resolve_left (fun h=>h hpi)
        unfold ldC at h ⊢
        rw[if_neg (by omega)]at h ⊢
        exact xc_ h (hu hp2) ht (fun n' ag' a' b z cs e q h=>by cases e;rw[hb,hbx b z q];exact h))
     simp only[zzg_,List.contains_eq_mem,zzp_,zzh_,zzy_]at hc
     obtain⟨hc,hall⟩:=hc
     have hai:ldV S (.ld n ag (.t a))=true:=by
      have:=hi.2
      simp only[dynOk,zzg_,apOk,zzh_,zzy_,yyh_,decide_eq_false_iff_not]at this
      have:=(this.2 _ hc).2.resolve_left (fun h=>h rfl)
      rwa [ldC,if_pos (Nat.le_add_left BIG a)]at this
     have haj:vpOk S1 (.st n' (.t w) x)=true:=by
      have:=hj.2
      simp only[dynOk,zzg_,apOk,zzh_,zzy_,yyh_,decide_eq_false_iff_not]at this
      have:=(this.2 _ hc).1.resolve_left (fun h=>h rfl)
      rwa [sepC,if_pos (Nat.le_add_left BIG a)]at this
     obtain⟨hno2,hep2,hat2⟩:=pZ_ (S:=S1) (by
      have:zF_ S1=zF_ S:=by rw[e1];rfl
      rw[this]
      exact rC_ hai) haj (show step S1 .none (.st n' (.t w) x)=some S2 from hj.1)
     have hatS:∀l,S1.at l=S.at l:=fun l=>by rw[e1];cases l<;>rfl
     have hepS:S1.ep=S.ep:=by rw[e1];rfl
     have hmem:∀T:St,T.vs=S2.vs->T.bx=S2.bx->zF_ T=true/\∀l x,S.at l=some x->T.at l=some x\/(y2_ x=true/\∃y,T.at l=some y/\y2_ y=true):=fun T hv hb=>by
      have hT:∀l,T.at l=S2.at l:=fun l=>by cases l<;>simp only[St.at,hv,hb]
      refine⟨by rw[<-hno2];simp only[zF_,hv,hb],fun l x hx=>?_⟩
      rw[hT l]
      exact hat2 l x (by rw[hatS];exact hx)
     have hld:DG P (A.acs.contains i) ⟨d,.ld n ag (.t a),none⟩ (S.mem S2) (S1.mem S2):=by
      obtain⟨b,o,y,p1,p2,p3,rfl,rfl⟩:=qY_ hai
      have hst:=hi.1
      simp only[DG,DO,step]at hst ⊢
      cases d with
      | t d =>
        simp only[za_,oQ_ p1 p2 p3]at hst
        by_cases hlt:o<1000000000
        case neg=>rw[if_neg hlt]at hst;cases hst
        rw[if_pos hlt]at hst
        simp only[zzz_,yya_]at hst
        have q1:(S.mem S2).tm a=.ptr b o:=p1
        have q2:∃y',(S.mem S2).at (.cell b o)=some y'/\(y2_ y'=true\/immC y'=true)/\y6_ (.cell b o) S2.ep y'=y6_ (.cell b o) S.ep y:=by
         rcases(hmem (S.mem S2) rfl rfl).2 _ _ p2 with h|⟨h1,y',h2,h3⟩
         .refine⟨y,h,p3,?_⟩
          rw[hep2,hepS]
         .refine⟨y',h2,.inl h3,?_⟩
          rw[hep2,hepS]
          cases y<;>simp[y2_]at h1
          cases y'<;>simp[y2_]at h3
          rename_i m _ _ _ m' _ _ _
          cases m<;>simp[y2_]at h1
          cases m'<;>simp[y2_]at h3
          rfl
        obtain⟨y',q2,q3,q4⟩:=q2
        have:=oQ_ (d:=d) q1 q2 q3
        rw[if_pos hlt]at this
        simp only[za_,this,zzz_,yya_]
        have e5:y6_ (.cell b o) (S.mem S2).ep y'=y6_ (.cell b o) S.ep y:=q4
        rw[e5,<-hst]
        rfl
      |_=>simp at hst
     exact fin (X:=S2) (Y:=S1.mem S2) (by rw[m1];exact hj.1) rfl hld rfl ⟨rfl,rfl,rfl⟩ (fun _=>.same (VsSame.of (by rw[e1];rfl)).1) (fun _=>fun n x q1 _ _=>by cases q1)
      (fun p hp=>hsame p hp e1) (fun p hp hpi h T hv hb _ ht=>by
       have hp2:=(hall p hp).resolve_left (fun h=>h hpi)
       unfold ldC at h ⊢
       rw[if_pos hp2]at h ⊢
       obtain⟨r1,r2⟩:=hmem T hv hb
       exact ts_ h ht r1 r2)
    .cases hc
  .next ci cj =>
   simp only[zzg_,zzy_,yyh_]at hc
   have e2:=dg_q cj hj.1
   have hlj:=hlf hj.2 hc.1
   have hvs:VsFor oj.op S1 S:=by
    rcases hc.2 with h|h
    .exact .same (po_ h hi.1).2
    .by_cases ha:yB_ oi.op=true
     .intro n x q1 q2 q3
      have hjo:∃y,oi.op=.asg y:=by
       cases hop:oi.op<;>rw[hop]at ha<;>simp[yB_]at ha
       exact⟨_,rfl⟩
      obtain⟨y,hy⟩:=hjo
      have hd:oi.dst≠.v n:=by
       intro e
       rw[q1,e]at h
       simp[sP_]at h
      rw[<-n0_ hy hi.1 hd]
      exact q3
     .exact .same (po_ (by simpa using ha) hi.1).2
   have m2:S.mem (S2.mem S)=S:=rfl
   refine fin (X:=S2.mem S) (Y:=S1) (r7_ hlj hj.1 hvs) rfl (by rw[m2];exact hi.1) rfl (by rw[e2];exact⟨rfl,rfl,rfl⟩) (fun _=>hvs) (fun _=>.same (VsSame.of rfl).1)
    (fun p _ _ h=>tt_ hlj h) (fun p _ _ h T hv hb hu ht=>v7_ h hu ht hv hb)
  .cases hc
end
end
section
section
variable{P:Program}{A:Ann}{ops:List AOper}{es:List (List Nat)}
def WND(P:Program)(A:Ann)(ops:List AOper)(es:List (List Nat))(K:St->Prop):Nat->List Nat->St->Prop
 |0,L,S=>rdy es L=[]/\K S
 |f+1,L,S=>(rdy es L=[]->K S)/\∀i∈rdy es L,∀o,ops[i]?=some o->∃S',DGd P A i o S S'/\WND P A ops es K f (i::L) S'
theorem oF_{K:St->Prop}:∀(f:Nat) {L:List Nat} {S:St},WND P A ops es K f L S->WN P ops es f L S K
 |0,_,_,h=>h
 | f + 1, L, S, h => ⟨h.1, fun i hi o ho => by
     obtain⟨S',h1,h2⟩:=h.2 i hi o ho
     exact lp_ h1.1 (oF_ f h2)⟩
theorem vi_{L L':List Nat}(h:∀x,x∈L↔x∈L'):rdy es L=rdy es L':=by
 have hc:∀x,L.contains x=L'.contains x:=fun x=>by
  rw[Bool.eq_iff_iff];simp[h x]
 have hf:L.contains=L'.contains:=funext hc
 unfold rdy
 simp only[hf,hc]
theorem va_{K:St->Prop}:∀(f:Nat) {L L':List Nat} {S:St},(∀x,x∈L↔x∈L')->WND P A ops es K f L S->WND P A ops es K f L' S
 |0,L,L',S,h,hw=>⟨by rw[<-vi_ h];exact hw.1,hw.2⟩
 | f + 1, L, L', S, h, hw => ⟨fun h0 => hw.1 (by rw [vi_ h]; exact h0), fun i hi o ho => by
     obtain⟨S',h1,h2⟩:=hw.2 i (by rw[vi_ h];exact hi) o ho
     exact⟨S',h1,va_ f (fun x=>by simp[h x]) h2⟩⟩
theorem w4_{L:List Nat}{i:Nat}:i∈rdy es L↔i<es.length/\i∉L/\∀e∈(es[i]?).getD [],e∈L:=by
 simp[rdy,zzh_]
theorem q1_{K:St->Prop}{i:Nat}{oi:AOper}(hoi:ops[i]?=some oi)(hlen:es.length=ops.length){D:List Nat}(hD:∀j∈D,∃e∈(es[j]?).getD [],e=i\/e∈D) :
 ∀ (f : Nat) (L : List Nat) (S S1 : St), i ∈ rdy es L → (∀ j ∈ D, j ∉ L) → (∀ j oj, ops[j]? = some oj → j ≠ i → j ∉ L → j ∉ D → tS_ A i j oi oj = true) →
   DGd P A i oi S S1->WND P A ops es K f (i::L) S1->WND P A ops es K (f+1) L S:=by
 intro f
 induction f with
 | zero =>
   intro L S S1 hr hDL hfree hg hw
   refine⟨fun h=>(by rw[h]at hr;cases hr),fun j hj o ho=>?_⟩
   by_cases hji:j=i
   .subst hji;rw[hoi]at ho;cases ho;exact⟨S1,hg,hw⟩
   .exfalso
    obtain⟨q1,q2,q3⟩:=w4_.1 hj
    have:j∈rdy es (i::L):=w4_.2 ⟨q1,by simp[hji,q2],fun e he=>List.mem_cons_of_mem _ (q3 e he)⟩
    rw[hw.1]at this
    cases this
 | succ f ih =>
   intro L S S1 hr hDL hfree hg hw
   refine⟨fun h=>(by rw[h]at hr;cases hr),fun j hj o ho=>?_⟩
   by_cases hji:j=i
   .subst hji;rw[hoi]at ho;cases ho;exact⟨S1,hg,hw⟩
   .obtain⟨q1,q2,q3⟩:=w4_.1 hj
    obtain⟨r1,r2,r3⟩:=w4_.1 hr
    have hj':j∈rdy es (i::L):=w4_.2 ⟨q1,by simp[hji,q2],fun e he=>List.mem_cons_of_mem _ (q3 e he)⟩
    obtain⟨S2,h1,h2⟩:=hw.2 j hj' o ho
    have hjD:j∉D:=by
     intro hm
     obtain⟨e,he,hc⟩:=hD j hm
     have hel:=q3 e he
     rcases hc with rfl|hc
     .exact r2 hel
     .exact hDL e hc hel
    obtain⟨S1',k1,k2⟩:=swap (hfree j o ho hji q2 hjD) hg h1
    refine⟨S1',k1,ih (j::L) S1' S2 ?_ ?_ ?_ k2 (va_ f (fun x=>?_) h2)⟩
    .exact w4_.2 ⟨r1,by simp[Ne.symm hji,r2],fun e he=>List.mem_cons_of_mem _ (r3 e he)⟩
    .intro k hk
     have:k≠j:=fun e=>hjD (e ▸ hk)
     simp[this,hDL k hk]
    .intro k ok hok hki hkL hkD
     exact hfree k ok hok hki (fun h=>hkL (List.mem_cons_of_mem _ h)) hkD
    .simp only[List.mem_cons]
     constructor<;>(rintro(h|h|h)<;>simp[h])
def nR_(es:List (List Nat))(k:Nat):List Nat->List Nat->List Nat
 |[],D=>D
 |j::r,D=>nR_ es k r (if ((es[j]?).getD []).any (fun e=>Nat.beq e k||D.contains e) then j::D else D)
def ok_(A:Ann)(ops:List AOper)(k:Nat)(oi:AOper)(D:List Nat):Nat->List AOper->Bool
 |_,[]=>true
 |j,oj::r=>(D.contains j||tS_ A k j oi oj)&&ok_ A ops k oi D (j+1) r
def qX_(A:Ann)(ops:List AOper)(es:List (List Nat)):Nat->List AOper->Bool
 |k,[]=>(rdy es (List.range k)).isEmpty
 |k,o::r=>(decide (k<es.length)&&((es[k]?).getD []).all (fun e=>decide (e<k))) &&
  (let D := nR_ es k ((List.range (ops.length - (k + 1))).map (· + (k + 1))) []
   D.all (fun j=>decide (k<=j)&&((es[j]?).getD []).any (fun e=>Nat.beq e k||D.contains e))&&ok_ A ops k o D (k+1) r)&&qX_ A ops es (k+1) r
def oa_(A:Ann)(ops:List AOper)(es:List (List Nat)):Bool:=decide (es.length=ops.length)&&qX_ A ops es 0 ops
def WDR(P:Program)(A:Ann)(K:St->Prop):Nat->List AOper->St->Prop
 |_,[],S=>K S
 |k,o::r,S=>∃S',DGd P A k o S S'/\WDR P A K (k+1) r S'
theorem r0_{k:Nat}{oi:AOper}{D:List Nat}:∀(l:List AOper) (j:Nat),ok_ A ops k oi D j l=true->∀i o,l[i]?=some o->j+i∉D->tS_ A k (j+i) oi o=true
 |[],j,_,i,o,h,_=>by simp at h
 | x :: r, j, hb, i, o, h, hD => by
   simp only[ok_,zzg_,zzy_]at hb
   cases i with
   | zero =>
     simp at h
     subst h
     exact hb.1.resolve_left (by simpa using hD)
   | succ i =>
     have:=r0_ r (j+1) hb.2 i o (by simpa using h) (by rw[Nat.add_right_comm,Nat.add_assoc];exact hD)
     rw[Nat.add_right_comm,Nat.add_assoc]at this
     exact this
theorem q0_{K:St->Prop}(hlen:es.length=ops.length):∀(l:List AOper) (k:Nat) (S:St),(∀j,l[j]?=ops[k+j]?)->k+l.length=ops.length->qX_ A ops es k l=true->WDR P A K k l S->WND P A ops es K l.length (List.range k) S
 |[],k,S,_,_,hb,h=>⟨by simpa[qX_] using hb,h⟩
 | o :: l, k, S, hl, hn, hb, h => by
   have h0:ops[k]?=some o:=by simpa using(hl 0).symm
   simp only[qX_,zzg_,zzh_,List.any_eq_true,zzy_,zzp_,List.contains_eq_mem]at hb
   obtain⟨⟨⟨b1,b2⟩,b3,b4⟩,b5⟩:=hb
   obtain⟨S',g1,g2⟩:=h
   have ih:=q0_ hlen l (k+1) S' (fun j=>by have:=hl (j+1);simpa[Nat.add_assoc,Nat.add_comm 1 j] using this) (by simp at hn;omega) b5 g2
   refine q1_ h0 hlen (D:=nR_ es k ((List.range (ops.length-(k+1))).map (·+(k+1))) []) (fun j hj=>?_) l.length (List.range k) S S' ?_ (fun j hj=>?_) (fun j oj hoj hjk hjL hjD=>?_) g1 (va_ _ (fun x=>?_) ih)
   .obtain⟨e,he,hc⟩:=(b3 j hj).2
    exact⟨e,he,hc.imp (fun q=>yyq_ q) id⟩
   .exact w4_.2 ⟨b1,by simp,fun e he=>by simpa using b2 e he⟩
   .have:=(b3 j hj).1
    simp;exact this
   ·have hk:k+1≤j:=by
     have:¬j<k:=by simpa using hjL
     omega
    have:=r0_ l (k+1) b4 (j-(k+1)) oj (by rw[<-hoj];have:=hl (j-(k+1)+1);simp at this;rw[this];congr 1;omega) (by rw[Nat.add_sub_cancel' hk];exact hjD)
    rw[Nat.add_sub_cancel' hk]at this
    exact this
   .simp;omega
theorem l0_{K:St->Prop}{S:St}(A:Ann)(hb:oa_ A ops es=true)(h:WDR P A K 0 ops S):WN P ops es ops.length [] S K:=by
 simp only[oa_,zzg_,zzp_]at hb
 exact oF_ _ (q0_ hb.1 ops 0 S (by simp) (by simp) hb.2 h)
end
end
section
def zq_:ACode->Bool
 |.reg _ _ ops (some es) an=>decide (an.acs=[1000000])||oa_ an ops es
 |.seq a b=>zq_ a&&zq_ b
 |.cond _ x y=>zq_ x&&zq_ y
 |.block _ c=>zq_ c
 |.loop c=>zq_ c
 |.scope _ c r=>zq_ c&&zq_ r
 |_=>true
structure Wk(S S':St):Prop where
 tm:∀t,S'.tm t=S.tm t\/S'.tm t=.no
 vs:S'.vs.length=S.vs.length/\∀(i:Nat) (x:V),S'.vs[i]?=some x->S.vs[i]?=some x\/x=.no
 bx:∃n,S'.bx=S.bx.take n
 ptm:∀t p b o,(S'.tm t).sub p=some (.ptr b o)->b<S'.bx.length
 pat:∀l x p b o,S'.at l=some x->x.sub p=some (.ptr b o)->b<S'.bx.length
 nl:∀l x,S'.at l=some x->∀d e0 e z xs,x≠.lent d e0 e z xs
 ep:(S'.ep=S.ep/\S'.bx=S.bx/\S'.vs=S.vs)\/(∀t p x,(S'.tm t).sub p=some x->epOf x=0/\(∀l e,x≠.view l e)/\(∀l e lo n,x≠.sview l e lo n)/\(∀l e i q,x≠.vp l e i q)) \/
  (S'.ep=S.ep/\∀t p x,(S'.tm t).sub p=some x->(∀l e,x=.view l e->S'.at l=S.at l)/\(∀l e lo n,x≠.sview l e lo n)/\(∀l e i q,x≠.vp l e i q))
def W(P:Program)(F:Fr)(n:Nat):ACode->St->(AX->St->Prop)->Prop
 |.skip,S,Q=>Q .normal S
 |.reg _ pre ops es an,S,Q=>(pre.all (xK_ F)=true)/\(match xY_ pre S with|some S1=>(match es with|none=>WR P ops S1 (Q .normal)|some es'=>if an.acs=[1000000] then WN P ops es' ops.length [] S1 (Q .normal) else WDR P an (Q .normal) 0 ops S1)|none=>False)
 |.seq x y,S,Q=>W P F n x S fun e S'=>match e with|.normal=>W P F n y S' Q|e=>Q e S'
 | .cond c x y, S, Q => match z7_ S c with
   |.s (.bool b)=>if b then W P F n x S Q else W P F n y S Q
   |_=>False
 |.block id c,S,Q=>W P F n c S fun e S'=>match e with|.exit id'=>(if id'=id then Q .normal S' else Q (.exit id') S')|e=>Q e S'
 |.loop c,S,Q=>∃Inv:Nat->St->Prop,(∃m S',Wk S S'/\n<=S'.bx.length/\Inv m S')/\∀m S,n<=S.bx.length->Inv m S->W P F n c S fun e S'=>match e with|.normal=>∃m' S'',m'<m/\Wk S' S''/\n<=S''.bx.length/\Inv m' S''|e=>Q e S'
 |.exit id,S,Q=>Q (.exit id) S
 |.ret,S,Q=>Q .ret S
 |.label _,S,Q=>Q .normal S
 |.goto l,S,Q=>Q (.goto l) S
 |.scope l c r,S,Q=>W P F n c S fun e S'=>match e with|.goto l'=>l'=l/\W P F n r S' (fun e S''=>match e with|.goto _=>False|e=>Q e S'')|e=>Q e S'
section
variable{P:Program}{F:Fr}{g:Gh}{w:World}{S S':St}{a:Act}
theorem l1_(h:Rel F g w S a)(hk:Wk S S'):Rel F g w S' a/\Fw F g w S a g w S' a:=by
 obtain⟨n,hn⟩:=hk.bx
 have hat:∀l x,S'.at l=some x->S.at l=some x\/x=.no:=by
  intro l x hx
  cases l with
  |var i=>exact hk.vs.2 i x hx
  | cell b o =>
    left
    simp only[St.at,hn,zza_]at hx ⊢
    obtain⟨cs,h1,h2⟩:=hx
    rw[zzu_]at h1
    split at h1
    .exact⟨cs,h1,h2⟩
    .cases h1
 have hno:∀ {p:List Nat} {x:V},V.sub p .no=some x->x=.no:=by
  intro p x hs
  cases p<;>simp[V.sub]at hs
  exact hs.symm
 have hlen:S'.bx.length<=S.bx.length:=by rw[hn];simp;omega
 have hsub:∀t p x,(S'.tm t).sub p=some x->x=.no\/(S.tm t).sub p=some x:=by
  intro t p x hs
  rcases hk.tm t with q|q
  .rw[q]at hs;exact .inr hs
  .rw[q]at hs
   cases p with
   |nil=>simp[V.sub]at hs;exact .inl hs.symm
   |cons i p=>simp[V.sub]at hs
 have hhas:∀l x v,Has F g w S' a (.l l) x v->Has F g w S a (.l l) x v\/x=.no:=fun l x v hh=>(hat l x hh.1).imp (fun q=>⟨q,hh.2⟩) id
 have hown:∀r p k,Own F g w S' a r p k->Own F g w S a r p k:=by
  intro r p k ⟨x,v,hh,ho⟩
  cases r with
  | t t =>
    obtain⟨rfl,rfl⟩:=hh
    rcases ho with ⟨e,z,xs,u,q1,q2,q3⟩|⟨_,q,_⟩
    .rcases hsub t p _ q1 with q|q
     .cases q
     .exact⟨_,_,⟨rfl,rfl⟩,.inl ⟨e,z,xs,u,q,q2,q3⟩⟩
    .obtain⟨d,e,z,xs,q1,_⟩:=z4_ q
     rcases hsub t [] _ (by rw[q1];rfl) with q|q
     .cases q
     .exact absurd q (h.notl t [] d _ e z xs)
  | l l =>
    rcases ho with ho|⟨_,h2,_⟩
    .rcases hhas l x v hh with q|rfl
     .exact⟨x,v,q,.inl ho⟩
     .obtain⟨e,z,xs,u,q,_⟩:=ho
      cases hno q
    .obtain⟨d,e,z,xs,rfl,_⟩:=z4_ h2
     exact absurd rfl (hk.nl l _ hh.1 d _ e z xs)
 refine⟨⟨h.sz,h.dfr,?_,?_,?_,?_,?_,?_,?_,?_,?_,?_,?_,h.Ilt,?_,?_,?_,?_⟩,⟨rfl,rfl,rfl,zzl_ _,fun _ _ _=>⟨rfl,rfl⟩,fun k ho=>.inl ?_⟩⟩
 .intro r x v hh
  cases r with
  | t t =>
    obtain⟨rfl,rfl⟩:=hh
    rcases hk.tm t with q|q
    .rw[q];exact h.rep (.t t) _ _ ⟨rfl,rfl⟩
    .rw[q];exact .no
  | l l =>
    rcases hhas l x v hh with q|rfl
    .exact h.rep (.l l) x v q
    .exact .no
 .intro l x hx
  rcases hat l x hx with q|rfl
  .exact h.lookv l x q
  .cases l with
   | var i =>
     have hi:=(zzc_.1 (show S'.vs[i]?=some .no from hx)).1
     rw[hk.vs.1]at hi
     obtain⟨v,q,_⟩:=h.lookv (.var i) _ (zzf_ hi)
     exact⟨v,q,fun ⟨b,o,e⟩=>by cases e⟩
   | cell b o =>
     simp only[St.at,hn,zza_]at hx
     obtain⟨cs,h1,h2⟩:=hx
     rw[zzu_]at h1
     split at h1
     .exact h.lookv (.cell b o) .no (by simp[St.at,h1,h2])
     .cases h1
 .intro l d e z xs v hl hv
  exact absurd rfl (hk.nl l _ hl d _ e z xs)
 .intro b cs hb
  rw[hn,zzu_]at hb
  split at hb
  .exact h.box b cs hb
  .cases hb
 .exact fun b b' hb hb' he=>h.inj b b' (by omega) (by omega) he
 .intro r x v p b o hh hs
  cases r with
  |t t=>obtain⟨rfl,rfl⟩:=hh;exact hk.ptm t p b o hs
  |l l=>exact hk.pat l x p b o hh.1 hs
 .intro r p k ho
  obtain⟨q1,q2,q3⟩:=h.ownI r p k (hown r p k ho)
  exact⟨q1,q2,fun b hb=>q3 b (by omega)⟩
 .exact fun r p r' p' k h1 h2=>h.uniq r p r' p' k (hown r p k h1) (hown r' p' k h2)
 .intro t p x v hx hv
  rcases hk.ep with ⟨he,hbx,hvs⟩|he|⟨he,hw⟩
  .rcases hsub t p x hx with rfl|hx'
   .trivial
   .have h0:=h.link t p x v hx' hv
    have hat2:∀l,S'.at l=S.at l:=fun l=>by
     cases l with
     |var i=>simp only[St.at,hvs]
     |cell b o=>simp only[St.at,hbx]
    cases x<;>simp only[Link,St.row,St.locky,hat2,he]at h0 ⊢<;>exact h0
  .obtain⟨_,q1,q2,q3⟩:=he t p x hx
   cases x<;>first|trivial|exact absurd rfl (q1 _ _)|exact absurd rfl (q2 _ _ _ _)|exact absurd rfl (q3 _ _ _ _)
  .obtain⟨q1,q2,q3⟩:=hw t p x hx
   rcases hsub t p x hx with rfl|hx'
   .trivial
   .have h0:=h.link t p x v hx' hv
    cases x<;>first|trivial|exact absurd rfl (q2 _ _ _ _)|exact absurd rfl (q3 _ _ _ _)|skip
    have hat2:=q1 _ _ rfl
    simp only[Link,St.row,St.locky,hat2,he]at h0 ⊢
    exact h0
 .intro l x hl p
  rcases hat l x hl with q|rfl
  .exact h.novw l x q p
  .exact⟨fun _ _ q=>(by cases hno q),fun _ _ _ _ q=>(by cases hno q),fun _ _ _ _ q=>(by cases hno q),fun _ q=>(by cases hno q)⟩
 .intro t p d e0 e z xs hs
  rcases hsub t p _ hs with q|q
  .cases q
  .exact h.notl t p d e0 e z xs q
 .intro t ht
  rcases hk.tm t with q|q
  .rw[q];exact h.tmv t ht
  .exact q
 .intro t p x hx
  rcases hk.ep with ⟨he,_⟩|he|⟨he,_⟩
  .rw[he]
   rcases hsub t p x hx with rfl|q
   .exact zzn_ _
   .exact h.ept t p x q
  .rw[(he t p x hx).1];exact zzn_ _
  .rw[he]
   rcases hsub t p x hx with rfl|q
   .exact zzn_ _
   .exact h.ept t p x q
 .intro l x hx
  rcases hat l x hx with q|rfl
  case inr=>exact zzn_ _
  have hn:=h.novw l x q []
  have hnl:=hk.nl l x hx
  cases x<;>first|exact zzn_ _|exact absurd rfl (hnl _ _ _ _ _)|exact absurd rfl (hn.1 _ _)|exact absurd rfl (hn.2.1 _ _ _ _)|exact absurd rfl (hn.2.2.1 _ _ _ _)
 .intro l d e z xs v k hl
  exact absurd rfl (hk.nl l _ hl d _ e z xs)
 .rcases ho with ⟨r,p,ho⟩|⟨b,hb,e⟩
  .exact .inl ⟨r,p,hown r p k ho⟩
  .exact .inr ⟨b,by omega,e⟩
structure Rch(F:Fr)(n:Nat)(g0:Gh)(w0:World)(S0:St)(a0:Act)(g:Gh)(w:World)(S:St)(a:Act):Prop where
 rel:Rel F g w S a
 fw:Fw F g0 w0 S0 a0 g w S a
 len:n<=S.bx.length
 phi:∀b,b<n->g.φ b=g0.φ b
theorem vr_{S S':St}{l:Loc}{y:V}(h:S.place l y=some S'):S'.bx.length=S.bx.length:=by
 obtain⟨_,_,_,_,_,hl,_⟩:=yi_ h
 exact hl
theorem u3_:∀(ys:List V) {S S':St} {b o:Nat},S.places b o ys=some S'->S'.bx.length=S.bx.length
 |[],S,S',b,o,h=>by simp[St.places]at h;rw[h]
 | y :: r, S, S', b, o, h => by
   simp only[St.places,zza_]at h
   obtain⟨S1,h1,h2⟩:=h
   rw[u3_ r h2,vr_ h1]
theorem pD_{S S':St}{d:Dst}{op:AOp}(h:step S d op=some S'):S.bx.length<=S'.bx.length:=by
 by_cases hq:(yB_ op=false/\isSt op=false)/\(∀zs,op≠.allo zs)/\(∀n x,op≠.box n x)
 .obtain⟨_,_,_,_,_,rfl⟩:=zt_ hq.1 hq.2 h
  exact zzl_ _
 .cases op<;>first|(simp[yB_,isSt]at hq;done)|skip
  .simp only[step]at h
   split at h
   .obtain⟨r,h1,h2⟩:=zza_.1 h
    rw[vr_ h2];exact zzl_ _
   .cases h
  .simp only[step]at h
   split at h
   .cases h;simp
   .cases h
  .simp only[step]at h
   split at h
   .obtain⟨r,h1,h2⟩:=zza_.1 h
    split at h2
    .cases h2;simp
    .cases h2
   .cases h
  .simp only[step,stV]at h
   obtain⟨r,h1,h2⟩:=zza_.1 h
   split at h2
   .split at h2
    .split at h2
     .rw[u3_ _ h2];exact zzl_ _
     .cases h2
    .split at h2
     .split at h2
      .split at h2
       .split at h2
        .cases h2
        .obtain⟨y,_,h4⟩:=zza_.1 h2
         obtain⟨S1,h3,rfl⟩:=zzb_.1 h4
         rw[qq_,vr_ h3];exact zzl_ _
       .cases h2
      .cases h2
     .cases h2
    .cases h2
   .cases h2
variable{n:Nat}{g0:Gh}{w0:World}{S0:St}{a0:Act}
theorem Rch.step(h:Rch F n g0 w0 S0 a0 g w S a){a':Act}{w':World}(he:Ends F g w S a S' a' w')(hl:S.bx.length<=S'.bx.length):∃g',Rch F n g0 w0 S0 a0 g' w' S' a':=by
 obtain⟨g',h1,h2,h3⟩:=he
 exact⟨g',h1,h.fw.trans h2,yyd_ h.len hl,fun b hb=>(h3 b (zzk_ hb h.len)).trans (h.phi b hb)⟩
theorem comp_call{o : Op}{f : Nat}{args : List Opd}(h : compOp P F o = some (.call f args)) : ∃ c fn, o = .call c ∧ c.callee = .value (.func f) ∧ opds F c.args.toList = some args ∧ P.funcs[f]? = some fn ∧ fn.body.isSome = true ∧ (fn.name == "runtime.NumGoroutine") = false := by
 unfold compOp at h
 cases o with
 | call c =>
   simp only at h
   cases hc:c.callee with
   | value x =>
     rw[hc]at h
     cases x with
     | func f' =>
       simp only[zza_]at h
       obtain⟨xs,h1,h2⟩:=h
       split at h2
       .next fn hfn =>
        split at h2
        .next hb=>cases h2;exact⟨c,fn,rfl,hc,h1,hfn,hb.1,hb.2⟩
        .cases h2
       .cases h2
     | tmp t =>
       exfalso
       simp only[zza_]at h
       obtain⟨xs,_,h2⟩:=h
       split at h2<;>cases h2
     |_=>cases h
   | builtin b =>
     rw[hc]at h
     exfalso
     cases b<;>simp only at h
     all_goals first
      |cases h;done
      |skip
     all_goals
      repeat' (first|(simp only[zza_,zzb_]at h)|(obtain⟨_,_,h⟩:=h)|(split at h)|(cases h;done))
   |_=>rw[hc]at h;cases h
 | makeFunc fn first caps =>
   exfalso
   cases fn<;>simp only at h<;>try (cases h;done)
   split at h
   .obtain⟨_,_,h⟩:=zzb_.1 h;cases h
   .cases h
 | _ =>
   exfalso
   simp only at h
   repeat' (first|(simp only[zza_,zzb_]at h)|(obtain⟨_,_,h⟩:=h)|(split at h)|(cases h;done)|(exact Op.noConfusion ‹_=Op.call _›))
theorem op_{o:Op}{ne:Bool}{x:Opd}(h:compOp P F o=some (.isn ne x)):∃t t' x' y' e,o=.binOp (if ne then .neq else .eql) t x' y' t'/\P.underlying t=some (.slice e)/\opd F x'=some x/\opd F y'=some (.c (.slice none 0 0)):=by
 unfold compOp at h
 cases o with
 | binOp op t x' y' t' =>
   simp only[zza_]at h
   obtain⟨p,hp,q,hq,h⟩:=h
   split at h<;>first|(cases h;done)|skip
   .split at h
    .split at h
     .obtain⟨_,_,h⟩:=zzb_.1 h;cases h
     .cases h
    .split at h
     .obtain⟨_,_,h⟩:=zzb_.1 h;cases h
     .cases h
    .cases h
   .next e he =>
    split at h
    .cases h;exact⟨t,t',x',y',e,rfl,he,hp,hq⟩
    .cases h;exact⟨t,t',x',y',e,rfl,he,hp,hq⟩
    .cases h
 | call c =>
   exfalso
   simp only at h
   cases hc:c.callee with
   | value x =>
     rw[hc]at h
     cases x<;>simp only at h<;>first|(cases h;done)|skip
     all_goals
      simp only[zza_]at h
      obtain⟨xs,h1,h2⟩:=h
     .split at h2<;>cases h2
     .split at h2
      .split at h2<;>cases h2
      .cases h2
   | builtin b =>
     rw[hc]at h
     cases b<;>simp only at h
     all_goals first
      |cases h;done
      |skip
     all_goals
      repeat' (first|(simp only[zza_,zzb_]at h)|(obtain⟨_,_,h⟩:=h)|(split at h)|(cases h;done))
   |_=>rw[hc]at h;cases h
 | makeFunc fn first caps =>
   exfalso
   cases fn<;>simp only at h<;>try (cases h;done)
   split at h
   .obtain⟨_,_,h⟩:=zzb_.1 h;cases h
   .cases h
 | extract x' i =>
   exfalso
   cases x'<;>simp only at h<;>first|(cases h;done)|(split at h<;>cases h)
 | _ =>
   exfalso
   simp only at h
   repeat' (first|(simp only[zza_,zzb_]at h)|(obtain⟨_,_,h⟩:=h)|(split at h)|(cases h;done))
theorem rR_{o:Op}{t:Nat}{args:List Opd}(h:compOp P F o=some (.callv t args)):∃c,o=.call c/\c.callee=.value (.tmp t)/\opds F c.args.toList=some args/\t∉F.sv:=by
 unfold compOp at h
 cases o with
 | call c =>
   simp only at h
   cases hc:c.callee with
   | value x =>
     rw[hc]at h
     cases x with
     | func f' =>
       simp only[zza_]at h
       obtain⟨xs,h1,h2⟩:=h
       split at h2
       .split at h2<;>cases h2
       .cases h2
     | tmp t' =>
       simp only[zza_]at h
       obtain⟨xs,h1,h2⟩:=h
       split at h2
       .cases h2
       .next hn=>cases h2;exact⟨c,rfl,hc,h1,fun q=>hn (by simpa using q)⟩
     |_=>cases h
   | builtin b =>
     rw[hc]at h
     exfalso
     cases b<;>simp only at h
     all_goals first
      |cases h;done
      |skip
     all_goals
      repeat' (first|(simp only[zza_,zzb_]at h)|(obtain⟨_,_,h⟩:=h)|(split at h)|(cases h;done))
   |_=>rw[hc]at h;cases h
 | makeFunc fn first caps =>
   exfalso
   cases fn<;>simp only at h<;>try (cases h;done)
   split at h
   .obtain⟨_,_,h⟩:=zzb_.1 h;cases h
   .cases h
 | _ =>
   exfalso
   simp only at h
   repeat' (first|(simp only[zza_,zzb_]at h)|(obtain⟨_,_,h⟩:=h)|(split at h)|(cases h;done)|(exact Op.noConfusion ‹_=Op.call _›))
theorem callable_iff{f : Nat}(h : callable P f = true) : ∃ fn c, P.funcs[f]? = some fn ∧ fn.body = some c ∧ fn.name ≠ "runtime.NumGoroutine" := by
 unfold callable at h
 split at h
 .next fn hf =>
  simp only[zzg_,yyh_,beq_eq_false_iff_ne]at h
  obtain⟨c,hc⟩:=Option.isSome_iff_exists.1 h.1
  exact⟨fn,c,hf,hc,h.2⟩
 .cases h
theorem m0_(hF:F.ok)(h:Rch F n g0 w0 S0 a0 g w S a){ops:Array Oper}{o:Oper}{ao:AOper}(hc:xs_ P F ops o=some ao){K:St->Prop}(hw:WO P ao S K){next:Act->World->Prop}{Q:Exit->Act->World->Prop}(hn:∀S' g' w' a',K S'->Rch F n g0 w0 S0 a0 g' w' S' a'->next a' w'):o.wp P a w next Q:=by
 unfold xs_ at hc
 simp only[zza_]at hc
 obtain⟨op,hop,d,hd,hc⟩:=hc
 have hao:ao.dst=d/\ao.op=op:=by
  split at hc
  .cases hc;exact⟨rfl,rfl⟩
  .obtain⟨t,_,hc⟩:=zza_.1 hc
   split at hc
   .cases hc
   .cases hc;exact⟨rfl,rfl⟩
 unfold WO at hw
 rw[hao.1,hao.2]at hw
 by_cases hcall:∃f args,op=.call f args
 .obtain⟨f,args,rfl⟩:=hcall
  simp only at hw
  unfold oC_ at hw
  obtain⟨d',rfl,hw⟩:=hw
  obtain⟨e1,e2,e3⟩:=zY_ hd
  -- the operation is a call
  obtain⟨c,fn,ho,hcc,hxs,hfn,hbody,hname⟩:=comp_call hop
  unfold Oper.wp
  have hrun:(execOp a.eval o).run P w=.ok (.enter f (c.args.map a.eval)) w:=by
   obtain⟨bc,hbc⟩:=Option.isSome_iff_exists.1 hbody
   have hname' : fn.name ≠ "runtime.NumGoroutine" := by simpa using hname
   simp[execOp,ho,resolve,hcc,Deferred.ofValue,invoke,callFunc,hfn,hbc,hname',Act.eval]
  rw[hrun]
  rcases hw with ⟨ys,tm1,hk,him,q,hpc,hK⟩|⟨ys,hk,q,hpc,hK⟩|⟨ys,tm1,hk,mask,sel,args',bs,Q',hho,hac,hK⟩|⟨q,hmc,hK⟩
  .refine(nS_ h.rel hxs e2 e3 hk him hpc).mono ?_
   rintro e w' ⟨v,r,rfl,hq,hends⟩
   obtain⟨g',hr⟩:=h.step hends (zzl_ _)
   rw[e1]
   exact hn _ _ _ _ (hK r hq) hr
  .refine(or_ h.rel hxs e2 e3 hk hpc).mono ?_
   rintro e w' ⟨v,r,rfl,hq,hends⟩
   obtain⟨g',hr⟩:=h.step hends (zzl_ _)
   rw[e1]
   exact hn _ _ _ _ (hK r hq).2 hr
  .refine(ou_ h.rel hxs e2 e3 hk hho hac (fun r bs' hq=>(hK r bs' hq).1)).mono ?_
   rintro e w' ⟨v,r,bs',rfl,hq,hends⟩
   obtain⟨g',hr⟩:=h.step hends (by show _<=(xl_ _ _ _).length;rw[yZ_];exact Nat.le_add_right _ _)
   rw[e1]
   exact hn _ _ _ _ (hK r bs' hq).2 hr
  .refine(hmc _ _ _ _ _ _ h.rel hxs e2 e3).mono ?_
   rintro e w' ⟨v,r,rfl,hq,hends⟩
   obtain⟨g',hr⟩:=h.step hends (zzl_ _)
   rw[e1]
   exact hn _ _ _ _ (hK r hq) hr
 by_cases hcallv:∃t args,op=.callv t args
 .obtain⟨t,args,rfl⟩:=hcallv
  simp only at hw
  obtain⟨d',b,f,rfl,hfn,hcl,ys,tm1,hk,mask,sel,args',bs,Q',hho,hac,hK⟩:=hw
  obtain⟨e1,e2,e3⟩:=zY_ hd
  obtain⟨c,ho,hcc,hxs,htv⟩:=rR_ hop
  obtain⟨fn,bc,hf1,hf2,hf3⟩:=callable_iff hcl
  have hrt:=h.rel.rep (.t t) _ _ ⟨rfl,rfl⟩
  have hbl:=h.rel.ptr (.t t) _ _ [] b (1000000000+f) ⟨rfl,rfl⟩ (by rw[hfn];rfl)
  rw[hfn]at hrt
  have hval:a.eval (.tmp t)=.func (.func f) #[] #[.pointer (some ⟨g.φ b,0,none⟩)]:=by
   rw[<-qv_]
   show Act.tv a t=_
   generalize Act.tv a t=u at hrt
   cases hrt
   rfl
  have ht:=Tooks.snoc (v1_ h.rel c.args.toList args S.tm tm1 ys hxs (fun t=>Less.refl _) (fun _ _=>rfl) hk) hbl
  unfold Oper.wp
  have hrun:(execOp a.eval o).run P w=.ok (.enter f (c.args.toList.map a.eval++[Value.pointer (some ⟨g.φ b,0,none⟩)]).toArray) w:=by
   simp[execOp,ho,resolve,hcc,hval,Deferred.ofValue,invoke,callFunc,hf1,hf2,hf3]
   apply Array.toList_inj.1
   simp
  rw[hrun]
  refine(rc_ h.rel e2 e3 ht hho hac (fun r bs' hq=>(hK r bs' hq).1)).mono ?_
  rintro e w' ⟨v,r,bs',rfl,hq,hends⟩
  obtain⟨g',hr⟩:=h.step hends (by show _<=(xl_ _ _ _).length;rw[yZ_];exact Nat.le_add_right _ _)
  rw[e1]
  exact hn _ _ _ _ (hK r bs' hq).2 hr
 by_cases hisn:∃ne x,op=.isn ne x
 .obtain⟨ne,x,rfl⟩:=hisn
  simp only at hw
  split at hw
  .next d' r hr =>
   obtain⟨e1,e2,e3⟩:=zY_ hd
   obtain⟨t,t',x',y',e,ho,hs,hx,hy⟩:=op_ hop
   obtain⟨b,hb,v,w',hrun,he⟩:=lc_ h.rel ho hs hx hy e2 e3 hr
   obtain⟨g',hr'⟩:=h.step he (zzl_ _)
   unfold Oper.wp
   rw[hrun]
   show next (a.put o.dst v) w'
   rw[e1]
   exact hn _ _ _ _ (hw b hb) hr'
  .exact hw.elim
 ·have hw':(match step S d op with|some S'=>K S'|none=>False):=by
   cases op<;>first|exact hw|exact absurd ⟨_,_,rfl⟩ hcall|exact absurd ⟨_,_,rfl⟩ hcallv|exact absurd ⟨_,_,rfl⟩ hisn
  split at hw'
  .next S' hs =>
   obtain⟨r,v,w',hrun,hrv,he⟩:=nd_ h.rel hF hop hd hs
   obtain⟨g',hr⟩:=h.step he (pD_ hs)
   unfold Oper.wp
   rw[hrun]
   rcases hrv with rfl|⟨rfl,rfl⟩
   .exact hn _ _ _ _ hw' hr
   .exact hn _ _ _ _ hw' hr
  .exact hw'.elim
end
end
section
section
variable{P:Program}{F:Fr}{g:Gh}{w:World}{S S':St}{a:Act}{n:Nat}{g0:Gh}{w0:World}{S0:St}{a0:Act}
theorem rQ_{ops:Array Oper}{o:Oper}{ao:AOper}(hc:xs_ P F ops o=some ao):(o.guard=none/\ao.guard=none\/∃j want t oj,o.guard=some (j,want)/\ops[j]?=some oj/\oj.dst=some t/\ao.guard=some (t,want))/\∃op,compOp P F o.op=some op/\xt_ F o.dst op=some ao.dst/\ao.op=op:=by
 unfold xs_ at hc
 simp only[zza_]at hc
 obtain⟨op,hop,d,hd,hc⟩:=hc
 split at hc
 .next hg=>cases hc;exact⟨.inl ⟨hg,rfl⟩,op,hop,hd,rfl⟩
 .next j want hg =>
  simp only[zza_]at hc
  obtain⟨t,⟨oj,h1,h2⟩,hc⟩:=hc
  split at hc
  .cases hc
  .cases hc;exact⟨.inr ⟨j,want,t,oj,hg,h1,h2,rfl⟩,op,hop,hd,rfl⟩
theorem n9_(h:Rel F g w S a){t:Nat}{b:Bool}(ht:S.tm t=.s (.bool b)):a.tmps[t]?=some (.bool b):=by
 have:=(h.rep (.t t) _ _ ⟨rfl,rfl⟩).of_s ht
 simp only[Act.tv,Array.getD_eq_getD_getElem?]at this
 cases hq:a.tmps[t]? with
 |none=>rw[hq]at this;cases this
 |some v=>rw[hq]at this;simp at this;rw[this]
theorem m2_(hF:F.ok)(h:Rch F n g0 w0 S0 a0 g w S a){ops:Array Oper}{o:Oper}{ao:AOper}(hc:xs_ P F ops o=some ao){K:St->Prop}(hw:WG P ao S K){next:Act->World->Prop}{Q:Exit->Act->World->Prop}(hn:∀S' g' w' a',K S'->Rch F n g0 w0 S0 a0 g' w' S' a'->next a' w') :
 if Region.wanted o (yielded ops a.tmps) then o.wp P a w next Q\/(o.asks P a w/\LetsOut Q) else next (a.put o.dst undef) w:=by
 obtain⟨hg,op,hop,hd,hop'⟩:=rQ_ hc
 unfold WG at hw
 rcases hg with ⟨hg,hg'⟩|⟨j,want,t,oj,hg,hj,hjd,hg'⟩
 .rw[hg']at hw
  have:Region.wanted o (yielded ops a.tmps)=true:=by simp[Region.wanted,hg]
  rw[if_pos this]
  exact .inl (m0_ hF h hc hw hn)
 .rw[hg']at hw
  simp only at hw
  have hwt:∀go,gB (S.tm t) want=some go->Region.wanted o (yielded ops a.tmps)=go:=by
   intro go hgo
   have key:(∃b,S.tm t=.s (.bool b)/\go=(b==want))\/(S.tm t=.tup []/\go=false):=by
    generalize S.tm t=x at hgo
    unfold gB at hgo
    split at hgo
    .cases hgo;exact .inl ⟨_,rfl,rfl⟩
    .cases hgo;exact .inr ⟨rfl,rfl⟩
    .cases hgo
   rcases key with ⟨b,hb,rfl⟩|⟨hb,rfl⟩
   ·have hy:yielded ops a.tmps j=some b:=by
     unfold yielded
     simp[hj,hjd,n9_ h.rel hb]
    simp[Region.wanted,hg,hy]
   .have hr:=h.rel.rep (.t t) _ _ ⟨rfl,rfl⟩
    rw[hb]at hr
    have hy:yielded ops a.tmps j=none:=by
     unfold yielded
     simp only[hj,hjd,zzt_]
     simp only[Act.tv,Array.getD_eq_getD_getElem?]at hr
     cases hq:a.tmps[t]? with
     |none=>rfl
     |some v=>rw[hq]at hr;simp only[Option.getD_some]at hr;cases hr;rfl
    simp[Region.wanted,hg,hy]
  split at hw
  .next hgo =>
   rw[hwt _ hgo]
   exact .inl (m0_ hF h hc hw hn)
  ·next hgo =>
    rw[hwt _ hgo]
    simp only[yyi_,if_false]
    split at hw
    .next S' hs =>
     unfold wC_ at hs
     split at hs
     .next d hd' =>
      cases hs
      rw[hd']at hd
      obtain⟨e1,e2,e3⟩:=zY_ hd
      rw[e1]
      have hsub:∀p x,(V.tup []).sub p=some x->x=.tup []:=by
       intro p x hs
       cases p<;>simp[V.sub]at hs
       exact hs.symm
      have he:Ends F g w S a { S with tm:=upd S.tm d (.tup []) } (a.put (some d) undef) w:=wt_ h.rel e2 e3 (.tup rfl (by simp)) (by simp) (fun p e z xs hs=>by cases hsub p _ hs) (fun p b o hs=>by cases hsub p _ hs) (fun p d e0 e z xs hs=>by cases hsub p _ hs) (fun p x hs=>by rw[hsub p x hs];exact zzn_ _) (fun p x u hs _=>by rw[hsub p x hs];trivial)
      obtain⟨g',hr⟩:=h.step he (zzl_ _)
      exact hn _ _ _ _ hw hr
     .cases hs
    .exact hw.elim
  .exact hw.elim
theorem nZ_(hF:F.ok){ops:Array Oper}{Q:Exit->Act->World->Prop}:∀(l:List Oper) (al:List AOper),yl_ P F ops l=some al->∀ {S:St} {g:Gh} {w:World} {a:Act} {K:St->Prop},Rch F n g0 w0 S0 a0 g w S a->WR P al S K->(∀S' g' w' a',K S'->Rch F n g0 w0 S0 a0 g' w' S' a'->Q .normal a' w')->wpList P ops Q l a w
 | [], al, hc, S, g, w, a, K, h, hw, hn => by
   simp[yl_]at hc
   subst hc
   exact hn _ _ _ _ hw h
 | o :: r, al, hc, S, g, w, a, K, h, hw, hn => by
   simp only[yl_,zza_]at hc
   obtain⟨ao,h1,al',h2,h3⟩:=hc
   cases h3
   exact m2_ hF h h1 hw fun S' g' w' a' hK hr=>nZ_ hF r al' h2 hr hK hn
theorem uF_{ops:Array Oper}:∀ {l:List Oper} {al:List AOper},yl_ P F ops l=some al->al.length=l.length/\∀(i:Nat) (o:Oper),l[i]?=some o->∃ao,al[i]?=some ao/\xs_ P F ops o=some ao
 |[],al,h=>by simp[yl_]at h;subst h;simp
 | o :: r, al, h => by
   simp only[yl_,zza_]at h
   obtain⟨ao,h1,al',h2,h3⟩:=h
   cases h3
   obtain⟨q1,q2⟩:=uF_ h2
   refine⟨by simp[q1],fun i o' hi=>?_⟩
   cases i with
   |zero=>simp at hi;subst hi;exact⟨ao,rfl,h1⟩
   |succ i=>simp at hi;obtain⟨ao',q3,q4⟩:=q2 i o' hi;exact⟨ao',by simpa using q3,q4⟩
theorem vh_{ops:Array Oper}{listed:Array Bool}{L:List Nat}(hs:listed.size=ops.size)(hL:∀i,listed.getD i false=L.contains i):Region.ready .any ops listed=rdy (tH_ ops.toList) L:=by
 unfold Region.ready rdy
 have:(tH_ ops.toList).length=ops.size:=by simp[tH_]
 rw[this]
 refine List.filter_congr fun i hi=>?_
 have hi':i<ops.size:=List.mem_range.1 hi
 have e1:listed.getD i true=L.contains i:=by
  rw[<-hL i]
  have:i<listed.size:=by omega
  simp[this]
 rw[e1]
 congr 1
 have e2:(tH_ ops.toList)[i]?=some ((ops[i].after.toList.filterMap fun e=>if Region.binds .any e then some e.on else none)):=by
  simp[tH_,hi']
 rw[e2]
 simp only[Array.getElem?_eq_getElem hi',zzz_,Option.getD_some]
 rw[<-Array.all_toList]
 generalize ops[i].after.toList=l
 induction l with
 |nil=>rfl
 | cons e r ih =>
   rw[List.all_cons,ih,hL]
   by_cases hb:Region.binds .any e=true
   .rw[List.filterMap_cons_some (b:=e.on) (by simp[hb]),List.all_cons];simp[hb]
   .rw[List.filterMap_cons_none (by simp[hb])];simp[hb]
theorem m1_(hF:F.ok){ops:Array Oper}{al:List AOper}{Q:Exit->Act->World->Prop}(hc:yl_ P F ops ops.toList=some al){K:St->Prop}(hn:∀S' g' w' a',K S'->Rch F n g0 w0 S0 a0 g' w' S' a'->Q .normal a' w') :
 ∀(f:Nat) (L:List Nat) (listed:Array Bool) {S:St} {g:Gh} {w:World} {a:Act},listed.size=ops.size->(∀i,listed.getD i false=L.contains i)->Rch F n g0 w0 S0 a0 g w S a->WN P al (tH_ ops.toList) f L S K->wpAny P .any ops Q f listed a w
 |0,L,listed,S,g,w,a,hs,hL,h,hw=>⟨by rw[vh_ hs hL];exact hw.1,hn _ _ _ _ hw.2 h⟩
 | f + 1, L, listed, S, g, w, a, hs, hL, h, hw => by
   refine⟨fun h0=>hn _ _ _ _ (hw.1 (by rw[<-vh_ hs hL];exact h0)) h,fun i hi=>?_⟩
   rw[vh_ hs hL]at hi
   unfold wpOp
   split
   .next hno =>
    exfalso
    have h1:=(List.mem_filter.1 hi).1
    have h2:i<ops.size:=by have:=List.mem_range.1 h1;simpa[tH_] using this
    simp[h2]at hno
   .next o ho =>
    obtain⟨ao,h1,h2⟩:=(uF_ hc).2 i o (by simpa using ho)
    have hlt:i<listed.size:=by rw[hs];exact(zzm_.1 ho).1
    exact m2_ hF h h2 (hw.2 i hi ao h1) fun S' g' w' a' hK hr=>m1_ hF hc hn f (i::L) _ (by simpa using hs) (fun j=>by
     by_cases hj:i=j
     .subst hj;simp[hlt]
     .have:=hL j
      rw[getD_set_ne false hj,this]
      simp[Ne.symm hj]) hr hK
theorem Rel.drawn(h:Rel F g w S a)(d:Nat):Rel F g { w with drawn:=d } S a :=
 h.grow (fun _ _ h=>⟨h,rfl⟩) (fun _ _=>rfl) (fun b hb=>by
  refine⟨rfl,?_⟩
  obtain⟨_,_,_,_,q⟩:=h.box b _ (zzf_ hb)
  exact q) (fun r p k ho=>⟨rfl,(h.ownI r p k ho).1⟩) (fun l d' e z xs v hl hv=>(h.lentr l d' e z xs v hl hv).1.keep (fun _ _ h=>⟨h,rfl⟩) (fun _ _ _=>rfl) (fun _ _ _ _=>rfl)) (zzl_ _) h.Ilt
end
end
section
def AX.ex:AX->Exit
 |.normal=>.normal
 |.exit id=>.exit id
 |.ret=>.ret
 |.goto l=>.goto l
section
variable{P:Program}{F:Fr}{n:Nat}{g0:Gh}{w0:World}{S0:St}{a0:Act}
theorem Rch.less{g:Gh}{w:World}{S S':St}{a:Act}(h:Rch F n g0 w0 S0 a0 g w S a)(hk:Wk S S')(hl:n<=S'.bx.length):Rch F n g0 w0 S0 a0 g w S' a:=by
 obtain⟨h1,h2⟩:=l1_ h.rel hk
 exact⟨h1,h.fw.trans h2,hl,h.phi⟩
theorem n4_{P:Program}{A:Ann}{ops:List AOper}{es:List (List Nat)}{K:St->Prop}{S:St}(hl:(decide (A.acs=[1000000])||oa_ A ops es)=true)(hw:if A.acs=[1000000] then WN P ops es ops.length [] S K else WDR P A K 0 ops S):WN P ops es ops.length [] S K:=by
 split at hw
 .exact hw
 .next h=>exact l0_ A (by simpa[h] using hl) hw
theorem w_ok(hF:F.ok)(hm:P.follows .mixedOrders=true):∀(ac:ACode) (c:Code),comp P F c=some (zs_ ac)->zq_ ac=true->∀ {S:St} {g:Gh} {w:World} {a:Act} {Q:AX->St->Prop} {R:Exit->Act->World->Prop},Rch F n g0 w0 S0 a0 g w S a->W P F n ac S Q->(∀x S' g' w' a',Q x S'->Rch F n g0 w0 S0 a0 g' w' S' a'->R x.ex a' w')->c.wp P R a w:=by
 intro ac
 induction ac with
 | skip =>
   intro c hc hla S g w a Q R h hw hn
   cases c with
   |skip=>exact wp_skip (hn .normal _ _ _ _ hw h)
   | _ =>
     exfalso
     simp only[comp,zs_]at hc
     repeat' (first|(simp only[zza_,zzb_]at hc)|(obtain⟨_,_,hc⟩:=hc)|(cases hc;done))
 | exit id =>
   intro c hc hla S g w a Q R h hw hn
   cases c with
   | exit id' =>
     simp only[comp,zs_,yya_,ACode.exit.injEq]at hc
     subst hc
     exact wp_exit (hn (.exit _) _ _ _ _ hw h)
   | _ =>
     exfalso
     simp only[comp,zs_]at hc
     repeat' (first|(simp only[zza_,zzb_]at hc)|(obtain⟨_,_,hc⟩:=hc)|(cases hc;done))
 | ret =>
   intro c hc hla S g w a Q R h hw hn
   cases c with
   |ret=>exact wp_ret (hn .ret _ _ _ _ hw h)
   | _ =>
     exfalso
     simp only[comp,zs_]at hc
     repeat' (first|(simp only[zza_,zzb_]at hc)|(obtain⟨_,_,hc⟩:=hc)|(cases hc;done))
 | label l =>
   intro c hc hla S g w a Q R h hw hn
   cases c with
   |label l'=>exact wp_label (hn .normal _ _ _ _ hw h)
   | _ =>
     exfalso
     simp only[comp,zs_]at hc
     repeat' (first|(simp only[zza_,zzb_]at hc)|(obtain⟨_,_,hc⟩:=hc)|(cases hc;done))
 | goto l =>
   intro c hc hla S g w a Q R h hw hn
   cases c with
   | goto l' =>
     simp only[comp,zs_,yya_,ACode.goto.injEq]at hc
     subst hc
     exact wp_goto (hn (.goto _) _ _ _ _ hw h)
   | _ =>
     exfalso
     simp only[comp,zs_]at hc
     repeat' (first|(simp only[zza_,zzb_]at hc)|(obtain⟨_,_,hc⟩:=hc)|(cases hc;done))
 | reg id' pre ops' es an =>
   intro c hc hla S g w a Q R h hw hn
   cases c with
   | region id ops draw =>
     simp only[comp,zzb_,zs_]at hc
     obtain⟨al,hal,hc⟩:=hc
     simp only[ACode.reg.injEq,true_and,and_true]at hc
     obtain⟨rfl,rfl,rfl⟩:=hc
     simp only[W]at hw
     obtain⟨hpre,hw⟩:=hw
     split at hw
     .next S1 hgs =>
      obtain⟨g1,k1,k2,k3,k4⟩:=tz_ pre h.rel (fun x hx=>zzh_.1 hpre x hx) hgs
      have h1:Rch F n g0 w0 S0 a0 g1 w S1 a:=⟨k1,h.fw.trans k2,by rw[k4];exact h.len,fun b hb=>by rw[k3];exact h.phi b hb⟩
      cases draw with
      | false =>
        simp only[yyi_,if_false]at hw
        exact wp_region_list (nZ_ hF ops.toList _ hal h1 hw fun S' g' w' a' hK hr=>hn .normal _ _ _ _ hK hr)
      | true =>
        simp only[if_true]at hw
        have h2:Rch F n g0 w0 S0 a0 g1 { w with drawn:=w.drawn+1 } S1 a:=⟨h1.rel.drawn _,h1.fw.trans ⟨rfl,rfl,rfl,zzl_ _,fun _ _ _=>⟨rfl,rfl⟩,fun k ho=>.inl ho⟩,h1.len,h1.phi⟩
        have hlen:=(uF_ hal).1
        refine wp_region_any hm (m1_ hF hal (fun S' g' w' a' hK hr=>hn .normal _ _ _ _ hK hr) ops.size [] _ (by simp) (fun i=>?_) h2 (by have hla':=n4_ (A:=an) hla hw;rw[hlen]at hla';simpa using hla'))
        by_cases hi:i<ops.size
        .simp[hi]
        .simp[hi]
     .exact hw.elim
   | _ =>
     exfalso
     simp only[comp,zs_]at hc
     repeat' (first|(simp only[zza_,zzb_]at hc)|(obtain⟨_,_,hc⟩:=hc)|(cases hc;done))
 | seq x y ihx ihy =>
   intro c hc hla S g w a Q R h hw hn
   cases c with
   | seq cx cy =>
     simp only[comp,zs_,zza_,zzb_,ACode.seq.injEq]at hc
     obtain⟨a1,h1,a2,h2,rfl,rfl⟩:=hc
     simp only[zq_,zzg_]at hla
     refine wp_seq (ihx _ h1 hla.1 h hw fun x S' g' w' a' hQ hr=>?_)
     cases x with
     |normal=>exact ihy _ h2 hla.2 hr hQ hn
     |exit id=>exact hn (.exit id) _ _ _ _ hQ hr
     |ret=>exact hn .ret _ _ _ _ hQ hr
     |goto l=>exact hn (.goto l) _ _ _ _ hQ hr
   | _ =>
     exfalso
     simp only[comp,zs_]at hc
     repeat' (first|(simp only[zza_,zzb_]at hc)|(obtain⟨_,_,hc⟩:=hc)|(cases hc;done))
 | cond q x y ihx ihy =>
   intro c hc hla S g w a Q R h hw hn
   cases c with
   | cond cq cx cy =>
     simp only[comp,zs_,zza_,zzb_,ACode.cond.injEq]at hc
     obtain⟨c',h0,a1,h1,a2,h2,rfl,rfl,rfl⟩:=hc
     simp only[zq_,zzg_]at hla
     simp only[W]at hw
     split at hw
     .next b hb =>
      refine wp_cond (yA_ h.rel h0 hb).1 ?_
      cases b with
      |true=>simp only[if_true]at hw ⊢;exact ihx _ h1 hla.1 h hw hn
      |false=>simp only[yyi_,if_false]at hw ⊢;exact ihy _ h2 hla.2 h hw hn
     .exact hw.elim
   | _ =>
     exfalso
     simp only[comp,zs_]at hc
     repeat' (first|(simp only[zza_,zzb_]at hc)|(obtain⟨_,_,hc⟩:=hc)|(cases hc;done))
 | block id x ih =>
   intro c hc hla S g w a Q R h hw hn
   cases c with
   | block id' cx =>
     simp only[comp,zs_,zzb_,ACode.block.injEq]at hc
     obtain⟨a1,h1,rfl,rfl⟩:=hc
     refine wp_block (ih _ h1 hla h hw fun x S' g' w' a' hQ hr=>?_)
     cases x with
     |normal=>exact hn .normal _ _ _ _ hQ hr
     | exit id' =>
       simp only[AX.ex,Exit.inBlock]
       simp only at hQ
       split at hQ
       .next e=>rw[if_pos e];exact hn .normal _ _ _ _ hQ hr
       .next e=>rw[if_neg e];exact hn (.exit id') _ _ _ _ hQ hr
     |ret=>exact hn .ret _ _ _ _ hQ hr
     |goto l=>exact hn (.goto l) _ _ _ _ hQ hr
   | _ =>
     exfalso
     simp only[comp,zs_]at hc
     repeat' (first|(simp only[zza_,zzb_]at hc)|(obtain⟨_,_,hc⟩:=hc)|(cases hc;done))
 | loop x ih =>
   intro c hc hla S g w a Q R h hw hn
   cases c with
   | loop cx =>
     simp only[comp,zs_,zzb_,ACode.loop.injEq]at hc
     obtain⟨a1,h1,rfl⟩:=hc
     simp only[W]at hw
     obtain⟨Inv,⟨m0,S1,hk,hl,hI⟩,hstep⟩:=hw
     have key:∀N m S g w a,m<N->Inv m S->Rch F n g0 w0 S0 a0 g w S a->Code.rounds P cx R N a w:=by
      intro N
      induction N with
      |zero=>intro m _ _ _ _ hm;omega
      | succ N ihN =>
        intro m S g w a hm hI h
        refine ih _ h1 hla h (hstep m S h.len hI) fun x S' g' w' a' hQ hr=>?_
        cases x with
        | normal =>
          obtain⟨m',S'',hm',hk',hl',hI'⟩:=hQ
          exact ihN m' S'' g' w' a' (by omega) hI' (hr.less hk' hl')
        |exit id=>exact hn (.exit id) _ _ _ _ hQ hr
        |ret=>exact hn .ret _ _ _ _ hQ hr
        |goto l=>exact hn (.goto l) _ _ _ _ hQ hr
     exact wp_loop_rounds (m0+1) (key (m0+1) m0 S1 g w a (by omega) hI (h.less hk hl))
   | _ =>
     exfalso
     simp only[comp,zs_]at hc
     repeat' (first|(simp only[zza_,zzb_]at hc)|(obtain⟨_,_,hc⟩:=hc)|(cases hc;done))
 | scope l x y ihx ihy =>
   intro c hc hla S g w a Q R h hw hn
   cases c with
   | scope cx =>
     simp only[comp,zs_,zza_,zzb_,ACode.scope.injEq]at hc
     obtain⟨c',h1,r',h2,rfl,rfl,rfl⟩:=hc
     simp only[zq_,zzg_]at hla
     obtain⟨rest,k1,k2⟩:=mY_ cx h1 h2
     refine wp_scope_jumps (lab1 cx) (fun a' w'=>∃S' g',Rch F n g0 w0 S0 a0 g' w' S' a'/\W P F n y S' (fun e S''=>match e with|.goto _=>False|e=>Q e S'')) (fun _ _=>0) k1 (ihx _ h1 hla.1 h hw fun x S' g' w' a' hQ hr=>?_) (fun a' w' ⟨S',g',hr,hW⟩=>ihy _ k2 hla.2 hr hW fun x S' g' w' a' hQ hr=>?_)
     .cases x with
      |normal=>exact hn .normal _ _ _ _ hQ hr
      |exit id=>exact hn (.exit id) _ _ _ _ hQ hr
      |ret=>exact hn .ret _ _ _ _ hQ hr
      |goto l=>exact⟨hQ.1,S',g',hr,hQ.2⟩
     .cases x with
      |normal=>exact hn .normal _ _ _ _ hQ hr
      |exit id=>exact hn (.exit id) _ _ _ _ hQ hr
      |ret=>exact hn .ret _ _ _ _ hQ hr
      |goto l=>exact hQ.elim
   | _ =>
     exfalso
     simp only[comp,zs_]at hc
     repeat' (first|(simp only[zza_,zzb_]at hc)|(obtain⟨_,_,hc⟩:=hc)|(cases hc;done))
end
end
section
inductive RV where
 |v (i:Nat)
 |c (t n:Nat) (ag:Bool)
def ro_(P:Program)(F:Fr):ResultVar->Option RV
 |.tmp t=>(vix F.sv t).map .v
 |.cell a t=>if F.sv.contains a then none else (sizeT P t).bind fun n=>(aggT P t).bind fun ag=>if ag=false/\n≠1 then none else some (.c a n ag)
def vZ_(P:Program)(F:Fr):List ResultVar->Option (List RV)
 |[]=>some []
 |r::l=>(ro_ P F r).bind fun x=>(vZ_ P F l).bind fun q=>some (x::q)
def runR(tmps:Array Value):ResultVar->Sem Value
 |.tmp t=>pure (tmps.getD t undef)
 |.cell a t=>do loadVar t (<-asAddr (tmps.getD a undef))
def packV(vs:Array Value):Value:=if h:vs.size=1 then vs[0] else .tuple vs
theorem s6_{fn:Func}{tmps:Array Value}{P:Program}{w:World}{rs:List ResultVar}{vs:List Value}(hf:fn.results=rs.toArray)(hl:rs.length<=6)(hn:vs.length=rs.length)(h:∀(i:Nat) (r:ResultVar) (v:Value),rs[i]?=some r->vs[i]?=some v->(runR tmps r).run P w=.ok v w) :
 (results fn tmps).run P w=.ok (packV vs.toArray) w:=by
 have hr:results fn tmps=(do let vs <-fn.results.mapM (runR tmps);pure (packV vs)):=by
  unfold results packV
  congr 1
 rw[hr,hf]
 match rs,vs,hn with
 |[],[],_=>simp
 | [r0], [v0], _ =>
   have h0:=h 0 r0 v0 rfl rfl
   simp[h0]
 | [r0, r1], [v0, v1], _ =>
   have h0:=h 0 r0 v0 rfl rfl
   have h1:=h 1 r1 v1 rfl rfl
   simp[h0,h1]
 | [r0, r1, r2], [v0, v1, v2], _ =>
   have h0:=h 0 r0 v0 rfl rfl
   have h1:=h 1 r1 v1 rfl rfl
   have h2:=h 2 r2 v2 rfl rfl
   simp[h0,h1,h2]
 | [r0, r1, r2, r3], [v0, v1, v2, v3], _ =>
   have h0:=h 0 r0 v0 rfl rfl
   have h1:=h 1 r1 v1 rfl rfl
   have h2:=h 2 r2 v2 rfl rfl
   have h3:=h 3 r3 v3 rfl rfl
   simp[h0,h1,h2,h3]
 | [r0, r1, r2, r3, r4], [v0, v1, v2, v3, v4], _ =>
   have h0:=h 0 r0 v0 rfl rfl
   have h1:=h 1 r1 v1 rfl rfl
   have h2:=h 2 r2 v2 rfl rfl
   have h3:=h 3 r3 v3 rfl rfl
   have h4:=h 4 r4 v4 rfl rfl
   simp[h0,h1,h2,h3,h4]
 | [r0, r1, r2, r3, r4, r5], [v0, v1, v2, v3, v4, v5], _ =>
   have h0:=h 0 r0 v0 rfl rfl
   have h1:=h 1 r1 v1 rfl rfl
   have h2:=h 2 r2 v2 rfl rfl
   have h3:=h 3 r3 v3 rfl rfl
   have h4:=h 4 r4 v4 rfl rfl
   have h5:=h 5 r5 v5 rfl rfl
   simp[h0,h1,h2,h3,h4,h5]
 |_::_::_::_::_::_::_::_,_,_=>simp at hl
def resL:V->Option V
 |.s v=>some (.s v)
 |.list z xs=>some (.list z xs)
 |.own true e z xs=>some (.own true e z xs)
 |.own false _ z xs=>some (.list z xs)
 |.ptr b o=>some (.ptr b o)
 |_=>none
def t8_(S:St):List Loc->Option (List V)
 |[]=>some []
 |l::r=>(S.at l).bind fun x=>(resL x).bind fun y=>(t8_ S r).bind fun q=>some (y::q)
def rvAt(S:St):RV->Option (Bool×List Loc)
 |.v i=>some (false,[.var i])
 | .c t n ag => match S.tm t with
   |.ptr b o=>if o<1000000000 then some (ag,(List.range n).map fun j=>.cell b (o+j)) else none
   |_=>none
def rvV(S:St)(r:RV):Option (V×List Loc):=(rvAt S r).bind fun q=>(t8_ S q.2).bind fun cs=>(x4_ q.1 cs).bind fun y=>some (y,q.2)
def rvVs(S:St):List RV->Option (List V×List Loc)
 |[]=>some ([],[])
 |r::l=>(rvV S r).bind fun q=>(rvVs S l).bind fun q'=>some (q.1::q'.1,q.2++q'.2)
def pack(vs:List V):V:=match vs with
 |[x]=>x
 |vs=>.tup vs
section
variable{P:Program}{F:Fr}{g:Gh}{w:World}{S:St}{a:Act}
theorem t7_:∀ {ls:List Loc} {cs:List V},t8_ S ls=some cs->cs.length=ls.length/\∀(j:Nat) (l:Loc),ls[j]?=some l->∃x y,S.at l=some x/\resL x=some y/\cs[j]?=some y
 |[],cs,h=>by simp[t8_]at h;subst h;simp
 | l :: r, cs, h => by
   simp only[t8_,zza_]at h
   obtain⟨x,h1,y,h2,q,h3,h4⟩:=h
   cases h4
   obtain⟨k1,k2⟩:=t7_ h3
   refine⟨by simp[k1],fun j l' hl=>?_⟩
   cases j with
   |zero=>simp at hl;subst hl;exact⟨x,y,h1,h2,rfl⟩
   |succ j=>simp at hl;obtain⟨x',y',a1,a2,a3⟩:=k2 j l' hl;exact⟨x',y',a1,a2,by simpa using a3⟩
theorem q6_(h:Rel F g w S a):∀ {ls:List Loc} {cs:List V},t8_ S ls=some cs->∃vs:List Value,vs.length=ls.length/\∀(j:Nat) (l:Loc),ls[j]?=some l->∃v,vs[j]?=some v/\z8_ F g w a l=some v/\((∃b o,l=.cell b o)->v.oneCell'=true)
 |[],cs,_=>⟨[],rfl,fun j l hl=>by simp at hl⟩
 | l :: r, cs, hc => by
   simp only[t8_,zza_]at hc
   obtain⟨x,h1,y,h2,q,h3,h4⟩:=hc
   obtain⟨v,k1,k2⟩:=h.lookv l x h1
   obtain⟨vs,k3,k4⟩:=q6_ h h3
   refine⟨v::vs,by simp[k3],fun j l' hl=>?_⟩
   cases j with
   |zero=>simp at hl;subst hl;exact⟨v,rfl,k1,k2⟩
   |succ j=>simp at hl;obtain⟨v',a1,a2⟩:=k4 j l' hl;exact⟨v',by simpa using a1,a2⟩
theorem pL_{x y:V}{v:Value}(h:Rep g w x v)(hy:resL x=some y):Rep g w y v/\okL y=true/\(∀e z xs,y=.own true e z xs->x=y)/\(∀b o,y=.ptr b o->x=y):=by
 unfold resL at hy
 split at hy<;>cases hy
 .exact⟨h,rfl,fun _ _ _ e=>rfl,fun _ _ e=>rfl⟩
 .exact⟨h,rfl,fun _ _ _ e=>rfl,fun _ _ e=>rfl⟩
 .exact⟨h,rfl,fun _ _ _ e=>rfl,fun _ _ e=>rfl⟩
 .refine⟨?_,rfl,?_,?_⟩
  .cases h
   assumption
  .intro _ _ _ e;cases e
  .intro _ _ e;cases e
 .exact⟨h,rfl,fun _ _ _ e=>rfl,fun _ _ e=>rfl⟩
structure Got(F:Fr)(g:Gh)(w:World)(S:St)(a:Act)(y:V)(v:Value)(ls:List Loc):Prop where
 rep:Rep g w y v
 ok:okA y=true
 own:∃pth:Nat->List Nat,∀p k,zD_ y v p k->∃(j:Nat) (l:Loc),ls[j]?=some l/\p=pth j/\Own F g w S a (.l l) [] k
 ptr:∀p b o,y.sub p=some (.ptr b o)->∃l,l∈ls/\S.at l=some (.ptr b o)
theorem got(h:Rel F g w S a){r:ResultVar}{rv:RV}{y:V}{ls:List Loc}(hr:ro_ P F r=some rv)(hv:rvV S rv=some (y,ls)):∃v,(runR a.tmps r).run P w=.ok v w/\Got F g w S a y v ls:=by
 unfold rvV at hv
 simp only[zza_]at hv
 obtain⟨⟨ag,ls'⟩,h1,cs,h2,y',h3,h4⟩:=hv
 simp only[yya_,yyc_]at h4
 obtain⟨rfl,rfl⟩:=h4
 simp only at h2 h3
 obtain⟨hlen,hget⟩:=t7_ h2
 obtain⟨vs,hvl,hvs⟩:=q6_ h h2
 have leafs:∀(j:Nat) (l:Loc) (y:V) (v:Value),ls'[j]?=some l->cs[j]?=some y->vs[j]?=some v->Rep g w y v/\okL y=true/\(∀k,zD_ y v [] k->Own F g w S a (.l l) [] k)/\(∀b o,y=.ptr b o->S.at l=some (.ptr b o)):=by
  intro j l y v hl hy hv
  obtain⟨x,y1,a1,a2,a3⟩:=hget j l hl
  obtain⟨v1,b1,b2,b3⟩:=hvs j l hl
  rw[hy]at a3;cases a3
  rw[hv]at b1;cases b1
  obtain⟨c1,c2,c3,c4⟩:=pL_ (h.rep (.l l) x v ⟨a1,b2⟩) a2
  refine⟨c1,c2,fun k ⟨e,z,xs,u,d1,d2,d3⟩=>?_,fun b o e=>?_⟩
  .simp[V.sub]at d1
   have:=c3 e z xs d1
   subst this
   exact⟨x,v,⟨a1,b2⟩,.inl ⟨e,z,xs,u,by simp[V.sub,d1],d2,d3⟩⟩
  .have:=c4 b o e;rw[this]at a1;rw[a1,e]
 cases ag with
 | false =>
   simp only[x4_,yyi_,if_false]at h3
   split at h3
   .next x0 =>
    cases h3
    obtain⟨l,rfl⟩:∃l,ls'=[l]:=by
     cases ls' with
     |nil=>simp at hlen
     | cons l r => cases r with
       |nil=>exact⟨l,rfl⟩
       |cons _ _=>simp at hlen
    obtain⟨v,b1,b2,b3⟩:=hvs 0 l rfl
    obtain⟨c1,c2,c3,c4⟩:=leafs 0 l y' v rfl rfl b1
    refine⟨v,?_,⟨c1,?_,⟨fun _=>[],fun p k ho=>?_⟩,fun p b o hs=>?_⟩⟩
    .cases r with
     | tmp t =>
       simp only[ro_,zzb_]at hr
       obtain⟨i,hi,rfl⟩:=hr
       simp only[rvAt,yya_,yyc_,true_and]at h1
       cases h1
       have:=uj_ hi
       simp only[z8_,this,zzz_,yya_]at b2
       simp[runR,<-b2,Act.tv]
     | cell c t =>
       simp only[ro_]at hr
       split at hr
       .cases hr
       .next hnv =>
        simp only[zza_]at hr
        obtain⟨n,hn,ag,hag,hr⟩:=hr
        split at hr
        .cases hr
        .cases hr
         simp only[rvAt]at h1
         split at h1
         .next b o hp =>
          split at h1
          case isFalse=>cases h1
          rename_i hlt
          simp only[yya_,yyc_]at h1
          obtain⟨rfl,h1⟩:=h1
          have hn1:n=1:=by have:=congrArg List.length h1;simpa using this
          subst hn1
          simp at h1
          subst h1
          have hpv:=h.rep (.t c) _ _ ⟨rfl,rfl⟩
          rw[hp]at hpv
          unfold aggT at hag
          obtain⟨td,htd,htag⟩:=zzb_.1 hag
          have hisagg:(isAgg t).run P w=.ok false w:=by
           simp only[isAgg,run_underlying htd,Sem.run_bind,Result.andThen_ok]
           rw[<-htag]
           cases td<;>simp
          have htv:a.tmps.getD c undef=.pointer (some ⟨g.φ b,o,none⟩):=hpv.ptrv hlt
          simp only[z8_,Nat.add_zero]at b2
          simp only[runR,htv]
          simp[asAddr,loadVar,hisagg,b2]
         .cases h1
    .cases y'<;>first|exact c2|(simp[okL]at c2;done)
    .obtain⟨e,z,xs,u,d1,d2,d3⟩:=ho
     obtain⟨rfl,d4⟩:=wI_ c2 d1
     exact⟨0,l,rfl,rfl,c3 k ⟨e,z,xs,u,d1,d2,d3⟩⟩
    .obtain⟨rfl,d4⟩:=wI_ c2 hs
     exact⟨l,by simp,c4 b o d4.symm⟩
   .cases h3
 | true =>
   simp only[x4_,if_true]at h3
   cases h3
   have hone:∀c∈vs,c.oneCell'=true:=by
    intro c hc
    obtain⟨j,hj⟩:=List.mem_iff_getElem?.1 hc
    have hjl:j<ls'.length:=by rw[<-hvl];exact(zzc_.1 hj).1
    obtain⟨v,b1,b2,b3⟩:=hvs j _ (zzf_ hjl)
    rw[hj]at b1;cases b1
    refine b3 ?_
    cases rv with
    |v i=>simp[rvAt]at h1
    | c t n ag =>
      simp only[rvAt]at h1
      split at h1
      .next b o _ =>
       split at h1
       case isFalse=>cases h1
       rename_i hlt
       simp only[yya_,yyc_]at h1
       obtain⟨_,rfl⟩:=h1
       simp
      .cases h1
   have hsub:∀p x,(V.agg cs).sub p=some x->leaf x=true->∃(j:Nat),p=[j]/\cs[j]?=some x:=by
    intro p x hs hlf
    cases p with
    |nil=>simp[V.sub]at hs;subst hs;simp[leaf]at hlf
    | cons j p =>
      simp only[V.sub,zza_]at hs
      obtain⟨c,hc,hs⟩:=hs
      have hjl:j<ls'.length:=by rw[<-hlen];exact(zzc_.1 hc).1
      obtain⟨v,b1,_,_⟩:=hvs j _ (zzf_ hjl)
      obtain⟨_,c2,_,_⟩:=leafs j _ c v (zzf_ hjl) hc b1
      obtain⟨rfl,rfl⟩:=wI_ c2 hs
      exact⟨j,rfl,hc⟩
   refine⟨.agg vs.toArray,?_,⟨.agg (by simp;omega) (by simpa using hone) (fun j u c hu hc=>?_),?_,⟨fun j=>[j],fun p k ho=>?_⟩,fun p b o hs=>?_⟩⟩
   .cases r with
    | tmp t =>
      simp only[ro_,zzb_]at hr
      obtain⟨i,hi,rfl⟩:=hr
      simp[rvAt]at h1
    | cell c t =>
      simp only[ro_]at hr
      split at hr
      .cases hr
      .simp only[zza_]at hr
       obtain⟨n,hn,ag,hag,hr⟩:=hr
       split at hr
       .cases hr
       .cases hr
        simp only[rvAt]at h1
        split at h1
        .next b o hp =>
         split at h1
         case isFalse=>cases h1
         rename_i hlt
         simp only[yya_,yyc_]at h1
         obtain⟨rfl,rfl⟩:=h1
         have hpv:=h.rep (.t c) _ _ ⟨rfl,rfl⟩
         rw[hp]at hpv
         unfold aggT at hag
         obtain⟨td,htd,htag⟩:=zzb_.1 hag
         unfold sizeT at hn
         obtain⟨i,hi,hin⟩:=zzb_.1 hn
         have hisagg:(isAgg t).run P w=.ok true w:=by
          simp only[isAgg,run_underlying htd,Sem.run_bind,Result.andThen_ok]
          rw[<-htag]
          cases td<;>simp
         have htv:a.tmps.getD c undef=.pointer (some ⟨g.φ b,o,none⟩):=hpv.ptrv hlt
         have hvn:vs.length=n:=by simpa using hvl
         have hl:(loadCells ⟨g.φ b,o,none⟩ n).run P w=.ok vs.toArray w:=by
          rw[<-hvn]
          refine run_loadCells_list w _ vs (fun j u hj=>?_)
          have hjn:j<n:=by rw[<-hvn];exact(zzc_.1 hj).1
          obtain⟨v,b1,b2,_⟩:=hvs j (.cell b (o+j)) (by simp[hjn])
          rw[hj]at b1;cases b1
          rw[zJ_]
          exact b2
         simp only[runR,htv]
         simp[asAddr,loadVar,hisagg,sizeOf,typeInfo,hi,hin,hl]
        .cases h1
   .have hjl:j<ls'.length:=by rw[<-hlen];exact(zzc_.1 hu).1
    exact(leafs j _ u c (zzf_ hjl) hu (by simpa using hc)).1
   .simp only[okA,zzh_]
    intro c hc
    obtain⟨j,hj⟩:=List.mem_iff_getElem?.1 hc
    have hjl:j<ls'.length:=by rw[<-hlen];exact(zzc_.1 hj).1
    obtain⟨v,b1,_,_⟩:=hvs j _ (zzf_ hjl)
    exact(leafs j _ c v (zzf_ hjl) hj b1).2.1
   .obtain⟨e,z,xs,u,d1,d2,d3⟩:=ho
    obtain⟨j,rfl,hj⟩:=hsub p _ d1 rfl
    have hjl:j<ls'.length:=by rw[<-hlen];exact(zzc_.1 hj).1
    simp only[vsub,zza_]at d2
    obtain⟨v,hv,d2⟩:=d2
    refine⟨j,_,zzf_ hjl,rfl,?_⟩
    exact(leafs j _ _ v (zzf_ hjl) hj (by simpa using hv)).2.2.1 k ⟨e,z,xs,u,rfl,d2,d3⟩
   .obtain⟨j,rfl,hj⟩:=hsub p _ hs rfl
    have hjl:j<ls'.length:=by rw[<-hlen];exact(zzc_.1 hj).1
    obtain⟨v,b1,_,_⟩:=hvs j _ (zzf_ hjl)
    exact⟨_,yyp_ hjl,(leafs j _ _ v (zzf_ hjl) hj b1).2.2.2 b o rfl⟩
end
end
section
def yf_(n:Nat):V->Bool
 |.ptr b _=>decide (b<n)
 |.lent _ _ _ _ _=>false
 |.agg _|.tup _=>false
 |_=>true
def locK(n:Nat):Loc->Bool
 |.cell b _=>decide (n<=b)
 |.var _=>true
def dupF:List Loc->Bool
 |[]=>true
 |l::r=>!r.contains l&&dupF r
def wT_(n:Nat)(S:St)(ys:List V)(ls:List Loc):Bool:=dupF ls&&ls.all (locK n)&&ys.all (ptrA n)&&(S.bx.take n).all (·.all (yf_ n))&&decide (n<=S.bx.length)
section
variable{P:Program}{F:Fr}{g:Gh}{w:World}{S:St}{a:Act}
theorem ud_:∀ {ls:List Loc},dupF ls=true->ls.Nodup
 |[],_=>List.nodup_nil
 | l :: r, h => by
   simp only[dupF,zzg_,yyh_,List.contains_eq_mem,decide_eq_false_iff_not]at h
   exact List.nodup_cons.2 ⟨h.1,ud_ h.2⟩
theorem uB_{α:Type}:∀ {lss:List (List α)},lss.flatten.Nodup->∀ {i i' j j':Nat} {A B:List α} {l:α},lss[i]?=some A->A[j]?=some l->lss[i']?=some B->B[j']?=some l->i=i'/\j=j'
 |[],_,i,i',j,j',A,B,l,h1,_,_,_=>by simp at h1
 | X :: r, hn, i, i', j, j', A, B, l, h1, h2, h3, h4 => by
   rw[List.flatten_cons,List.nodup_append]at hn
   obtain⟨n1,n2,n3⟩:=hn
   have hin:∀ {k m:Nat} {C:List α},r[k]?=some C->C[m]?=some l->l∈r.flatten:=fun hk hm=>List.mem_flatten.2 ⟨_,zzd_ hk,zzd_ hm⟩
   cases i with
   | zero =>
     simp at h1;subst h1
     cases i' with
     | zero =>
       simp at h3;subst h3
       refine⟨rfl,?_⟩
       have a1:=(zzc_.1 h2)
       have a2:=(zzc_.1 h4)
       obtain⟨b1,b2⟩:=a1
       obtain⟨c1,c2⟩:=a2
       exact(List.getElem_inj n1).1 (b2.trans c2.symm)
     | succ i' =>
       simp at h3
       exact absurd rfl (n3 l (zzd_ h2) l (hin h3 h4))
   | succ i =>
     simp at h1
     cases i' with
     | zero =>
       simp at h3;subst h3
       exact absurd rfl (n3 l (zzd_ h4) l (hin h1 h2))
     | succ i' =>
       simp at h3
       obtain⟨q1,q2⟩:=uB_ n2 h1 h2 h3 h4
       exact⟨by omega,q2⟩
theorem gots(h:Rel F g w S a):∀ {rs:List ResultVar} {rvs:List RV} {ys:List V} {ls:List Loc},vZ_ P F rs=some rvs->rvVs S rvs=some (ys,ls) ->
 ∃(vs:List Value) (lss:List (List Loc)),vs.length=rs.length/\ys.length=rs.length/\lss.length=rs.length/\ls=lss.flatten/\(∀(i:Nat) (r:ResultVar) (v:Value),rs[i]?=some r->vs[i]?=some v->(runR a.tmps r).run P w=.ok v w)/\∀(i:Nat) (y:V) (v:Value) (l:List Loc),ys[i]?=some y->vs[i]?=some v->lss[i]?=some l->Got F g w S a y v l
 | [], rvs, ys, ls, h1, h2 => by
   simp[vZ_]at h1
   subst h1
   simp[rvVs]at h2
   obtain⟨rfl,rfl⟩:=h2
   exact⟨[],[],rfl,rfl,rfl,rfl,fun i r v hr=>by simp at hr,fun i y v l hy=>by simp at hy⟩
 | r :: rs, rvs, ys, ls, h1, h2 => by
   simp only[vZ_,zza_]at h1
   obtain⟨rv,h1,rvs',h3,h4⟩:=h1
   cases h4
   simp only[rvVs,zza_]at h2
   obtain⟨⟨y,l⟩,k1,⟨ys',ls'⟩,k2,k3⟩:=h2
   simp only[yya_,yyc_]at k3
   obtain⟨rfl,rfl⟩:=k3
   obtain⟨v,q1,q2⟩:=got h h1 k1
   obtain⟨vs,lss,e1,e2,e3,e4,e5,e6⟩:=gots h h3 k2
   refine⟨v::vs,l::lss,by simp[e1],by simp[e2],by simp[e3],by simp[e4],fun i r' v' hr hv=>?_,fun i y' v' l' hy hv hl=>?_⟩
   .cases i with
    |zero=>simp at hr hv;subst hr;subst hv;exact q1
    |succ i=>simp at hr hv;exact e5 i r' v' hr hv
   .cases i with
    |zero=>simp at hy hv hl;subst hy;subst hv;subst hl;exact q2
    |succ i=>simp at hy hv hl;exact e6 i y' v' l' hy hv hl
theorem wm_{ys:List V}{vs:List Value}(hl:vs.length=ys.length) :
 (∃y v,ys=[y]/\vs=[v]/\pack ys=y/\packV vs.toArray=v)\/(pack ys=.tup ys/\packV vs.toArray=.tuple vs.toArray):=by
 match ys,vs,hl with
 |[],[],_=>exact .inr ⟨rfl,by simp[packV]⟩
 |[y],[v],_=>exact .inl ⟨y,v,rfl,rfl,rfl,by simp[packV]⟩
 |_::_::_,_::_::_,_=>exact .inr ⟨rfl,by simp[packV]⟩
theorem nN_(h:Rel F g w S a){n:Nat}{ys:List V}{vs:List Value}{lss:List (List Loc)}(e1:vs.length=ys.length)(e2:lss.length=ys.length)(hok:wT_ n S ys lss.flatten=true)
 (hg:∀(i:Nat) (y:V) (v:Value) (l:List Loc),ys[i]?=some y->vs[i]?=some v->lss[i]?=some l->Got F g w S a y v l) :
 okV (pack ys)=true/\Bd g w [pack ys] #[packV vs.toArray] (S.bx.take n)/\∀k,OwnB g w [pack ys] #[packV vs.toArray] (S.bx.take n) k->wN_ F g w S a k:=by
 simp only[wT_,zzg_,zzh_,zzp_]at hok
 obtain⟨⟨⟨⟨hnd,hloc⟩,hptr⟩,hcell⟩,hnl⟩:=hok
 have hnd:=ud_ hnd
 have hgot:∀(i:Nat) (y:V) (v:Value),ys[i]?=some y->vs[i]?=some v->∃l,lss[i]?=some l/\Got F g w S a y v l:=by
  intro i y v hy hv
  have:i<lss.length:=by rw[e2];exact(zzc_.1 hy).1
  exact⟨_,zzf_ this,hg i y v _ hy hv (zzf_ this)⟩
 have hvs:∀(i:Nat) (y:V),ys[i]?=some y->∃v,vs[i]?=some v:=by
  intro i y hy
  have:i<vs.length:=by rw[e1];exact(zzc_.1 hy).1
  exact⟨_,zzf_ this⟩
 have hokA:∀y∈ys,okA y=true:=by
  intro y hy
  obtain⟨i,hi⟩:=List.mem_iff_getElem?.1 hy
  obtain⟨v,hv⟩:=hvs i y hi
  obtain⟨l,_,q⟩:=hgot i y v hi hv
  exact q.ok
 have hlenB:(S.bx.take n).length=n:=by simp;omega
 -- what lies in the packed value
 have hown:∃pp:Nat->List Nat->List Nat,∀p k,zD_ (pack ys) (packV vs.toArray) p k->∃i p' y v,p=pp i p'/\ys[i]?=some y/\vs[i]?=some v/\zD_ y v p' k:=by
  rcases wm_ e1 with ⟨y,v,r1,r2,r3,r4⟩|⟨r3,r4⟩
  .rw[r3,r4]
   exact⟨fun _ p=>p,fun p k ho=>⟨0,p,y,v,rfl,by rw[r1];rfl,by rw[r2];rfl,ho⟩⟩
  .rw[r3,r4]
   refine⟨fun i p=>i::p,fun p k ⟨e,z,xs,u,d1,d2,d3⟩=>?_⟩
   cases p with
   |nil=>simp[V.sub]at d1
   | cons i p =>
     simp only[V.sub,vsub,zza_]at d1 d2
     obtain⟨y,hy,d1⟩:=d1
     obtain⟨v,hv,d2⟩:=d2
     exact⟨i,p,y,v,rfl,hy,by simpa using hv,e,z,xs,u,d1,d2,d3⟩
 obtain⟨pp,hown⟩:=hown
 have hptr':∀p b o,(pack ys).sub p=some (.ptr b o)->b<n:=by
  intro p b o hs
  rcases wm_ e1 with ⟨y,v,r1,r2,r3,r4⟩|⟨r3,r4⟩
  .rw[r3]at hs
   have hm:y∈ys:=by rw[r1];simp
   exact up_ (hptr y hm) (hokA y hm) hs
  .rw[r3]at hs
   cases p with
   |nil=>simp[V.sub]at hs
   | cons i p =>
     simp only[V.sub,zza_]at hs
     obtain⟨y,hy,hs⟩:=hs
     have hm:=zzd_ hy
     exact up_ (hptr y hm) (hokA y hm) hs
 have hrep:Rep g w (pack ys) (packV vs.toArray):=by
  rcases wm_ e1 with ⟨y,v,r1,r2,r3,r4⟩|⟨r3,r4⟩
  .rw[r3,r4]
   obtain⟨l,_,q⟩:=hgot 0 y v (by rw[r1];rfl) (by rw[r2];rfl)
   exact q.rep
  .rw[r3,r4]
   refine .tup (by simp;omega) (fun j u c hu hc=>?_)
   obtain⟨l,_,q⟩:=hgot j u c hu (by simpa using hc)
   exact q.rep
 have hokv:okV (pack ys)=true:=by
  rcases wm_ e1 with ⟨y,v,r1,r2,r3,r4⟩|⟨r3,r4⟩
  .rw[r3]
   have:=hokA y (by rw[r1];simp)
   cases y<;>first|exact this|(simp[okA,okL]at this;done)
  .rw[r3]
   simp only[okV,zzh_]
   exact hokA
 have hsubok:∀p x,(pack ys).sub p=some x->(∀l e,x≠.view l e)/\(∀l e lo m,x≠.sview l e lo m)/\(∀l e i q,x≠.vp l e i q)/\(∀cs,x≠.ip cs)/\(∀d e0 e z xs,x≠.lent d e0 e z xs):=by
  have base:∀x,okL x=true->(∀l e,x≠.view l e)/\(∀l e lo m,x≠.sview l e lo m)/\(∀l e i q,x≠.vp l e i q)/\(∀cs,x≠.ip cs)/\(∀d e0 e z xs,x≠.lent d e0 e z xs):=by
   intro x hx
   cases x<;>simp[okL]at hx<;>simp
  have base2:∀x,okA x=true->(∀l e,x≠.view l e)/\(∀l e lo m,x≠.sview l e lo m)/\(∀l e i q,x≠.vp l e i q)/\(∀cs,x≠.ip cs)/\(∀d e0 e z xs,x≠.lent d e0 e z xs):=by
   intro x hx
   cases x<;>first|exact base _ hx|simp
  intro p x hs
  rcases wm_ e1 with ⟨y,v,r1,r2,r3,r4⟩|⟨r3,r4⟩
  .rw[r3]at hs
   have hm:=hokA y (by rw[r1];simp)
   rcases sc_ hm hs with rfl|q
   .exact base2 _ hm
   .exact base _ q
  .rw[r3]at hs
   cases p with
   |nil=>simp[V.sub]at hs;subst hs;simp
   | cons i p =>
     simp only[V.sub,zza_]at hs
     obtain⟨y,hy,hs⟩:=hs
     have hm:=hokA y (zzd_ hy)
     rcases sc_ hm hs with rfl|q
     .exact base2 _ hm
     .exact base _ q
 -- places of the new state
 have hat:∀l x,(Stn [pack ys] (S.bx.take n)).at l=some x->(l=.var 0/\x=pack ys)\/(∃b o,l=.cell b o/\b<n/\S.at l=some x/\yf_ n x=true):=by
  intro l x hx
  cases l with
  | var i =>
    cases i with
    |zero=>simp[Stn,St.at]at hx;exact .inl ⟨rfl,hx.symm⟩
    |succ i=>simp[Stn,St.at]at hx
  | cell b o =>
    simp only[Stn,St.at,zza_]at hx
    obtain⟨cs,h1,h2⟩:=hx
    have hb:cs∈S.bx.take n:=zzd_ h1
    rw[zzu_]at h1
    split at h1
    .next hbn =>
     refine .inr ⟨b,o,rfl,hbn,by simp[St.at,h1,h2],?_⟩
     exact hcell cs hb x (zzd_ h2)
    .cases h1
 have hval:∀b o,z8_ (Frn 1) g w ⟨#[packV vs.toArray],[]⟩ (.cell b o)=z8_ F g w a (.cell b o):=fun _ _=>rfl
 have hval0:z8_ (Frn 1) g w ⟨#[packV vs.toArray],[]⟩ (.var 0)=some (packV vs.toArray):=by simp[z8_,Frn,Act.tv]
 have hhas:∀l x v,Has (Frn 1) g w (Stn [pack ys] (S.bx.take n)) ⟨#[packV vs.toArray],[]⟩ (.l l) x v->(l=.var 0/\x=pack ys/\v=packV vs.toArray)\/(∃b o,l=.cell b o/\b<n/\Has F g w S a (.l l) x v/\yf_ n x=true):=by
  intro l x v ⟨h1,h2⟩
  rcases hat l x h1 with ⟨rfl,rfl⟩|⟨b,o,rfl,hb,h3,h4⟩
  .rw[hval0]at h2;cases h2;exact .inl ⟨rfl,rfl,rfl⟩
  .exact .inr ⟨b,o,rfl,hb,⟨h3,h2⟩,h4⟩
 have hownm:∀r p k,Own (Frn 1) g w (Stn [pack ys] (S.bx.take n)) ⟨#[packV vs.toArray],[]⟩ r p k->(r=.l (.var 0)/\zD_ (pack ys) (packV vs.toArray) p k)\/(∃b o,r=.l (.cell b o)/\b<n/\Own F g w S a r p k):=by
  intro r p k ⟨x,v,hh,ho⟩
  cases r with
  | t t =>
    obtain⟨rfl,_⟩:=hh
    rcases ho with ⟨e,z,xs,u,d1,_⟩|⟨_,d1,_⟩
    .cases p<;>simp[Stn,V.sub]at d1
    .simp[Stn,zi_]at d1
  | l l =>
    rcases hhas l x v hh with ⟨rfl,rfl,rfl⟩|⟨b,o,rfl,hb,h3,h4⟩
    .rcases ho with ho|⟨_,d1,_⟩
     .exact .inl ⟨rfl,ho⟩
     .exfalso
      obtain⟨d,e,z,xs,q1,_⟩:=z4_ d1
      exact(hsubok [] _ rfl).2.2.2.2 d _ e z xs q1
    .rcases ho with ho|⟨_,d1,_⟩
     .exact .inr ⟨b,o,rfl,hb,x,v,h3,.inl ho⟩
     .exfalso
      obtain⟨d,e,z,xs,q1,_⟩:=z4_ d1
      subst q1
      simp[yf_]at h4
 have hownS:∀p k,zD_ (pack ys) (packV vs.toArray) p k->∃(i j:Nat) (l:Loc) (A:List Loc),lss[i]?=some A/\A[j]?=some l/\Own F g w S a (.l l) [] k:=by
  intro p k ho
  obtain⟨i,p',y,v,rfl,hy,hv,ho'⟩:=hown p k ho
  obtain⟨A,hA,q⟩:=hgot i y v hy hv
  obtain⟨pth,hp⟩:=q.own
  obtain⟨j,l,b1,rfl,b3⟩:=hp p' k ho'
  exact⟨i,j,l,A,hA,b1,b3⟩
 refine⟨hokv,⟨rfl,rfl,?_,?_,?_,?_,?_,?_,?_,?_,?_,?_,?_,h.Ilt,?_,?_,?_,?_⟩,?_⟩
 .intro r x v hh
  cases r with
  |t t=>obtain⟨rfl,_⟩:=hh;exact .no
  | l l =>
    rcases hhas l x v hh with ⟨rfl,rfl,rfl⟩|⟨b,o,rfl,hb,h3,h4⟩
    .exact hrep
    .exact h.rep _ x v h3
 .intro l x hx
  rcases hat l x hx with ⟨rfl,rfl⟩|⟨b,o,rfl,hb,h3,h4⟩
  .exact⟨_,hval0,fun ⟨b,o,e⟩=>by cases e⟩
  .exact h.lookv _ x h3
 .intro l d e z xs v hl hv
  rcases hat l _ hl with ⟨rfl,q⟩|⟨b,o,rfl,hb,h3,h4⟩
  .exact absurd q.symm ((hsubok [] _ rfl).2.2.2.2 d _ e z xs)
  .simp[yf_]at h4
 .intro b cs hb
  simp only[Stn,zzu_]at hb
  split at hb
  .exact h.box b cs hb
  .cases hb
 .intro b b' hb hb' he
  simp only[Stn,hlenB]at hb hb'
  exact h.inj b b' (by omega) (by omega) he
 .intro r x v p b o hh hs
  simp only[Stn,hlenB]
  cases r with
  |t t=>obtain⟨rfl,_⟩:=hh;cases p<;>simp[Stn,V.sub]at hs
  | l l =>
    rcases hhas l x v hh with ⟨rfl,rfl,rfl⟩|⟨b',o',rfl,hb,h3,h4⟩
    .exact hptr' p b o hs
    .cases p with
     |nil=>simp[V.sub]at hs;subst hs;simpa[yf_] using h4
     |cons i p=>cases x<;>simp[V.sub]at hs<;>simp[yf_]at h4
 .intro r p k ho
  have hS:∃r' p',Own F g w S a r' p' k:=by
   rcases hownm r p k ho with ⟨_,ho'⟩|⟨b,o,_,_,ho'⟩
   .obtain⟨i,j,l,A,_,_,q⟩:=hownS p k ho';exact⟨_,_,q⟩
   .exact⟨_,_,ho'⟩
  obtain⟨r',p',ho'⟩:=hS
  obtain⟨q1,q2,q3⟩:=h.ownI r' p' k ho'
  exact⟨q1,q2,fun b hb=>q3 b (by simp only[Stn,hlenB]at hb;omega)⟩
 .intro r p r' p' k h1 h2
  rcases hownm r p k h1 with ⟨rfl,ho⟩|⟨b,o,rfl,hb,ho⟩
  .obtain⟨i,j,l,A,q2,q3,q4⟩:=hownS p k ho
   have hlk:locK n l=true:=hloc l (List.mem_flatten.2 ⟨A,zzd_ q2,zzd_ q3⟩)
   rcases hownm r' p' k h2 with ⟨rfl,ho'⟩|⟨b',o',rfl,hb',ho'⟩
   · -- the same place
     refine⟨rfl,?_⟩
     obtain⟨i1,p1,y1,v1,rfl,hy1,hv1,o1⟩:=hown p k ho
     obtain⟨i2,p2,y2,v2,rfl,hy2,hv2,o2⟩:=hown p' k ho'
     obtain⟨A1,hA1,g1⟩:=hgot i1 y1 v1 hy1 hv1
     obtain⟨A2,hA2,g2⟩:=hgot i2 y2 v2 hy2 hv2
     obtain⟨pt1,f1⟩:=g1.own
     obtain⟨j1,l1,a1,a2,a3⟩:=f1 p1 k o1
     have hA12:∃(j2:Nat) (l2:Loc),A2[j2]?=some l2/\Own F g w S a (.l l2) [] k:=by
      obtain⟨pt2,f2⟩:=g2.own
      obtain⟨j2,l2,c1,c2,c3⟩:=f2 p2 k o2
      exact⟨j2,l2,c1,c3⟩
     obtain⟨j2,l2,c1,c3⟩:=hA12
     have hl12:=(h.uniq _ _ _ _ k a3 c3).1
     injection hl12 with hl12
     subst hl12
     obtain⟨rfl,rfl⟩:=uB_ hnd hA1 a1 hA2 c1
     rw[hy1]at hy2;cases hy2
     rw[hv1]at hv2;cases hv2
     obtain⟨j3,l3,d1,d2,d3⟩:=f1 p2 k o2
     have hl13:=(h.uniq _ _ _ _ k a3 d3).1
     injection hl13 with hl13
     subst hl13
     obtain⟨_,rfl⟩:=uB_ hnd hA1 a1 hA1 d1
     rw[a2,d2]
   .have:=(h.uniq _ _ _ _ k q4 ho').1
    injection this with this
    subst this
    simp[locK]at hlk
    omega
  .rcases hownm r' p' k h2 with ⟨rfl,ho'⟩|⟨b',o',rfl,hb',ho'⟩
   .obtain⟨i,j,l,A,q2,q3,q4⟩:=hownS p' k ho'
    have hlk:locK n l=true:=hloc l (List.mem_flatten.2 ⟨A,zzd_ q2,zzd_ q3⟩)
    have:=(h.uniq _ _ _ _ k ho q4).1
    injection this with this
    subst this
    simp[locK]at hlk
    omega
   .exact h.uniq _ _ _ _ k ho ho'
 .intro t p x v hx hv
  have:x=.no:=by cases p<;>simp[Stn,V.sub]at hx;exact hx.symm
  subst this
  trivial
 .intro l x hl p
  rcases hat l x hl with ⟨rfl,rfl⟩|⟨b,o,rfl,hb,h3,h4⟩
  .exact⟨fun l' e hs=>(hsubok p _ hs).1 l' e rfl,fun l' e lo m hs=>(hsubok p _ hs).2.1 l' e lo m rfl,fun l' e i q hs=>(hsubok p _ hs).2.2.1 l' e i q rfl,fun cs hs=>(hsubok p _ hs).2.2.2.1 cs rfl⟩
  .exact h.novw _ x h3 p
 .intro t p d e0 e z xs hs
  cases p<;>simp[Stn,V.sub]at hs
 .intro t ht;rfl
 .intro t p x hx
  have:x=.no:=by cases p<;>simp[Stn,V.sub]at hx;exact hx.symm
  subst this
  exact zzn_ _
 .intro l x hx
  rcases hat l x hx with ⟨rfl,rfl⟩|⟨b,o,rfl,hb,h3,h4⟩
  .obtain⟨q1,q2,q3,q4,q5⟩:=hsubok [] _ rfl
   cases hp:pack ys<;>rw[hp]at q1 q2 q3 q4 q5<;>first|exact zzn_ _|exact absurd rfl (q1 _ _)|exact absurd rfl (q2 _ _ _ _)|exact absurd rfl (q3 _ _ _ _)|exact absurd rfl (q5 _ _ _ _ _)
  .obtain⟨q1,q2,q3,q4⟩:=h.novw _ x h3 []
   cases x<;>first|exact zzn_ _|exact absurd rfl (q1 _ _)|exact absurd rfl (q2 _ _ _ _)|exact absurd rfl (q3 _ _ _ _)|(simp[yf_]at h4;done)
 .intro l d e z xs v k hl
  rcases hat l _ hl with ⟨rfl,q⟩|⟨b,o,rfl,hb,h3,h4⟩
  .exact absurd q.symm ((hsubok [] _ rfl).2.2.2.2 d _ e z xs)
  .simp[yf_]at h4
 .rintro k (⟨r,p,ho⟩|⟨b,hb,e⟩)
  .rcases hownm r p k ho with ⟨_,ho'⟩|⟨b,o,_,_,ho'⟩
   .obtain⟨i,j,l,A,_,_,q⟩:=hownS p k ho';exact .inl ⟨_,_,q⟩
   .exact .inl ⟨_,_,ho'⟩
  .exact .inr ⟨b,by simp only[Stn,hlenB]at hb;omega,e⟩
end
end
section
def St0(F:Fr)(args:List V)(bs:List (List V)):St:=⟨fun _=>.no,args++List.replicate (F.sv.length-args.length) .no,bs,0⟩
def tT_(n:Nat)(rvs:List RV)(Q:V->List (List V)->Prop)(S:St):Prop :=
 match rvVs S rvs with
 |some (ys,ls)=>∃m,n<=m/\wT_ m S ys ls=true/\Q (pack ys) (S.bx.take m)
 |none=>False
def AX.isEnd:AX->Bool
 |.exit _=>false
 |.goto _=>false
 |_=>true
section
variable{P:Program}{F:Fr}{g:Gh}{w:World}
theorem pk_{args:List V}{vals:Array Value}{bs:List (List V)}(hb:Bd g w args vals bs)(hdf:F.df=[])(hle:args.length<=F.N)(hsv:F.sv.take args.length=List.range args.length) :
 Rel F g w (St0 F args bs) ⟨vals++Array.replicate (F.N-vals.size) undef,[]⟩/\(∀k,wN_ F g w (St0 F args bs) ⟨vals++Array.replicate (F.N-vals.size) undef,[]⟩ k->OwnB g w args vals bs k):=by
 have hsz:vals.size=args.length:=hb.sz
 have hlen:args.length<=F.sv.length:=by have:=congrArg List.length hsv;simp at this;omega
 have hsvi:∀i,i<args.length->F.sv[i]?=some i:=by
  intro i hi
  have:(F.sv.take args.length)[i]?=some i:=by rw[hsv];simp[hi]
  rw[zzu_,if_pos hi]at this
  exact this
 have hat:∀l x,(St0 F args bs).at l=some x->(Stn args bs).at l=some x\/(x=.no/\∃i,l=.var i/\i<F.sv.length):=by
  intro l x hx
  cases l with
  | var i =>
    simp only[St0,St.at,List.getElem?_append]at hx
    split at hx
    .exact .inl hx
    .rw[List.getElem?_replicate]at hx
     split at hx
     .cases hx;exact .inr ⟨rfl,i,rfl,by omega⟩
     .cases hx
  |cell b o=>exact .inl hx
 have hval:∀l x,(Stn args bs).at l=some x->z8_ F g w ⟨vals++Array.replicate (F.N-vals.size) undef,[]⟩ l=z8_ (Frn args.length) g w ⟨vals,[]⟩ l:=by
  intro l x hx
  cases l with
  | var i =>
    have hi:i<args.length:=(zzc_.1 (show args[i]?=some x from hx)).1
    have hi2:i<vals.size:=by omega
    simp[z8_,hsvi i hi,Frn,hi,Act.tv,Array.getElem?_append,hi2]
  |cell b o=>rfl
 have hhas:∀l x v,Has F g w (St0 F args bs) ⟨vals++Array.replicate (F.N-vals.size) undef,[]⟩ (.l l) x v->x=.no\/Has (Frn args.length) g w (Stn args bs) ⟨vals,[]⟩ (.l l) x v:=by
  intro l x v ⟨h1,h2⟩
  rcases hat l x h1 with h3|⟨h3,_⟩
  .rw[hval l x h3]at h2;exact .inr ⟨h3,h2⟩
  .exact .inl h3
 have hno:∀p x,V.sub p .no=some x->x=.no:=by
  intro p x hs
  cases p<;>simp[V.sub]at hs
  exact hs.symm
 have hown:∀r p k,Own F g w (St0 F args bs) ⟨vals++Array.replicate (F.N-vals.size) undef,[]⟩ r p k->Own (Frn args.length) g w (Stn args bs) ⟨vals,[]⟩ r p k:=by
  intro r p k ⟨x,v,hh,ho⟩
  cases r with
  | t t =>
    obtain⟨rfl,_⟩:=hh
    rcases ho with ⟨e,z,xs,u,d1,_⟩|⟨_,d1,_⟩
    .cases hno p _ d1
    .simp[St0,zi_]at d1
  | l l =>
    rcases hhas l x v hh with rfl|h3
    .rcases ho with ⟨e,z,xs,u,d1,_⟩|⟨_,d1,_⟩
     .cases hno p _ d1
     .simp[zi_]at d1
    .exact⟨x,v,h3,ho⟩
 refine⟨⟨?_,hdf.symm,?_,?_,?_,hb.box,hb.inj,?_,?_,?_,?_,?_,?_,hb.Ilt,?_,?_,?_,?_⟩,?_⟩
 .simp;omega
 .intro r x v hh
  cases r with
  |t t=>obtain⟨rfl,_⟩:=hh;exact .no
  | l l =>
    rcases hhas l x v hh with rfl|h3
    .exact .no
    .exact hb.rep _ x v h3
 .intro l x hx
  rcases hat l x hx with h3|⟨rfl,i,rfl,hi⟩
  .rw[hval l x h3];exact hb.lookv l x h3
  .exact⟨_,by simp[z8_,hi];rfl,fun ⟨b,o,e⟩=>by cases e⟩
 .intro l d e z xs v hl hv
  rcases hat l _ hl with h3|⟨h3,_⟩
  .rw[hval l _ h3]at hv;exact hb.lentr l d e z xs v h3 hv
  .cases h3
 .intro r x v p b o hh hs
  cases r with
  |t t=>obtain⟨rfl,_⟩:=hh;cases hno p _ hs
  | l l =>
    rcases hhas l x v hh with rfl|h3
    .cases hno p _ hs
    .exact hb.ptr _ x v p b o h3 hs
 .exact fun r p k ho=>hb.ownI r p k (hown r p k ho)
 .exact fun r p r' p' k h1 h2=>hb.uniq r p r' p' k (hown r p k h1) (hown r' p' k h2)
 .intro t p x v hx hv
  have:=hno p x hx
  subst this
  trivial
 .intro l x hl p
  rcases hat l x hl with h3|⟨rfl,_⟩
  .exact hb.novw l x h3 p
  .refine⟨fun l' e hs=>?_,fun l' e lo n hs=>?_,fun l' e i q hs=>?_,fun cs hs=>?_⟩<;>cases hno p _ hs
 .intro t p d e0 e z xs hs
  cases hno p _ hs
 .intro t ht;rfl
 .intro t p x hx
  have:=hno p x hx
  subst this
  exact zzn_ _
 .intro l x hx
  rcases hat l x hx with h3|⟨rfl,_⟩
  .exact hb.epl l x h3
  .exact zzn_ _
 .intro l d e z xs v k hl hv hk r p m ho
  rcases hat l _ hl with h3|⟨h3,_⟩
  .rw[hval l _ h3]at hv
   refine hb.lentl l d e z xs v k h3 hv hk r p m ?_
   obtain⟨x,v',hh,ho⟩:=ho
   cases r with
   | t t =>
     obtain⟨rfl,_⟩:=hh
     rcases ho with ⟨e,z,xs,u,d1,_⟩|⟨_,d,e,z,xs,d1,_⟩
     .cases hno p _ d1
     .cases d1
   | l l' =>
     rcases hhas l' x v' hh with rfl|h4
     .rcases ho with ⟨e,z,xs,u,d1,_⟩|⟨_,d,e,z,xs,d1,_⟩
      .cases hno p _ d1
      .cases d1
     .exact⟨x,v',h4,ho⟩
  .cases h3
 .rintro k (⟨r,p,ho⟩|⟨b,hb',e⟩)
  .exact .inl ⟨r,p,hown r p k ho⟩
  .exact .inr ⟨b,hb',e⟩
theorem ls_{f:FuncId}{fn:Func}{c:Code}(hf:P.funcs[f]?=some fn)(hb:fn.body=some c)(hm:P.follows .mixedOrders=true)(hF:F.ok)(hdf:F.df=[])(hN:F.N=fn.ntmps){ac:ACode}(hc:comp P F c=some (zs_ ac))(hla:zq_ ac=true){rvs:List RV}(hr:vZ_ P F fn.results.toList=some rvs)(hr6:fn.results.size<=6)
 {args:List V} {bs:List (List V)} (hle:args.length<=F.N) (hsv:F.sv.take args.length=List.range args.length) {Q:V->List (List V)->Prop}
 (hw:W P F bs.length ac (St0 F args bs) fun x S=>x.isEnd=true/\tT_ bs.length rvs Q S):AC P f args bs Q:=by
 intro g w vals hbd
 obtain⟨h0,ho0⟩:=pk_ (F:=F) hbd hdf hle hsv
 refine calls_of_wp hf hb ?_
 rw[<-hN]
 have hrch:Rch F bs.length g w (St0 F args bs) ⟨vals++Array.replicate (F.N-vals.size) undef,[]⟩ g w (St0 F args bs) ⟨vals++Array.replicate (F.N-vals.size) undef,[]⟩:=⟨h0,Fw.refl _ _ _ _ _,zzl_ _,fun _ _=>rfl⟩
 refine w_ok hF hm ac c hc hla hrch hw fun x S' g' w' a' ⟨hx,hq⟩ hr'=>?_
 have main:a'.defers=[]/\∃v,(results fn a'.tmps).run P w'=.ok v w'/\∃v' r bs' g'',Ending.returned v=.returned v'/\Q r bs'/\okV r=true/\Bd g'' w' [r] #[v'] bs'/\Ext g w (OwnB g w args vals bs) g'' w' (OwnB g'' w' [r] #[v'] bs') bs.length:=by
  refine⟨hr'.rel.dfr.trans hdf,?_⟩
  unfold tT_ at hq
  split at hq
  .next ys ls hrv =>
   obtain⟨m,hnm,hex,hQ⟩:=hq
   obtain⟨vs,lss,e1,e2,e3,rfl,e5,e6⟩:=gots hr'.rel hr hrv
   obtain⟨k1,k2,k3⟩:=nN_ hr'.rel (by omega) (by omega) hex e6
   refine⟨packV vs.toArray,s6_ (rs:=fn.results.toList) (by simp) (by simpa using hr6) e1 e5,_,pack ys,S'.bx.take m,g',rfl,hQ,k1,k2,?_⟩
   have hfw:=hr'.fw
   refine⟨hfw.os,hfw.tape,hfw.output,hfw.size,fun k hk ho=>hfw.same k hk (fun h=>ho (ho0 k h)),fun k ho=>?_,hr'.phi⟩
   rcases hfw.owned k (k3 k ho) with q|q
   .exact .inl (ho0 k q)
   .exact .inr q
  .exact hq.elim
 cases x with
 |normal=>exact main
 |ret=>exact main
 |exit id=>simp[AX.isEnd]at hx
 |goto l=>simp[AX.isEnd]at hx
end
end
section
def dupN:List Nat->Bool
 |[]=>true
 |l::r=>!r.contains l&&dupN r
def okF(F:Fr):Bool:=dupN F.sv&&F.sv.all (fun t=>decide (t<F.N))&&F.df.isEmpty
def zC_(P:Program)(f:Nat)(F:Fr):Option (Nat×ACode×List RV) :=
 match P.funcs[f]? with
 | some fn => match fn.body with
   |some c=>if okF F&&Nat.beq fn.ntmps F.N&&decide (fn.params.size+fn.nfree<=F.N)&&(F.sv.take (fn.params.size+fn.nfree)==List.range (fn.params.size+fn.nfree))&&decide (fn.results.size<=6) then
    (comp P F c).bind fun a=>(vZ_ P F fn.results.toList).bind fun r=>some ((fn.params.size+fn.nfree),a,r) else none
   |none=>none
 |none=>none
def RetP(rvs:List RV)(q:V->Prop)(S:St):Prop :=
 match rvVs S rvs with
 |some (ys,ls)=>wT_ 0 S ys ls=true/\q (pack ys)
 |none=>False
def tmL:List (Nat×V)->Nat->V
 |[],_=>.no
 |(t,x)::r,u=>if u=t then x else tmL r u
def yX_(n:Nat):V->Bool
 |.agg cs=>cs.all immC
 |x=>yf_ n x
def zM_(n:Nat):V->Bool
 |.s _|.list _ _=>true
 |.ptr b _=>decide (b<n)
 |.agg cs=>cs.all immC
 |_=>false
def yS_:List Nat->List V->List V
 |[],vs=>vs
 |i::r,vs=>yS_ r (vs.set i .no)
def wkn(keep drop:List Nat)(nb:Nat)(S:St):St:=⟨tmL (keep.map fun t=>(t,S.tm t)),yS_ drop S.vs,S.bx.take nb,0⟩
def uP_(keep drop:List Nat)(nb:Nat)(S:St):Bool:=keep.all (fun t=>zM_ nb (S.tm t))&&(yS_ drop S.vs).all (yX_ nb)&&(S.bx.take nb).all (·.all (yf_ nb))&&decide (nb<=S.bx.length)
section
variable{P:Program}{F:Fr}
set_option linter.unusedVariables false
theorem uc_:∀ {ls:List Nat},dupN ls=true->ls.Nodup
 |[],_=>List.nodup_nil
 | l :: r, h => by
   simp only[dupN,zzg_,yyh_,List.contains_eq_mem,decide_eq_false_iff_not]at h
   exact List.nodup_cons.2 ⟨h.1,uc_ h.2⟩
theorem mp_(h:okF F=true):F.ok:=by
 simp only[okF,zzg_,zzh_,zzp_]at h
 obtain⟨⟨h1,h2⟩,_⟩:=h
 refine⟨fun i j t hi hj=>?_,h2⟩
 obtain⟨a1,a2⟩:=zzc_.1 hi
 obtain⟨b1,b2⟩:=zzc_.1 hj
 exact(List.getElem_inj (uc_ h1)).1 (a2.trans b2.symm)
theorem mq_(h:okF F=true):F.df=[]:=by
 simp only[okF,zzg_]at h
 exact List.isEmpty_iff.1 h.2
theorem lt_{f np:Nat}{ac:ACode}{rvs:List RV}(h:zC_ P f F=some (np,zs_ ac,rvs)/\zq_ ac=true)(hm:P.follows .mixedOrders=true){args:List V}(hl:args.length=np){bs:List (List V)}{Q:V->List (List V)->Prop}
 (hw:W P F bs.length ac (St0 F args bs) fun x S=>x.isEnd=true/\tT_ bs.length rvs Q S):AC P f args bs Q:=by
 obtain⟨h,hla⟩:=h
 unfold zC_ at h
 split at h
 .next fn hf =>
  split at h
  .next c hb =>
   split at h
   .next hcond =>
    simp only[zzg_,zzp_,beq_iff_eq]at hcond
    obtain⟨⟨⟨⟨h1,h2⟩,h3⟩,h4⟩,h5⟩:=hcond
    have h2':fn.ntmps=F.N:=yyq_ h2
    simp only[zza_]at h
    obtain⟨a,hc,r,hr,h⟩:=h
    simp only[yya_,yyc_]at h
    obtain⟨rfl,rfl,rfl⟩:=h
    exact ls_ hf hb hm (mp_ h1) (mq_ h1) h2'.symm hc hla hr h5 (by omega) (by rw[hl];exact h4) hw
   .cases h
  .cases h
 .cases h
theorem rZ_{o:AOper}{S:St}{K K':St->Prop}(hk:∀S,K S->K' S)(h:WO P o S K):WO P o S K':=by
 unfold WO at h ⊢
 cases hop:o.op with
 | call f args =>
   simp only[hop]at h ⊢
   unfold oC_ at h ⊢
   obtain⟨d',e,h⟩:=h
   refine⟨d',e,?_⟩
   rcases h with ⟨ys,tm1,h0,h1,q,h2,h3⟩|⟨ys,h0,q,h2,h3⟩|⟨ys,tm1,h0,mask,sel,args',bs,Q,h1,h2,h3⟩|⟨q,h1,h2⟩
   .exact .inl ⟨ys,tm1,h0,h1,q,h2,fun r hr=>hk _ (h3 r hr)⟩
   .exact .inr (.inl ⟨ys,h0,q,h2,fun r hr=>⟨(h3 r hr).1,hk _ (h3 r hr).2⟩⟩)
   .exact .inr (.inr (.inl ⟨ys,tm1,h0,mask,sel,args',bs,Q,h1,h2,fun r bs' hr=>⟨(h3 r bs' hr).1,hk _ (h3 r bs' hr).2⟩⟩))
   .exact .inr (.inr (.inr ⟨q,h1,fun r hr=>hk _ (h2 r hr)⟩))
 | callv t args =>
   simp only[hop]at h ⊢
   obtain⟨d',b,f,e,h0,h1,ys,tm1,h2,mask,sel,args',bs,Q,h3,h4,h5⟩:=h
   exact⟨d',b,f,e,h0,h1,ys,tm1,h2,mask,sel,args',bs,Q,h3,h4,fun r bs' hr=>⟨(h5 r bs' hr).1,hk _ (h5 r bs' hr).2⟩⟩
 | isn ne x =>
   simp only[hop]at h ⊢
   split
   .next d r h1 h2=>rw[h1,h2]at h;exact fun b hb=>hk _ (h b hb)
   .next q =>
    split at h
    .next d r h1 h2=>exact q d r h1 h2
    .exact h
 | _ =>
   simp only[hop]at h ⊢
   split
   .next S' hs=>rw[hs]at h;exact hk _ h
   .next hs=>rw[hs]at h;exact h
theorem q3_{o:AOper}{S:St}{K K':St->Prop}(hk:∀S,K S->K' S)(h:WG P o S K):WG P o S K':=by
 unfold WG at h ⊢
 split
 .next hg=>simp only[hg]at h;exact rZ_ hk h
 .next t want hg =>
  simp only[hg]at h
  split
  .next hb =>
   simp only[hb]at h
   exact rZ_ hk h
  .next hb =>
   simp only[hb]at h
   split
   .next S' hs=>rw[hs]at h;exact hk _ h
   .next hs=>rw[hs]at h;exact h
  .next hb =>
   simp only[hb]at h
theorem rW_:∀(l:List AOper) {S:St} {K K':St->Prop},(∀S,K S->K' S)->WR P l S K->WR P l S K'
 |[],S,K,K',hk,h=>hk _ h
 |o::r,S,K,K',hk,h=>q3_ (fun S' h'=>rW_ r hk h') h
theorem q2_{ops:List AOper}{es:List (List Nat)}:∀(f:Nat) {L:List Nat} {S:St} {K K':St->Prop},(∀S,K S->K' S)->WN P ops es f L S K->WN P ops es f L S K'
 |0,L,S,K,K',hk,h=>⟨h.1,hk _ h.2⟩
 |f+1,L,S,K,K',hk,h=>⟨fun h0=>hk _ (h.1 h0),fun i hi o ho=>q3_ (fun S' h'=>q2_ f hk h') (h.2 i hi o ho)⟩
theorem sr_{A:Ann}:∀(l:List AOper) {k:Nat} {S:St} {K K':St->Prop},(∀S,K S->K' S)->WDR P A K k l S->WDR P A K' k l S
 |[],k,S,K,K',hk,h=>hk _ h
 |o::r,k,S,K,K',hk,⟨S',h1,h2⟩=>⟨S',h1,sr_ r hk h2⟩
theorem oI_{n:Nat}:∀(c:ACode) {S:St} {Q Q':AX->St->Prop},(∀x S,Q x S->Q' x S)->W P F n c S Q->W P F n c S Q':=by
 intro c
 induction c with
 |skip=>intro S Q Q' hq h;exact hq _ _ h
 |exit id=>intro S Q Q' hq h;exact hq _ _ h
 |ret=>intro S Q Q' hq h;exact hq _ _ h
 |label l=>intro S Q Q' hq h;exact hq _ _ h
 |goto l=>intro S Q Q' hq h;exact hq _ _ h
 | scope l x y ihx ihy =>
   intro S Q Q' hq h
   refine ihx (fun e S' h'=>?_) h
   cases e with
   |normal=>exact hq _ _ h'
   |exit id=>exact hq _ _ h'
   |ret=>exact hq _ _ h'
   | goto l =>
     refine⟨h'.1,ihy (fun e S' h''=>?_) h'.2⟩
     cases e with
     |goto l=>exact h''
     |normal=>exact hq _ _ h''
     |exit id=>exact hq _ _ h''
     |ret=>exact hq _ _ h''
 | reg id pre ops es an =>
   intro S Q Q' hq h
   simp only[W]at h ⊢
   refine⟨h.1,?_⟩
   have h:=h.2
   split
   .next S1 hs =>
    simp only[hs]at h
    cases es with
    |none=>exact rW_ _ (hq .normal) h
    | some es =>
      simp only at h ⊢
      split at h
      .next he=>rw[if_pos he];exact q2_ _ (hq .normal) h
      .next he=>rw[if_neg he];exact sr_ _ (hq .normal) h
   .next hs=>simp only[hs]at h
 | seq x y ihx ihy =>
   intro S Q Q' hq h
   refine ihx (fun e S' h'=>?_) h
   cases e with
   |normal=>exact ihy hq h'
   |exit id=>exact hq _ _ h'
   |ret=>exact hq _ _ h'
   |goto l=>exact hq _ _ h'
 | cond c x y ihx ihy =>
   intro S Q Q' hq h
   simp only[W]at h ⊢
   split
   .next b hb =>
    simp only[hb]at h
    cases b with
    |true=>simp only[if_true]at h ⊢;exact ihx hq h
    |false=>simp only[yyi_,if_false]at h ⊢;exact ihy hq h
   .next hno =>
    split at h
    .next b hb=>exact absurd hb (hno b)
    .exact h
 | block id c ih =>
   intro S Q Q' hq h
   refine ih (fun e S' h'=>?_) h
   cases e with
   |normal=>exact hq _ _ h'
   | exit id' =>
     simp only at h' ⊢
     split
     .next e=>rw[if_pos e]at h';exact hq _ _ h'
     .next e=>rw[if_neg e]at h';exact hq _ _ h'
   |ret=>exact hq _ _ h'
   |goto l=>exact hq _ _ h'
 | loop c ih =>
   intro S Q Q' hq h
   simp only[W]at h ⊢
   obtain⟨Inv,h1,h2⟩:=h
   refine⟨Inv,h1,fun m S hl hI=>ih (fun e S' h'=>?_) (h2 m S hl hI)⟩
   cases e with
   |normal=>exact h'
   |exit id=>exact hq _ _ h'
   |ret=>exact hq _ _ h'
   |goto l=>exact hq _ _ h'
theorem ll_{f np:Nat}{ac:ACode}{rvs:List RV}(h:zC_ P f F=some (np,zs_ ac,rvs)/\zq_ ac=true)(hm:P.follows .mixedOrders=true){args:List V}(hl:args.length=np){q:V->Prop}
 (hw:W P F 0 ac (St0 F args []) fun x S=>x.isEnd=true/\RetP rvs q S):PC P f args q:=by
 refine lt_ h hm hl (bs:=[]) (oI_ ac (fun x S hq=>⟨hq.1,?_⟩) hw)
 have hq:=hq.2
 unfold RetP at hq
 unfold tT_
 split
 .next ys ls hs=>simp only[hs]at hq;exact⟨0,zzl_ _,hq.1,rfl,hq.2⟩
 .next hs=>simp only[hs]at hq
theorem na_{f:Nat->V}{keep:List Nat}(t:Nat):tmL (keep.map fun t=>(t,f t)) t=if keep.contains t then f t else .no:=by
 induction keep with
 |nil=>rfl
 | cons k r ih =>
   simp only[List.map_cons,tmL,ih]
   by_cases e:t=k
   .subst e;simp
   .simp[e]
theorem u9_:∀(ds:List Nat) (vs:List V),(yS_ ds vs).length=vs.length/\∀(i:Nat) (x:V),(yS_ ds vs)[i]?=some x->vs[i]?=some x\/x=.no
 |[],vs=>⟨rfl,fun i x h=>.inl h⟩
 | d :: r, vs => by
   obtain⟨h1,h2⟩:=u9_ r (vs.set d .no)
   refine⟨by simpa[yS_] using h1,fun i x h=>?_⟩
   rcases h2 i x h with q|q
   .rw[List.getElem?_set]at q
    split at q
    .split at q
     .cases q;exact .inr rfl
     .cases q
    .exact .inl q
   .exact .inr q
theorem oG_{keep drop:List Nat}{nb:Nat}{S:St}(h:uP_ keep drop nb S=true):Wk S (wkn keep drop nb S)/\(wkn keep drop nb S).bx.length=nb:=by
 simp only[uP_,zzg_,zzh_,zzp_]at h
 obtain⟨⟨⟨h1,h2⟩,h3⟩,h4⟩:=h
 have hlen:(wkn keep drop nb S).bx.length=nb:=by simp[wkn];omega
 have htm:∀t,(wkn keep drop nb S).tm t=.no\/((wkn keep drop nb S).tm t=S.tm t/\zM_ nb (S.tm t)=true):=by
  intro t
  simp only[wkn,na_]
  by_cases e:keep.contains t=true
  .rw[if_pos e];exact .inr ⟨rfl,h1 t (by simpa using e)⟩
  .rw[if_neg e];exact .inl rfl
 have hsub:∀t p x,((wkn keep drop nb S).tm t).sub p=some x->x=.no\/zM_ nb x=true:=by
  intro t p x hs
  rcases htm t with q|⟨q1,q2⟩
  .rw[q]at hs;cases p<;>simp[V.sub]at hs;exact .inl hs.symm
  .rw[q1]at hs
   cases p with
   |nil=>simp[V.sub]at hs;rw[hs]at q2;exact .inr q2
   | cons i p =>
     cases hx:S.tm t<;>rw[hx]at hs q2<;>simp only[V.sub]at hs<;>first|(cases hs;done)|skip
     .simp only[zza_]at hs
      obtain⟨c,k1,k2⟩:=hs
      have hi:=zzh_.1 q2 c (zzd_ k1)
      cases p with
      |nil=>simp[V.sub]at k2;subst k2;cases c<;>simp[immC]at hi<;>exact .inr rfl
      |cons j p=>cases c<;>simp[V.sub]at k2<;>simp[immC]at hi
     .simp[zM_]at q2
 have hat:∀l x,(wkn keep drop nb S).at l=some x->yX_ nb x=true:=by
  intro l x hx
  cases l with
  |var i=>exact h2 x (zzd_ (show (yS_ drop S.vs)[i]?=some x from hx))
  | cell b o =>
    simp only[wkn,St.at,zza_]at hx
    obtain⟨cs,k1,k2⟩:=hx
    have:=h3 cs (zzd_ k1) x (zzd_ k2)
    cases x<;>first|exact this|(simp[yf_]at this;done)
 refine⟨⟨fun t=>?_,u9_ drop S.vs,⟨nb,rfl⟩,fun t p b o hs=>?_,fun l x p b o hx hs=>?_,fun l x hx d e0 e z xs he=>?_,.inr (.inl fun t p x hs=>?_)⟩,hlen⟩
 .rcases htm t with q|⟨q,_⟩
  .exact .inr q
  .exact .inl q
 .rw[hlen]
  rcases hsub t p _ hs with q|q
  .cases q
  .simpa[zM_] using q
 .rw[hlen]
  have hc:=hat l x hx
  cases p with
  |nil=>simp[V.sub]at hs;subst hs;simpa[yX_,yf_] using hc
  | cons i p =>
    cases x<;>simp only[V.sub]at hs<;>first|cases hs;done|skip
    .simp only[zza_]at hs
     obtain⟨c,k1,k2⟩:=hs
     simp only[yX_,zzh_]at hc
     have:=hc c (zzd_ k1)
     cases p with
     |nil=>simp[V.sub]at k2;subst k2;simp[immC]at this
     |cons j p=>cases c<;>simp[V.sub]at k2<;>simp[immC]at this
    .simp[yX_,yf_]at hc
 .subst he;simpa[yX_,yf_] using hat l _ hx
 .rcases hsub t p x hs with rfl|q
  .exact⟨rfl,fun _ _ e=>(by cases e),fun _ _ _ _ e=>(by cases e),fun _ _ _ _ e=>(by cases e)⟩
  .cases x<;>simp[zM_]at q<;>exact⟨rfl,fun _ _ e=>(by cases e),fun _ _ _ _ e=>(by cases e),fun _ _ _ _ e=>(by cases e)⟩
theorem m3_{n:Nat}{c:ACode}{S:St}{Q:AX->St->Prop}(keep drop:List Nat)(nb:Nat)(hnb:n<=nb)(Inv:Nat->St->Prop)(m0:Nat)(h0:uP_ keep drop nb S=true/\Inv m0 (wkn keep drop nb S))
 (hr:∀m S,Inv m S->W P F n c S fun e S'=>match e with|.normal=>uP_ keep drop nb S'=true/\∃m',m'<m/\Inv m' (wkn keep drop nb S')|e=>Q e S'):W P F n (.loop c) S Q:=by
 obtain⟨k1,k2⟩:=oG_ h0.1
 refine⟨Inv,⟨m0,_,k1,by omega,h0.2⟩,fun m S hl hI=>oI_ c (fun e S' h'=>?_) (hr m S hI)⟩
 cases e with
 | normal =>
   obtain⟨q1,m',q2,q3⟩:=h'
   obtain⟨k3,k4⟩:=oG_ q1
   exact⟨m',_,q2,k3,by omega,q3⟩
 |exit id=>exact h'
 |ret=>exact h'
 |goto l=>exact h'
end
end
end Go.Proofs.Ytnbppaolinopeaa
