/- Parts of the proof of a law of chapter 30, put behind one another. -/
import Derived.Test.YtpfjlnmnolbiaaaZD
import Derived.Laws.BitsAllLaws
import Derived.Laws.BitsLemmas
set_option linter.unusedVariables false
set_option maxHeartbeats 64000000
set_option maxRecDepth 100000
set_option linter.unusedSimpArgs false
namespace Go.Proofs.Ytpfjlnmnolbiaaa
open Go.RowKit Go.Proofs
section
def immT:V->Bool
 |.tup vs=>vs.all immA
 |x=>immA x
theorem th_{y x:V}{p:List Nat}(h:immT y=true)(hs:y.sub p=some x):(∃vs,x=.tup vs)\/(∃cs,x=.agg cs)\/immC x=true:=by
 have main:∀ {y x:V} {p:List Nat},immA y=true->y.sub p=some x->(∃cs,x=.agg cs)\/immC x=true:=by
  intro y x p h hs
  cases p with
  | nil =>
    simp[V.sub]at hs
    subst hs
    cases y with
    |agg cs=>exact .inl ⟨cs,rfl⟩
    |_=>exact .inr h
  | cons i p =>
    cases y with
    | agg cs =>
      simp only[V.sub,zza_]at hs
      obtain⟨c,hc,hp⟩:=hs
      simp only[immA,zzh_]at h
      obtain⟨_,rfl⟩:=xC_ (h c (zzd_ hc)) hp
      exact .inr (h _ (zzd_ hc))
    |tup vs=>simp[immA,immC]at h
    |_=>simp[V.sub]at hs
 cases y with
 | tup vs =>
   cases p with
   |nil=>simp[V.sub]at hs;exact .inl ⟨vs,hs.symm⟩
   | cons i p =>
     simp only[V.sub,zza_]at hs
     obtain⟨c,hc,hp⟩:=hs
     simp only[immT,zzh_]at h
     exact .inr (main (h c (zzd_ hc)) hp)
 |_=>refine .inr (main ?_ hs);exact h
section
variable{P:Program}{g:Gh}{w:World}
theorem nn_{y:V}{v:Value}(hi:immT y=true)(hr:Rep g w y v)(hlt:∀k,0<g.I k->k<w.heap.size):Bd g w [y] #[v] []/\∀k,¬OwnB g w [y] #[v] [] k:=by
 have hat:∀l x,(Stn [y] []).at l=some x->l=.var 0/\x=y:=by
  intro l x hx
  cases l with
  | var i =>
    cases i with
    |zero=>simp[Stn,St.at]at hx;exact⟨rfl,hx.symm⟩
    |succ i=>simp[Stn,St.at]at hx
  |cell b o=>simp[Stn,St.at]at hx
 have hval:z7_ (Frn 1) g w ⟨#[v],[]⟩ (.var 0)=some v:=by simp[z7_,Frn,Act.tv]
 have hno:∀ {t p x},((Stn [y] []).tm t).sub p=some x->x=.no:=by
  intro t p x hs
  cases p<;>simp[Stn,V.sub]at hs
  exact hs.symm
 have hnl:∀ {d e0 e z:Nat} {xs:List V},y≠.lent d e0 e z xs:=by
  intro d e0 e z xs q
  subst q
  simp[immT,immA,immC]at hi
 have hown:∀r p k,¬Own (Frn 1) g w (Stn [y] []) ⟨#[v],[]⟩ r p k:=by
  intro r p k ⟨x,u,hh,ho⟩
  cases r with
  | t t =>
    obtain⟨rfl,rfl⟩:=hh
    rcases ho with ⟨_,_,_,_,q,_⟩|⟨_,q,_⟩
    .cases hno q
    .simp[Stn,zk_]at q
  | l l =>
    obtain⟨rfl,rfl⟩:=hat l x hh.1
    rcases ho with ⟨e,z,xs,_,q,_⟩|⟨_,q,_⟩
    .rcases th_ hi q with ⟨_,q⟩|⟨_,q⟩|q
     .cases q
     .cases q
     .simp[immC]at q
    .obtain⟨d,e,z,xs,q1,_⟩:=z3_ q
     exact hnl q1
 refine⟨⟨rfl,rfl,?_,?_,?_,?_,?_,?_,?_,?_,?_,?_,?_,hlt,?_,?_,?_,?_⟩,fun k ho=>?_⟩
 .intro r x u hh
  cases r with
  |t t=>obtain⟨rfl,rfl⟩:=hh;exact .no
  | l l =>
    obtain⟨rfl,rfl⟩:=hat l x hh.1
    have hu:=hh.2
    have e:u=v:=by
     have h2:z7_ (Frn 1) g w ⟨#[v],[]⟩ (.var 0)=some u:=hu
     rw[hval]at h2
     exact(Option.some.inj h2).symm
    subst e
    exact hr
 .intro l x hx
  obtain⟨rfl,rfl⟩:=hat l x hx
  exact⟨v,hval,fun ⟨b,o,q⟩=>by cases q⟩
 .intro l d e z xs u hx _
  obtain⟨_,q⟩:=hat l _ hx
  exact absurd q.symm hnl
 .intro b cs hb;simp[Stn]at hb
 .intro b b' hb;simp[Stn]at hb
 .intro r x u p b o hh hs
  cases r with
  |t t=>obtain⟨rfl,rfl⟩:=hh;cases hno hs
  | l l =>
    obtain⟨rfl,rfl⟩:=hat l x hh.1
    rcases th_ hi hs with ⟨_,q⟩|⟨_,q⟩|q
    .cases q
    .cases q
    .simp[immC]at q
 .intro r p k ho;exact absurd ho (hown r p k)
 .intro r p r' p' k ho;exact absurd ho (hown r p k)
 .intro t p x u hx hu
  cases hno hx
  trivial
 .intro l x hx p
  obtain⟨rfl,rfl⟩:=hat l x hx
  refine⟨?_,?_,?_,?_⟩<;>intros<;>intro hs<;>rcases th_ hi hs with ⟨_,q⟩|⟨_,q⟩|q<;>first|cases q|simp[immC]at q
 .intro t p d e0 e z xs hs
  cases hno hs
 .intro t _;rfl
 .intro t p x hx
  cases hno hx
  exact zzn_ _
 .intro l x hx
  obtain⟨rfl,rfl⟩:=hat l x hx
  cases x<;>first|exact zzn_ _|(simp[immT,immA,immC]at hi)
 .intro l d e z xs u k hx
  obtain⟨_,q⟩:=hat l _ hx
  exact absurd q.symm hnl
 .rcases ho with ⟨r,p,ho⟩|⟨b,hb,_⟩
  .exact hown r p k ho
  .simp[Stn]at hb
def frL(x y:V):Prop:=(x=y/\immC x=true)\/(∃m e z xs,x=.own m e z xs/\y=.list z xs)\/(x=.s (.slice none 0 0)/\∃z,y=.list z [])
def frLs:List V->List V->Prop
 |[],[]=>True
 |x::r,y::s=>frL x y/\frLs r s
 |_,_=>False
def frA(x y:V):Prop :=
 match x,y with
 |.agg cs,.agg ds=>frLs cs ds
 |x,y=>frL x y
def frAs:List V->List V->Prop
 |[],[]=>True
 |x::r,y::s=>frA x y/\frAs r s
 |_,_=>False
def frT(x y:V):Prop :=
 match x,y with
 |.tup cs,.tup ds=>frAs cs ds
 |x,y=>frA x y
theorem tn_:∀ {xs ys:List V},frLs xs ys->xs.length=ys.length/\∀(i:Nat) (y:V),ys[i]?=some y->∃x,xs[i]?=some x/\frL x y
 |[],[],_=>⟨rfl,fun i y h=>by simp at h⟩
 | x :: r, y :: s, h => by
   obtain⟨h1,h2⟩:=tn_ h.2
   refine⟨by simp[h1],fun i u hu=>?_⟩
   cases i with
   |zero=>simp at hu;subst hu;exact⟨x,rfl,h.1⟩
   |succ i=>simp at hu;exact h2 i u hu
theorem to_:∀ {xs ys:List V},frAs xs ys->xs.length=ys.length/\∀(i:Nat) (y:V),ys[i]?=some y->∃x,xs[i]?=some x/\frA x y
 |[],[],_=>⟨rfl,fun i y h=>by simp at h⟩
 | x :: r, y :: s, h => by
   obtain⟨h1,h2⟩:=to_ h.2
   refine⟨by simp[h1],fun i u hu=>?_⟩
   cases i with
   |zero=>simp at hu;subst hu;exact⟨x,rfl,h.1⟩
   |succ i=>simp at hu;exact h2 i u hu
theorem n4_{x y:V}(h:frL x y):immC y=true:=by
 rcases h with ⟨rfl,h⟩|⟨m,e,z,xs,rfl,rfl⟩|⟨rfl,z,rfl⟩
 .exact h
 .rfl
 .rfl
theorem n6_{x y:V}(h:frA x y):immA y=true:=by
 unfold frA at h
 split at h
 .next cs ds =>
  simp only[immA,zzh_]
  intro u hu
  obtain⟨i,hi,rfl⟩:=List.getElem_of_mem hu
  obtain⟨x,_,hx⟩:=(tn_ h).2 i _ (zzf_ hi)
  exact n4_ hx
 .have:=n4_ h
  unfold immA
  split
  .simp[immC]at this
  .exact this
theorem j0_{x y:V}(h:frT x y):immT y=true:=by
 unfold frT at h
 split at h
 .next cs ds =>
  simp only[immT,zzh_]
  intro u hu
  obtain⟨i,hi,rfl⟩:=List.getElem_of_mem hu
  obtain⟨x,_,hx⟩:=(to_ h).2 i _ (zzf_ hi)
  exact n6_ hx
 .next hn =>
  have:=n6_ h
  unfold immT
  split
  .simp[immA,immC]at this
  .exact this
def wd_(w:World)(b:Nat):Nat:=match w.heap[b]? with|some (.cells cs _ _)=>cs.size|_=>0
theorem hw_{w:World}{b:Nat}(h:0<wd_ w b):b<w.heap.size:=by
 unfold wd_ at h
 split at h
 .next cs ty fz hh=>exact(zzm_.1 hh).1
 .omega
theorem n3_{g2:Gh}(hI:∀b o,o<g.I b->o<g2.I b){x y:V}{v:Value}(h:frL x y)(hr:Rep g w x v)(ho:∀k,zG_ x v [] k->g2.I k=wd_ w k):Rep g2 w y v:=by
 have keep:∀ {u:V} {c:Value},immC u=true->Rep g w u c->Rep g2 w u c:=by
  intro u c hu hc
  refine hc.keep (fun b o q=>⟨hI b o q,rfl⟩) (fun _ _ _=>rfl) (fun p b o q=>?_)
  obtain⟨_,q2⟩:=xC_ hu q
  subst q2
  simp[immC]at hu
 rcases h with ⟨rfl,h⟩|⟨m,e,z,xs,rfl,rfl⟩|⟨rfl,z,rfl⟩
 .exact keep h hr
 .cases m with
  | false => cases hr with
    |ownf h _ _=>exact keep rfl h
  |true =>
  have ho':=fun k hk=>ho k ⟨e,z,xs,v,rfl,rfl,hk⟩
  cases hr with
  | own vals h0 hc hm hh hs hz hi hcell hrep =>
    rename_i k cap cur
    have hI2:=ho' k (by simp[rb];omega)
    refine .list vals hc hm (fun q=>by cases q) hz hi (fun j hj=>⟨k,0,rfl,?_,?_⟩) (fun j u hu=>keep (hi u (zzd_ hu)) (hrep j u hu))
    .rw[hI2]
     simp only[wd_,hh]
     have:=(zzm_.1 (hcell j hj)).1
     omega
    .rw[cell_of_row w k (0+j) cur e (0,0) hh,Nat.zero_add]
     exact hcell j hj
  |own0=>exact .list (fun _=>undef) (zzl_ _) (zzn_ _) (fun _=>rfl) (fun x hx=>by simp at hx) (fun u hu=>by simp[flat]at hu) (fun j hj=>by simp[flat]at hj) (fun j u hu=>by simp[flat]at hu)
 .exact qb_ (.inr ⟨rfl,z,rfl⟩) (keep rfl hr)
theorem n5_{g2:Gh}(hI:∀b o,o<g.I b->o<g2.I b){x y:V}{v:Value}(h:frA x y)(hr:Rep g w x v)(ho:∀p k,zG_ x v p k->g2.I k=wd_ w k):Rep g2 w y v:=by
 unfold frA at h
 split at h
 .next cs ds =>
  obtain⟨k1,k2⟩:=tn_ h
  cases hr with
  | agg hl h1 hh =>
    refine .agg (by omega) h1 (fun j u c hu hc=>?_)
    obtain⟨x,q1,q2⟩:=k2 j u hu
    refine n3_ hI q2 (hh j x c q1 hc) (fun k ⟨e,z,xs,u',p1,p2,p3⟩=>ho [j] k ⟨e,z,xs,u',?_,?_,p3⟩)
    .simp only[V.sub,q1];exact p1
    .simp only[vsub,hc];exact p2
 .exact n3_ hI h hr (ho [])
theorem kZ_{g2:Gh}(hI:∀b o,o<g.I b->o<g2.I b){x y:V}{v:Value}(h:frT x y)(hr:Rep g w x v)(ho:∀p k,zG_ x v p k->g2.I k=wd_ w k):Rep g2 w y v:=by
 unfold frT at h
 split at h
 .next cs ds =>
  obtain⟨k1,k2⟩:=to_ h
  cases hr with
  | tup hl hh =>
    refine .tup (by omega) (fun j u c hu hc=>?_)
    obtain⟨x,q1,q2⟩:=k2 j u hu
    refine n5_ hI q2 (hh j x c q1 hc) (fun p k ⟨e,z,xs,u',p1,p2,p3⟩=>ho (j::p) k ⟨e,z,xs,u',?_,?_,p3⟩)
    .simp only[V.sub,q1];exact p1
    .simp only[vsub,hc];exact p2
 .exact n5_ hI h hr ho
open Classical in
theorem y9_{f:Nat}{args:List V}{q:V->Prop}{q':V->Prop}(h:PC P f args q)(hf:∀x,q x->okV x=true->∃y,frT x y/\okV y=true/\q' y):PC P f args q':=by
 intro g w vals hb
 refine(h g w vals hb).mono ?_
 rintro e w' ⟨v,x,bs',g',h1,⟨rfl,hq⟩,hok,hbd,hx⟩
 obtain⟨y,hfr,hoky,hy⟩:=hf x hq hok
 have hval:z7_ (Frn 1) g' w' ⟨#[v],[]⟩ (.var 0)=some v:=by simp[z7_,Frn,Act.tv]
 have hr:Rep g' w' x v:=hbd.rep (.l (.var 0)) x v ⟨rfl,hval⟩
 have hO:∀p k,zG_ x v p k->OwnB g' w' [x] #[v] [] k:=fun p k ho=>.inl ⟨.l (.var 0),p,x,v,⟨rfl,hval⟩,.inl ho⟩
 have hO0:∀k,OwnB g' w' [x] #[v] [] k->g'.I k=0/\k<w'.heap.size:=fun k ho=>by
  rcases ho with ⟨r,p,ho⟩|⟨b,hb',_⟩
  .have:=hbd.ownI r p k ho
   exact⟨this.1,this.2.1⟩
  .simp[Stn]at hb'
 let g2:Gh:=⟨fun b=>if OwnB g' w' [x] #[v] [] b then wd_ w' b else g'.I b,g'.φ⟩
 have hI:∀b o,o<g'.I b->o<g2.I b:=fun b o q=>by
  show o<if OwnB g' w' [x] #[v] [] b then wd_ w' b else g'.I b
  split
  .next hb'=>have:=(hO0 b hb').1;omega
  .exact q
 have hr2:Rep g2 w' y v:=kZ_ hI hfr hr (fun p k ho=>if_pos (hO p k ho))
 have hlt:∀k,0<g2.I k->k<w'.heap.size:=fun k hk=>by
  have hk:0<if OwnB g' w' [x] #[v] [] k then wd_ w' k else g'.I k:=hk
  split at hk
  .exact hw_ hk
  .exact hbd.Ilt k hk
 obtain⟨q1,q2⟩:=nn_ (j0_ hfr) hr2 hlt
 refine⟨v,y,[],g2,h1,⟨rfl,hy⟩,hoky,q1,hx.os,hx.tape,hx.output,hx.size,fun k hk hn=>?_,fun k hk=>absurd hk (q2 k),fun b hb'=>by simp at hb'⟩
 obtain⟨p1,p2⟩:=hx.same k hk hn
 refine⟨p1,?_⟩
 show (if OwnB g' w' [x] #[v] [] k then wd_ w' k else g'.I k)=g.I k
 split
 .next ho =>
  rcases hx.owned k ho with q|q
  .exact absurd q hn
  .omega
 .exact p2
end
end
section
def StL(F:Fr)(D e z:Nat)(xs rest:List V):St:={ St0 F (.lent D 0 e z xs::rest) [] with tm:=upd (fun _=>.no) D (.tup []) }
section
variable{P:Program}{F:Fr}{g:Gh}{w:World}
end
attribute [simp] StL
end
section
def wX_(n:Nat):V->Bool
 |.view (.cell b _) _=>decide (b<n)
 |x=>zQ_ n x
def wkv(keep drop:List Nat)(nb:Nat)(S:St):St:=⟨tmL (keep.map fun t=>(t,S.tm t)),yX_ drop S.vs,S.bx.take nb,S.ep⟩
def lQ_(keep drop:List Nat)(nb:Nat)(S:St):Bool:=keep.all (fun t=>wX_ nb (S.tm t))&&(yX_ drop S.vs).all (x1_ nb)&&(S.bx.take nb).all (·.all (zV_ nb))&&decide (nb<=S.bx.length)
section
variable{P:Program}{F:Fr}
end
def lqv(keep drop:List Nat)(nb:Nat)(Inv:Nat->St->Prop)(m:Nat)(Q:AX->St->Prop):AX->St->Prop:=fun e S=>match e with
 |.normal=>lQ_ keep drop nb S=true/\∃m',m'<m/\Inv m' (wkv keep drop nb S)
 |e=>Q e S
@[simp] theorem lqv_normal (keep drop:List Nat) (nb:Nat) (Inv:Nat->St->Prop) (m:Nat) (Q:AX->St->Prop) (S:St):lqv keep drop nb Inv m Q .normal S=(lQ_ keep drop nb S=true/\∃m',m'<m/\Inv m' (wkv keep drop nb S)):=rfl
@[simp] theorem lqv_exit (keep drop:List Nat) (nb:Nat) (Inv:Nat->St->Prop) (m:Nat) (Q:AX->St->Prop) (S:St) (id:Nat):lqv keep drop nb Inv m Q (.exit id) S=Q (.exit id) S:=rfl
@[simp] theorem lqv_ret (keep drop:List Nat) (nb:Nat) (Inv:Nat->St->Prop) (m:Nat) (Q:AX->St->Prop) (S:St):lqv keep drop nb Inv m Q .ret S=Q .ret S:=rfl
@[simp] theorem lqv_goto (keep drop:List Nat) (nb:Nat) (Inv:Nat->St->Prop) (m:Nat) (Q:AX->St->Prop) (S:St) (l:Nat):lqv keep drop nb Inv m Q (.goto l) S=Q (.goto l) S:=rfl
@[simp] theorem simpleW_view (n b o e:Nat):wX_ n (.view (.cell b o) e)=decide (b<n):=rfl
@[simp] theorem simpleW_s (n:Nat) (v:Value):wX_ n (.s v)=true:=rfl
@[simp] theorem simpleW_list (n:Nat) (z:Nat) (xs:List V):wX_ n (.list z xs)=true:=rfl
@[simp] theorem simpleW_ptr (n:Nat) (b o:Nat):wX_ n (.ptr b o)=decide (b<n):=rfl
attribute [simp] wkv lQ_
end
section
def wW_(drop:List Nat)(n:Nat):V->Bool
 |.view (.var i) _=>!drop.contains i
 |x=>wX_ n x
def lP_(keep drop:List Nat)(nb:Nat)(S:St):Bool:=keep.all (fun t=>wW_ drop nb (S.tm t))&&(yX_ drop S.vs).all (x1_ nb)&&(S.bx.take nb).all (·.all (zV_ nb))&&decide (nb<=S.bx.length)
section
variable{P:Program}{F:Fr}
end
def lqx(keep drop:List Nat)(nb:Nat)(Inv:Nat->St->Prop)(m:Nat)(Q:AX->St->Prop):AX->St->Prop:=fun e S=>match e with
 |.normal=>lP_ keep drop nb S=true/\∃m',m'<m/\Inv m' (wkv keep drop nb S)
 |e=>Q e S
@[simp] theorem lqx_normal (keep drop:List Nat) (nb:Nat) (Inv:Nat->St->Prop) (m:Nat) (Q:AX->St->Prop) (S:St):lqx keep drop nb Inv m Q .normal S=(lP_ keep drop nb S=true/\∃m',m'<m/\Inv m' (wkv keep drop nb S)):=rfl
@[simp] theorem lqx_exit (keep drop:List Nat) (nb:Nat) (Inv:Nat->St->Prop) (m:Nat) (Q:AX->St->Prop) (S:St) (id:Nat):lqx keep drop nb Inv m Q (.exit id) S=Q (.exit id) S:=rfl
@[simp] theorem lqx_ret (keep drop:List Nat) (nb:Nat) (Inv:Nat->St->Prop) (m:Nat) (Q:AX->St->Prop) (S:St):lqx keep drop nb Inv m Q .ret S=Q .ret S:=rfl
@[simp] theorem lqx_goto (keep drop:List Nat) (nb:Nat) (Inv:Nat->St->Prop) (m:Nat) (Q:AX->St->Prop) (S:St) (l:Nat):lqx keep drop nb Inv m Q (.goto l) S=Q (.goto l) S:=rfl
@[simp] theorem simpleX_view (drop:List Nat) (n i e:Nat):wW_ drop n (.view (.var i) e)=!drop.contains i:=rfl
@[simp] theorem simpleX_viewc (drop:List Nat) (n b o e:Nat):wW_ drop n (.view (.cell b o) e)=decide (b<n):=rfl
@[simp] theorem simpleX_s (drop:List Nat) (n:Nat) (v:Value):wW_ drop n (.s v)=true:=rfl
@[simp] theorem simpleX_list (drop:List Nat) (n:Nat) (z:Nat) (xs:List V):wW_ drop n (.list z xs)=true:=rfl
@[simp] theorem simpleX_ptr (drop:List Nat) (n:Nat) (b o:Nat):wW_ drop n (.ptr b o)=decide (b<n):=rfl
attribute [simp] lP_
end
end Go.Proofs.Ytpfjlnmnolbiaaa
namespace Go.Proofs.Ytpfjlnmnolbiaaa
def Sub(a b:Nat):Prop:=a&&&b=a
instance(a b:Nat):Decidable (Sub a b):=by unfold Sub;infer_instance
theorem Sub.refl(a:Nat):Sub a a:=Nat.and_self a
theorem Sub.trans{a b c:Nat}(h:Sub a b)(k:Sub b c):Sub a c:=by
 unfold Sub at *
 rw[<-h,Nat.and_assoc,k]
theorem Sub.le{a b:Nat}(h:Sub a b):a<=b:=by
 have:a&&&b<=b:=Nat.and_le_right
 rw[h]at this;exact this
theorem Sub.antisymm{a b:Nat}(h:Sub a b)(k:Sub b a):a=b:=Nat.le_antisymm h.le k.le
theorem pQ_{a b:Nat}:Sub a b↔∀i,a.testBit i=true->b.testBit i=true:=by
 unfold Sub
 constructor
 .intro h i hi
  rw[<-h,Nat.testBit_and,zzg_]at hi
  exact hi.2
 .intro h
  apply Nat.eq_of_testBit_eq
  intro i
  rw[Nat.testBit_and]
  cases q:a.testBit i
  .rfl
  .rw[h i q];rfl
theorem iT_{a b:Nat}:a&&&b≠0↔∃i,a.testBit i=true/\b.testBit i=true:=by
 constructor
 .intro h
  refine Classical.byContradiction fun hno=>h (Nat.eq_of_testBit_eq fun i=>?_)
  rw[Nat.zero_testBit,Nat.testBit_and]
  cases h1:a.testBit i
  .rfl
  .cases h2:b.testBit i
   .rfl
   .exact absurd ⟨i,h1,h2⟩ hno
 .rintro⟨i,h1,h2⟩ h
  have:=congrArg (fun x=>x.testBit i) h
  simp[Nat.testBit_and,h1,h2]at this
theorem Sub.meet{a b c:Nat}(h:Sub a b)(k:a&&&c≠0):b&&&c≠0:=by
 rw[iT_]at k ⊢
 obtain⟨i,h1,h2⟩:=k
 exact⟨i,pQ_.1 h i h1,h2⟩
theorem il_{P:Nat->Prop}:∀(s:Nat),P s->∃m,P m/\Sub m s/\∀x,P x->Sub x m->x=m:=by
 intro s
 induction s using Nat.strongRecOn with
 | ind s ih =>
   intro hs
   by_cases h:∃x,P x/\Sub x s/\x≠s
   .obtain⟨x,h1,h2,h3⟩:=h
    obtain⟨m,m1,m2,m3⟩:=ih x (by have:=h2.le;omega) h1
    exact⟨m,m1,m2.trans h2,m3⟩
   .exact⟨s,hs,.refl s,fun x h1 h2=>Classical.byContradiction fun h3=>h ⟨x,h1,h2,h3⟩⟩
theorem ru_:∀ {l m:List Nat},l.Pairwise (·<·)->m.Pairwise (·<·)->(∀x,x∈l↔x∈m)->l=m
 |[],[],_,_,_=>rfl
 |[],y::m,_,_,h=>by have:=(h y).2 (by simp);cases this
 |x::l,[],_,_,h=>by have:=(h x).1 (by simp);cases this
 | x :: l, y :: m, hl, hm, h => by
   rw[List.pairwise_cons]at hl hm
   have hx:x=y:=by
    rcases Nat.lt_trichotomy x y with q|q|q
    .have:=(h x).1 (by simp)
     rw[List.mem_cons]at this
     rcases this with e|e
     .exact e
     .have:=hm.1 x e;omega
    .exact q
    .have:=(h y).2 (by simp)
     rw[List.mem_cons]at this
     rcases this with e|e
     .exact e.symm
     .have:=hl.1 y e;omega
   subst hx
   rw[ru_ hl.2 hm.2 fun z=>?_]
   have hz:=h z
   simp only[List.mem_cons]at hz
   constructor
   .intro k
    rcases hz.1 (.inr k) with e|e
    .have:=hl.1 z k;omega
    .exact e
   .intro k
    rcases hz.2 (.inr k) with e|e
    .have:=hm.1 z k;omega
    .exact e
def subs(n:Nat):List Nat:=(List.range (2^n)).filter fun s=>decide (1<=s)
theorem w1_(n:Nat)(p:Nat->Bool):((subs n).filter p).Pairwise (·<·):=((List.pairwise_lt_range).filter _).filter _
theorem vs_{n s:Nat}:s∈subs n↔1<=s/\s<2^n:=by simp[subs,and_comm]
def oH_(s:Nat)(l:List Nat):Bool:=l.all fun t=>decide (s&&&t≠0)
def sj_(s:Nat)(l:List Nat):Bool:=l.all fun t=>decide (Sub t s->t=s)
theorem vY_{s:Nat}{l:List Nat}:oH_ s l=true↔∀t∈l,s&&&t≠0:=by simp[oH_]
theorem xR_{s:Nat}{l:List Nat}:sj_ s l=true↔∀t∈l,Sub t s->t=s:=by simp only[sj_,zzh_,zzp_]
structure Cot(n:Nat)(Q:List Nat):Prop where
 rng:∀q∈Q,1<=q/\q<2^n
 asc:Q.Pairwise (·<·)
 meet:∀p∈Q,∀q∈Q,p&&&q≠0
 anti:∀p∈Q,∀q∈Q,Sub p q->p=q
 ne:Q≠[]
def mall(n:Nat)(Q:List Nat):List Nat:=(subs n).filter fun s=>oH_ s Q
def trans(n:Nat)(Q:List Nat):List Nat:=(mall n Q).filter fun s=>sj_ s (mall n Q)
theorem ml_{n s:Nat}{Q:List Nat}:s∈mall n Q↔(1<=s/\s<2^n)/\∀q∈Q,s&&&q≠0:=by
 rw[mall,List.mem_filter,vs_,vY_]
theorem vD_{n s:Nat}{Q:List Nat}:s∈trans n Q↔s∈mall n Q/\∀t∈mall n Q,Sub t s->t=s:=by
 rw[trans,List.mem_filter,xR_]
theorem pN_(n:Nat)(Q:List Nat):(trans n Q).Pairwise (·<·):=(w1_ n _).filter _
section
variable{n:Nat}{Q:List Nat}
theorem Cot.self(h:Cot n Q){q:Nat}(hq:q∈Q):q∈mall n Q:=ml_.2 ⟨h.rng q hq,fun p hp=>h.meet q hq p hp⟩
theorem oX_{s:Nat}(hs:s∈mall n Q):∃t∈trans n Q,Sub t s:=by
 obtain⟨m,m1,m2,m3⟩:=il_ (P:=fun x=>x∈mall n Q) s hs
 exact⟨m,vD_.2 ⟨m1,m3⟩,m2⟩
theorem Cot.nd(h:Cot n Q):trans n Q=Q↔∀s∈mall n Q,∃q∈Q,Sub q s:=by
 constructor
 .intro e s hs
  obtain⟨t,t1,t2⟩:=oX_ hs
  rw[e]at t1
  exact⟨t,t1,t2⟩
 .intro k
  refine ru_ (pN_ n Q) h.asc fun x=>⟨fun hx=>?_,fun hx=>?_⟩
  .obtain⟨h1,h2⟩:=vD_.1 hx
   obtain⟨q,q1,q2⟩:=k x h1
   rw[<-h2 q (h.self q1) q2];exact q1
  .refine vD_.2 ⟨h.self hx,fun t ht hs=>?_⟩
   obtain⟨q,q1,q2⟩:=k t ht
   have:=h.anti q q1 x hx (q2.trans hs)
   subst this
   exact hs.antisymm q2
end
def zH_(n:Nat)(l:List Nat):List Nat:=(subs n).filter fun s=>decide (s∈l)&&sj_ s l
theorem yb_{n s:Nat}{l:List Nat}:s∈zH_ n l↔(1<=s/\s<2^n)/\s∈l/\∀t∈l,Sub t s->t=s:=by
 rw[zH_,List.mem_filter,vs_,zzg_,xR_,zzp_]
theorem qS_{n:Nat}{l:List Nat}(hr:∀s∈l,1<=s/\s<2^n)(hm:∀s∈l,∀t∈l,s&&&t≠0)(hne:l≠[]):Cot n (zH_ n l):=by
 refine⟨fun q hq=>(yb_.1 hq).1,w1_ n _,fun p hp q hq=>hm _ (yb_.1 hp).2.1 _ (yb_.1 hq).2.1,fun p hp q hq hs=>(yb_.1 hq).2.2 p (yb_.1 hp).2.1 hs,?_⟩
 cases hl:l with
 |nil=>exact absurd hl hne
 | cons x r =>
   intro e
   obtain⟨m,m1,_,m3⟩:=il_ (P:=fun y=>y∈l) x (by rw[hl];simp)
   have:m∈zH_ n l:=yb_.2 ⟨hr m m1,m1,m3⟩
   rw[hl,e]at this
   cases this
theorem s2_{n:Nat}{l m:List Nat}(h:∀x,x∈l↔x∈m):zH_ n l=zH_ n m:=by
 refine ru_ (w1_ n _) (w1_ n _) fun x=>?_
 rw[yb_,yb_,h x]
 constructor
 .exact fun ⟨a,b,c⟩=>⟨a,b,fun t ht=>c t ((h t).2 ht)⟩
 .exact fun ⟨a,b,c⟩=>⟨a,b,fun t ht=>c t ((h t).1 ht)⟩
end Go.Proofs.Ytpfjlnmnolbiaaa
namespace Go.Proofs.Ytpfjlnmnolbiaaa
def pop(s:Nat):Nat:=if s=0 then 0 else s%2+pop (s/2)
decreasing_by omega
theorem yO_:pop 0=0:=by rw[pop];rfl
theorem yJ_(s:Nat):pop s=s%2+pop (s/2):=by
 by_cases h:s=0
 .subst h;simp[yO_]
 .conv=>lhs;rw[pop,if_neg h]
theorem u1_(a b:Nat):(a&&&b)/2=a/2&&&b/2:=by
 have:=Nat.shiftRight_and_distrib (a:=a) (b:=b) (i:=1)
 simpa[Nat.shiftRight_eq_div_pow] using this
theorem mm_(a b:Nat):(a|||b)/2=a/2|||b/2:=by
 have:=Nat.shiftRight_or_distrib (a:=a) (b:=b) (i:=1)
 simpa[Nat.shiftRight_eq_div_pow] using this
theorem rf_:∀(a b:Nat),pop (a|||b)+pop (a&&&b)=pop a+pop b:=by
 intro a
 induction a using Nat.strongRecOn with
 | ind a ih =>
   intro b
   by_cases h:a=0
   .subst h;simp[yO_]
   .have:=ih (a/2) (by omega) (b/2)
    rw[yJ_ (a|||b),yJ_ (a&&&b),yJ_ a,yJ_ b,mm_,u1_]
    have h1:(a|||b)%2+(a&&&b)%2=a%2+b%2:=by
     have e1:=Nat.or_mod_two_pow (a:=a) (b:=b) (n:=1)
     have e2:=Nat.and_mod_two_pow (a:=a) (b:=b) (n:=1)
     simp only[Nat.pow_one]at e1 e2
     rw[e1,e2]
     rcases Nat.mod_two_eq_zero_or_one a with p|p<;>rcases Nat.mod_two_eq_zero_or_one b with q|q<;>rw[p,q]<;>rfl
    omega
theorem oi_:∀(n a:Nat),a<2^n->pop a<=n
 | 0, a, h => by
   have:a=0:=by simp at h;exact h
   subst this;simp[yO_]
 | n + 1, a, h => by
   rw[yJ_]
   have:=oi_ n (a/2) (by rw[Nat.pow_succ]at h;omega)
   omega
theorem kt_{a:Nat}:a≠0->1<=pop a:=by
 induction a using Nat.strongRecOn with
 | ind a ih =>
   intro h
   rw[yJ_]
   by_cases q:a%2=0
   .have:=ih (a/2) (by omega) (by omega)
    omega
   .omega
theorem ks_:∀(a b:Nat),Sub a b->pop a=pop b->a=b:=by
 intro a
 induction a using Nat.strongRecOn with
 | ind a ih =>
   intro b hs he
   by_cases h:a=0
   .subst h
    rw[yO_]at he
    by_cases q:b=0
    .exact q.symm
    .have:=kt_ q;omega
   .have h1:a/2&&&b/2=a/2:=by rw[<-u1_];unfold Sub at hs;rw[hs]
    have h2:a%2<=b%2:=by
     have e2:=Nat.and_mod_two_pow (a:=a) (b:=b) (n:=1)
     simp only[Nat.pow_one]at e2
     unfold Sub at hs
     rw[hs]at e2
     rw[e2]
     exact Nat.and_le_right
    have h3:pop (a/2)<=pop (b/2):=by
     have:=rf_ (a/2) (b/2)
     rw[h1]at this
     have h4:=rf_ (b/2) (a/2|||b/2)
     have h5:b/2&&&(a/2|||b/2)=b/2:=by
      apply Nat.eq_of_testBit_eq;intro i
      simp only[Nat.testBit_and,Nat.testBit_or]
      cases (b/2).testBit i<;>simp
     have h6:a/2|||b/2=b/2:=by
      apply Nat.eq_of_testBit_eq;intro i
      have:=pQ_.1 (show Sub (a/2) (b/2) from h1) i
      simp only[Nat.testBit_or]
      cases q:(a/2).testBit i
      .simp
      .rw[this q];rfl
     rw[h6]at this
     have h7:pop (a/2)=pop (a/2):=rfl
     rcases yym_ (pop (b/2)) (pop (a/2)) with q|q
     .exfalso
      -- a lies in b: the bits of a are bits of b
      have:∀(x y:Nat),Sub x y->pop x<=pop y:=by
       intro x
       induction x using Nat.strongRecOn with
       | ind x ihx =>
         intro y hxy
         by_cases hx:x=0
         .subst hx;simp[yO_]
         .have g1:x/2&&&y/2=x/2:=by rw[<-u1_];unfold Sub at hxy;rw[hxy]
          have g2:=ihx (x/2) (by omega) (y/2) g1
          have g3:x%2<=y%2:=by
           have e2:=Nat.and_mod_two_pow (a:=x) (b:=y) (n:=1)
           simp only[Nat.pow_one]at e2
           unfold Sub at hxy
           rw[hxy]at e2
           rw[e2]
           exact Nat.and_le_right
          rw[yJ_ x,yJ_ y]
          omega
      have:=this _ _ h1
      omega
     .exact q
    rw[yJ_ a,yJ_ b]at he
    have:=ih (a/2) (by omega) (b/2) h1 (by omega)
    omega
def xm_(n:Nat):List Nat:=(subs n).filter fun s=>decide (pop s=n/2+1)
theorem xl_{n s:Nat}:s∈xm_ n↔(1<=s/\s<2^n)/\pop s=n/2+1:=by
 rw[xm_,List.mem_filter,vs_,zzp_]
theorem q5_(n:Nat):∀k,k<=n->pop (2^k-1)=k
 |0,_=>by simp[yO_]
 | k + 1, h => by
   rw[yJ_]
   have e:(2^(k+1)-1)/2=2^k-1:=by rw[Nat.pow_succ];have:=Nat.two_pow_pos k;omega
   have e2:(2^(k+1)-1)%2=1:=by rw[Nat.pow_succ];have:=Nat.two_pow_pos k;omega
   rw[e,e2,q5_ n k (by omega)]
   omega
theorem oI_{n:Nat}(hn:1<=n):Cot n (xm_ n):=by
 refine⟨fun q hq=>(xl_.1 hq).1,w1_ n _,fun p hp q hq e=>?_,fun p hp q hq hs=>?_,?_⟩
 .obtain⟨p1,p2⟩:=xl_.1 hp
  obtain⟨q1,q2⟩:=xl_.1 hq
  have:=rf_ p q
  rw[e,yO_]at this
  have:=oi_ n (p|||q) (Nat.or_lt_two_pow p1.2 q1.2)
  omega
 .exact ks_ p q hs ((xl_.1 hp).2.trans (xl_.1 hq).2.symm)
 .intro e
  have:2^(n/2+1)-1∈xm_ n:=xl_.2 ⟨⟨by have:2^1<=2^(n/2+1):=yyf_ (by omega) (by omega);omega,by have:2^(n/2+1)<=2^n:=yyf_ (by omega) (by omega);have:=Nat.two_pow_pos (n/2+1);omega⟩,q5_ _ _ (zzl_ _)⟩
  rw[e]at this;cases this
end Go.Proofs.Ytpfjlnmnolbiaaa
namespace Go.Proofs.Ytpfjlnmnolbiaaa
def popB:Nat->Nat->Nat
 |0,_=>0
 |f+1,s=>s%2+popB f (s/2)
theorem oj_:∀(f s:Nat),s<2^f->popB f s=pop s
 | 0, s, h => by
   have:s=0:=by simp at h;exact h
   subst this;simp[popB,yO_]
 | f + 1, s, h => by
   rw[yJ_,popB,oj_ f (s/2) (by rw[Nat.pow_succ]at h;omega)]
def majB(n:Nat):List Nat:=(subs n).filter fun s=>Nat.beq (popB n s) (n/2+1)
theorem oJ_(n:Nat):majB n=xm_ n:=by
 unfold majB xm_
 refine List.filter_congr fun s hs=>?_
 rw[oj_ n s (vs_.1 hs).2]
 by_cases h:pop s=n/2+1
 .rw[decide_eq_true h,h];exact Nat.beq_refl _
 .rw[decide_eq_false h]
  cases q:Nat.beq (pop s) (n/2+1)
  .rfl
  .exact absurd (yyq_ q) h
theorem ll_:∀ {l m:List Nat},l.Nodup->(∀x∈l,x∈m)->l.length<=m.length
 |[],_,_,_=>zzn_ _
 | x :: r, m, hn, hs => by
   rw[List.nodup_cons]at hn
   have h1:=ll_ (l:=r) (m:=m.erase x) hn.2 fun y hy=>(List.mem_erase_of_ne (fun e:y=x=>hn.1 (e ▸ hy))).2 (hs y (by simp[hy]))
   have h2:=hs x (by simp)
   have h3:=List.length_erase_of_mem h2
   have h4:=List.length_pos_of_mem h2
   simp only[List.length_cons]
   omega
theorem uy_{n:Nat}{l:List Nat}:(zH_ n l).length<=l.length:=by
 have hn:(zH_ n l).Nodup:=(w1_ n (fun s=>decide (s∈l)&&sj_ s l)).imp fun h=>Nat.ne_of_lt h
 have hs:∀x∈zH_ n l,x∈l:=fun x hx=>(yb_.1 hx).2.1
 exact ll_ hn hs
def below:Nat->Nat->Nat->List Nat
 |0,_,_=>[]
 | f + 1, i, n => if 2 * i + 1 ≥ n then [2 ^ i] else
     ((below f (2*i+1) n).flatMap fun s=>(s|||2^i)::(below f (2*i+2) n).map fun t=>s|||t)++(below f (2*i+2) n).map fun t=>t|||2^i
def zT_:Nat->Nat->Nat->List Nat
 |0,_,_=>[]
 | f + 1, i, n => if 2 * i + 2 ≥ n then [2 ^ i] else
     ((zT_ f (2*i+1) n++zT_ f (2*i+2) n).map fun s=>s|||2^i)++(zT_ f (2*i+1) n).flatMap fun s=>(zT_ f (2*i+2) n).map fun t=>s|||t
end Go.Proofs.Ytpfjlnmnolbiaaa
namespace Go.Proofs.Ytpfjlnmnolbiaaa
open Go
theorem yl_(a b:Nat)(ha:a<9223372036854775808)(hb:b<9223372036854775808):bits .and .i64 (a:Int) (b:Int)=((a&&&b:Nat):Int):=by
 have hx:a&&&b<2^63:=Nat.and_lt_two_pow _ (by omega)
 show IntKind.i64.wrap ((BitVec.ofInt 64 (a:Int)&&&BitVec.ofInt 64 (b:Int)).toNat:Int)=_
 rw[BitVec.toNat_and,ofInt_u64 a (by omega),ofInt_u64 b (by omega),yye_]
 omega
theorem y0_(a b:Nat)(ha:a<9223372036854775808)(hb:b<9223372036854775808):bits .or .i64 (a:Int) (b:Int)=((a|||b:Nat):Int):=by
 have hx:a|||b<2^63:=Nat.or_lt_two_pow (by omega) (by omega)
 show IntKind.i64.wrap ((BitVec.ofInt 64 (a:Int)|||BitVec.ofInt 64 (b:Int)).toNat:Int)=_
 rw[BitVec.toNat_or,ofInt_u64 a (by omega),ofInt_u64 b (by omega),yye_]
 omega
theorem sq_(a b:Int):bits .and .i64 a b=bits .and .i64 b a:=by
 unfold bits
 simp only[BitVec.and_comm]
instance(n:Nat)(Q:List Nat):Decidable (Cot n Q) :=
 decidable_of_iff ((∀q∈Q,1<=q/\q<2^n)/\Q.Pairwise (·<·)/\(∀p∈Q,∀q∈Q,p&&&q≠0)/\(∀p∈Q,∀q∈Q,Sub p q->p=q)/\Q≠[])
  ⟨fun ⟨a,b,c,d,e⟩=>⟨a,b,c,d,e⟩,fun ⟨a,b,c,d,e⟩=>⟨a,b,c,d,e⟩⟩
end Go.Proofs.Ytpfjlnmnolbiaaa
namespace Go.Proofs.Ytpfjlnmnolbiaaa
def jL_(l m:List Nat):Bool:=(l.all fun x=>m.any fun y=>Nat.beq x y)&&m.all fun x=>l.any fun y=>Nat.beq x y
theorem pY_{l m:List Nat}(h:jL_ l m=true):∀x,x∈l↔x∈m:=by
 unfold jL_ at h
 rw[zzg_,zzh_,zzh_]at h
 have key:∀ {a b:List Nat},(∀x∈a,(b.any fun y=>Nat.beq x y)=true)->∀x,x∈a->x∈b:=by
  intro a b k x hx
  obtain⟨y,y1,y2⟩:=List.any_eq_true.1 (k x hx)
  rw[yyq_ y2];exact y1
 exact fun x=>⟨key h.1 x,key h.2 x⟩
def xP_(n:Nat)(l:List Nat):Bool:=(l.all fun s=>Nat.ble 1 s&&Nat.blt s (2^n))&&(l.all fun s=>l.all fun t=>!Nat.beq (Nat.land s t) 0)&&!l.isEmpty
theorem vN_{n:Nat}{l:List Nat}(h:xP_ n l=true):(∀s∈l,1<=s/\s<2^n)/\(∀s∈l,∀t∈l,s&&&t≠0)/\l≠[]:=by
 unfold xP_ at h
 rw[zzg_,zzg_,zzh_,zzh_]at h
 obtain⟨⟨h1,h2⟩,h3⟩:=h
 refine⟨fun s hs=>?_,fun s hs t ht e=>?_,fun e=>by rw[e]at h3;cases h3⟩
 .have:=h1 s hs
  rw[zzg_]at this
  exact⟨Nat.le_of_ble_eq_true this.1,Nat.le_of_ble_eq_true this.2⟩
 .have:=zzh_.1 (h2 s hs) t ht
  have e':Nat.land s t=0:=e
  rw[e']at this
  cases this
theorem pM_{k:Nat}(h:k=1\/k=2\/k=3):∀x,x∈below 3 0 (2^k-1)↔x∈zT_ 3 0 (2^k-1):=by
 refine pY_ ?_
 rcases h with rfl|rfl|rfl<;>decide +kernel
theorem sR_{k:Nat}(h:k=1\/k=2\/k=3):xP_ (2^k-1) (below 3 0 (2^k-1))=true:=by
 rcases h with rfl|rfl|rfl<;>decide +kernel
theorem nK_{k:Nat}(h:k=1\/k=2\/k=3):(below 3 0 (2^k-1)).length<=15:=by
 rcases h with rfl|rfl|rfl<;>decide +kernel
def ph_(r c i j:Nat):Nat:=(List.range r).foldl (fun s k=>s|||2^(k*c+j)) ((List.range c).foldl (fun s k=>s|||2^(i*c+k)) 0)
def grid(r c:Nat):List Nat:=(List.range r).flatMap fun i=>(List.range c).map fun j=>ph_ r c i j
theorem u3_{r c:Nat}(hr:1<=r/\r<=3)(hc:1<=c/\c<=2):xP_ (r*c) (grid r c)=true/\(grid r c).length<=6:=by
 have h1:r=1\/r=2\/r=3:=by omega
 have h2:c=1\/c=2:=by omega
 rcases h1 with rfl|rfl|rfl<;>rcases h2 with rfl|rfl<;>decide +kernel
end Go.Proofs.Ytpfjlnmnolbiaaa
namespace Go.Proofs.Ytpfjlnmnolbiaaa
open Go.RowKit Go.Proofs
def jd_(s:Nat):Nat:=if s%2=1 then s/2^^^3988292384 else s/2
def crcN:Nat->Nat->Nat
 |0,s=>s
 |n+1,s=>crcN n (jd_ s)
def crcB(s:Nat)(b:UInt8):Nat:=crcN 8 (s^^^b.toNat)
def crcL(l:List UInt8)(s:Nat):Nat:=l.foldl crcB s
def crc(l:List UInt8):Nat:=crcL l 4294967295^^^4294967295
def putU:Nat->Nat->List UInt8
 |0,_=>[]
 |f+1,x=>if 127<x then UInt8.ofNat (x%128+128)::putU f (x/128) else [UInt8.ofNat x]
def kr_(x:Nat):List UInt8:=putU 10 x
def sumB(x:Nat):List UInt8:=[UInt8.ofNat (x/16777216%256),UInt8.ofNat (x/65536%256),UInt8.ofNat (x/256%256),UInt8.ofNat (x%256)]
def frame(l:List UInt8):List UInt8:=kr_ l.length++l++sumB (crc l)
theorem z4_(k:IntKind)(a b:Int):binS .and (.int k a) (.int k b)=some (.int k (bits .and k a b)):=by simp only[binS,if_true];rfl
theorem zb_(k:IntKind)(a b:Int):binS .or (.int k a) (.int k b)=some (.int k (bits .or k a b)):=by simp only[binS,if_true];rfl
theorem wrap64{n:Int}(h:-9223372036854775808<=n/\n<9223372036854775808):IntKind.i64.wrap n=n:=by rw[yye_];omega
def iv(xs:List Int):List V:=xs.map fun n=>.s (.int .i64 n)
@[simp] theorem iv_length (xs:List Int):(iv xs).length=xs.length:=by simp[iv]
@[simp] theorem iv_nil:iv []=[]:=rfl
theorem zI_{xs:List Int}{i:Nat}(h:i<xs.length):(iv xs)[i]?=some (.s (.int .i64 xs[i])):=by simp[iv,h]
theorem yr_{α:Type}{l:List α}{i:Nat}(h:i<l.length)(p:α->Bool):(l.take (i+1)).all p=((l.take i).all p&&p l[i]):=by
 rw[yyw_,zzf_ h,List.all_append];simp
theorem xr_{α:Type}{l:List α}{i:Nat}(h:i<l.length)(p:α->Bool)(hp:p l[i]=false):l.all p=false:=by
 rw[List.all_eq_false]
 exact⟨l[i],yyp_ h,by simp[hp]⟩
theorem rL_{α:Type}{l k:List α}{i:Nat}(h1:i<l.length)(h2:i<k.length)(ht:l.take i=k.take i)(h:l[i]=k[i]):l.take (i+1)=k.take (i+1):=by
 rw[yyw_,yyw_,ht,zzf_ h1,zzf_ h2,h]
def band(a b:Int):Int:=bits .and .i64 a b
theorem nL_{n m:Int}(h:0<m):(n.tmod m<0/\n.tmod m+m=n%m)\/(¬n.tmod m<0/\n.tmod m=n%m):=by
 rw[Int.tmod_eq_emod]
 have hb:=Int.emod_nonneg n (b:=m) (by omega)
 have hc:=Int.emod_lt_of_pos n h
 split
 .right;omega
 .left;omega
theorem nA_(n m:Int)(h1:1<=m)(h2:m<=4611686018427387904):PC Try.prog 10 [.s (.int .i64 n),.s (.int .i64 m)] (fun r=>r=.s (.int .i64 (n%m))):=by
 refine zn_ c10 zp_ rfl ?_
 have e1:¬m<1:=by omega
 have e2:¬m=0:=by omega
 have hb:=Int.emod_nonneg n (b:=m) (by omega)
 have hc:=Int.emod_lt_of_pos n (b:=m) (by omega)
 rcases nL_ (n:=n) (m:=m) (by omega) with ⟨h3,h4⟩|⟨h3,h4⟩
 .have e3:IntKind.i64.wrap (n%m)=n%m:=wrap64 (by omega)
  simp -implicitDefEqProofs [a10,F10,e1,e2,h3,h4,e3]
 .have h5:¬n%m<0:=by omega
  simp -implicitDefEqProofs [a10,F10,e1,e2,h4,h5]
theorem pC_(n:Int):PC Try.prog 62 [.s (.int .i64 n)] (fun r=>r=.s (.bool (decide (1<=n/\n<=9)))):=by
 refine zn_ c62 zp_ rfl ?_
 by_cases h1:n>=1
 .by_cases h2:n<=9
  .have:1<=n/\n<=9:=⟨h1,h2⟩
   simp -implicitDefEqProofs [a62,F62,h1,h2,this]
  .have:¬(1<=n/\n<=9):=fun q=>h2 q.2
   simp -implicitDefEqProofs [a62,F62,h1,h2,this]
 .have:¬(1<=n/\n<=9):=fun q=>h1 q.1
  simp -implicitDefEqProofs [a62,F62,h1,this]
theorem shl1{n:Nat}(h:n<=12):IntKind.i64.wrap (2^min n IntKind.i64.bits)=((2^n:Nat):Int):=by
 have h1:2^n<=2^12:=yyf_ (by omega) h
 have e:(2:Int)^min n IntKind.i64.bits=((2^n:Nat):Int):=by
  rw[show min n IntKind.i64.bits=n by simp[IntKind.bits];omega];simp
 rw[e]
 generalize 2^n=p at h1
 exact wrap64 (by omega)
theorem mt_(s:Int)(n:Nat)(hn:n<=12):PC Try.prog 63 [.s (.int .i64 s),.s (.int .i64 n)] (fun r=>r=.s (.bool (decide (1<=s/\s<((2^n:Nat):Int))))):=by
 refine zn_ c63 zp_ rfl ?_
 have h0:¬(n:Int)<0:=by omega
 have e:=shl1 hn
 generalize ((2^n:Nat):Int)=p at e ⊢
 by_cases h1:s>=1
 .by_cases h2:s<p
  .have:1<=s/\s<p:=⟨h1,h2⟩
   simp -implicitDefEqProofs [a63,F63,h0,h1,h2,e,this]
  .have:¬(1<=s/\s<p):=fun q=>h2 q.2
   simp -implicitDefEqProofs [a63,F63,h0,h1,h2,e,this]
 .have:¬(1<=s/\s<p):=fun q=>h1 q.1
  simp -implicitDefEqProofs [a63,F63,h1,this]
theorem xS_(a b:Int):PC Try.prog 78 [.s (.int .i64 a),.s (.int .i64 b)] (fun r=>r=.s (.bool (band a b==a))):=by
 refine zn_ c78 zp_ rfl ?_
 simp -implicitDefEqProofs [a78,F78,↓z4_,band]
def yP_(s t:Int):Bool:=!(band s t==0)
def kH_(s:Int)(l:List Int)(m:Nat)(S:St):Prop:=∃i,i+m=l.length/\(l.take i).all (yP_ s)=true/\S=⟨tmL [(7,.list 1 (iv l)),(8,.s (.int .i64 l.length)),(9,.s (.int .i64 i))],[.s (.int .i64 s),.list 1 (iv l),.s (.bool false),.no],[],0⟩
theorem kG_(s:Int)(l:List Int)(hl:l.length<=1000000):PC Try.prog 64 [.s (.int .i64 s),.list 1 (iv l)] (fun r=>r=.s (.bool (l.all (yP_ s)))):=by
 refine zn_ c64 zp_ rfl ?_
 simp -implicitDefEqProofs [a64,F64]
 refine zi_ [7,8,9] [3] 0 (zzl_ _) (kH_ s l) l.length ⟨by simp,0,by simp,by simp,by simp⟩ ?_
 rintro m S ⟨i,hi,hx,rfl⟩
 by_cases hm:i<l.length
 .have h1:(i:Int)<l.length:=by omega
  have h0:¬(i:Int)<0:=by omega
  have hw:=wrap64 (n:=(i:Int)+1) (by omega)
  cases he:(bits .and .i64 s l[i]==0)
  .have hp:yP_ s l[i]=true:=by simp[yP_,band,he]
   simp[h1,h0,↓z4_,zI_ hm,he,hw]
   exact⟨m-1,by omega,i+1,by omega,by rw[yr_ hm,hx,hp];rfl,by simp⟩
  .have hp:yP_ s l[i]=false:=by simp[yP_,band,he]
   simp[h1,h0,↓z4_,zI_ hm,he,xr_ hm _ hp]
 .have h2:i=l.length:=by omega
  rw[zzx_ (by omega)]at hx
  simp[h2,hx]
def pMin(s t:Int):Bool:=!((t != s)&&(band s t==t))
def ii_(s:Int)(l:List Int)(m:Nat)(S:St):Prop:=∃i,i+m=l.length/\(l.take i).all (pMin s)=true/\S=⟨tmL [(7,.list 1 (iv l)),(8,.s (.int .i64 l.length)),(9,.s (.int .i64 i))],[.s (.int .i64 s),.list 1 (iv l),.s (.bool false),.no],[],0⟩
theorem p2_(s:Int)(l:List Int)(hl:l.length<=1000000):PC Try.prog 65 [.s (.int .i64 s),.list 1 (iv l)] (fun r=>r=.s (.bool (l.all (pMin s)))):=by
 refine zn_ c65 zp_ rfl ?_
 simp -implicitDefEqProofs [a65,F65]
 refine zi_ [7,8,9] [3] 0 (zzl_ _) (ii_ s l) l.length ⟨by simp,0,by simp,by simp,by simp⟩ ?_
 rintro m S ⟨i,hi,hx,rfl⟩
 by_cases hm:i<l.length
 .have h1:(i:Int)<l.length:=by omega
  have h0:¬(i:Int)<0:=by omega
  have hw:=wrap64 (n:=(i:Int)+1) (by omega)
  have hp:pMin s l[i]=!((l[i] != s)&&(bits .and .i64 s l[i]==l[i])):=rfl
  cases he:(l[i] != s)
  .rw[he,Bool.false_and]at hp
   simp[h1,h0,↓z4_,zI_ hm,he,hw]
   exact⟨m-1,by omega,i+1,by omega,by rw[yr_ hm,hx,hp];rfl,by simp⟩
  cases he2:(bits .and .i64 s l[i]==l[i])
  .rw[he,he2]at hp
   simp[h1,h0,↓z4_,zI_ hm,he,he2,hw]
   exact⟨m-1,by omega,i+1,by omega,by rw[yr_ hm,hx,hp];rfl,by simp⟩
  .rw[he,he2]at hp
   simp[h1,h0,↓z4_,zI_ hm,he,he2,xr_ hm _ hp]
 .have h2:i=l.length:=by omega
  rw[zzx_ (by omega)]at hx
  simp[h2,hx]
def upto(k:Nat):List Int:=(List.range (k-1)).map fun i=>((i+1:Nat):Int)
theorem tG_{i:Nat}(h:1<=i):upto (i+1)=upto i++[(i:Int)]:=by
 unfold upto
 obtain⟨j,rfl⟩:∃j,i=j+1:=⟨i-1,by omega⟩
 simp only[Nat.add_sub_cancel]
 rw[yyv_,List.map_append]
 rfl
@[simp] theorem upto_length (k:Nat):(upto k).length=k-1:=by simp[upto]
def pMaj(n:Nat)(s:Int):Bool:=decide (pop s.toNat=n/2+1)
theorem iq_(n:Nat)(h:n<=9):IntKind.i64.wrap ((n:Int)/2)=(n:Int)/2/\IntKind.i64.wrap ((n:Int)/2+1)=(n:Int)/2+1:=⟨wrap64 (by omega),wrap64 (by omega)⟩
theorem hx_(s:Nat)(h:s<512):bits .and .i64 (s:Int) 1=(s:Int)%2:=by
 have:=yl_ s 1 (by omega) (by omega)
 rw[show ((1:Nat):Int)=1 from rfl]at this
 rw[this,show (1:Nat)=2^1-1 from rfl,Nat.and_two_pow_sub_one_eq_mod]
 omega
theorem shr1(s:Nat):(s:Int).fdiv (2^min 1 IntKind.i64.bits)=((s/2:Nat):Int):=by
 show (s:Int).fdiv 2=_
 rw[Int.fdiv_eq_ediv_of_nonneg _ (by omega)]
 omega
def ka_(s:Nat)(m:Nat)(S:St):Prop:=∃c t,t=m/\t<512/\c<=512/\c+pop t=pop s/\S=⟨tmL [],[.s (.int .i64 t),.s (.int .i64 0),.s (.int .i64 c)],[],0⟩
theorem ku_{s:Nat}(h:s<512):pop s<=9:=oi_ 9 s (by omega)
theorem k9_(s:Nat)(hs:s<512):PC Try.prog 74 [.s (.int .i64 s)] (fun r=>r=.s (.int .i64 (pop s))):=by
 refine zn_ c74 zp_ rfl ?_
 simp -implicitDefEqProofs [a74,F74]
 refine zi_ [] [] 0 (zzl_ _) (ka_ s) s ⟨by simp,0,s,rfl,hs,by omega,by omega,by simp⟩ ?_
 rintro m S ⟨c,t,rfl,ht,hc,hp,rfl⟩
 have h9:=ku_ hs
 by_cases h:0<t
 .have e1:=hx_ t ht
  have e2:=shr1 t
  have e3:=wrap64 (n:=(c:Int)+(t:Int)%2) (by omega)
  have e4:=wrap64 (n:=((t/2:Nat):Int)) (by omega)
  rw[yJ_ t]at hp
  simp[h,↓z4_,e1,e2,e3,e4]
  exact⟨t/2,by omega,c+t%2,t/2,rfl,by omega,by omega,by omega,by simp⟩
 .have h1:t=0:=by omega
  subst h1
  rw[yO_]at hp
  have:c=pop s:=by omega
  simp[this]
def zi(q:List Nat):List Int:=q.map fun n:Nat=>(n:Int)
@[simp] theorem zi_length (q:List Nat):(zi q).length=q.length:=by simp[zi]
@[simp] theorem zi_nil:zi []=[]:=rfl
def cV(n:Int)(q:List Nat):V:=.agg [.s (.int .i64 n),.list 1 (iv (zi q))]
def rV(n:Int)(q:List Nat)(e:Int):V:=.tup [cV n q,.s (.int .i64 e)]
def eV(e:Int):V:=.tup [.agg [.s (.int .i64 0),.s (.slice none 0 0)],.s (.int .i64 e)]
def raw(e n:Int)(q:List Nat):V:=if e=0 then rV n q 0 else eV e
def res(e n:Int)(q:List Nat):V:=if e=0 then rV n q 0 else rV 0 [] e
theorem jV_(e n:Int)(q:List Nat):frT (raw e n q) (res e n q):=by
 unfold raw res
 split
 .simp[rV,cV,frT,frAs,frA,frLs,frL,immC]
 .simp[rV,cV,eV,frT,frAs,frA,frLs,frL,immC]
theorem o1_(e n:Int)(q:List Nat):okV (res e n q)=true:=by unfold res;split<;>rfl
theorem lh_{f:Nat}{args:List V}{e n:Int}{q:List Nat}(h:PC Try.prog f args (fun r=>r=raw e n q)):PC Try.prog f args (fun r=>r=res e n q) :=
 y9_ h fun x hx _=>⟨_,hx ▸ jV_ e n q,o1_ e n q,rfl⟩
theorem pJ_(n:Nat):upto (2^n)=zi (subs n):=by
 have h1:1<=2^n:=Nat.pow_pos (by omega)
 unfold subs zi
 generalize 2^n=k at h1
 induction k with
 |zero=>omega
 | succ k ih =>
   rcases yyo_ k with h|h
   .subst h;simp[upto]
   .rw[tG_ h,ih h,yyv_,List.filter_append,List.map_append]
    have:decide (1<=k)=true:=decide_eq_true h
    simp[List.filter,this]
theorem sx_(l:List Nat)(p:Int->Bool)(q:Nat->Bool)(h:∀s∈l,p (s:Int)=q s):(zi l).filter p=zi (l.filter q):=by
 induction l with
 |nil=>rfl
 | cons x l ih =>
   have h1:=h x (by simp)
   have h2:=ih fun s hs=>h s (by simp[hs])
   simp only[zi,List.map_cons,List.filter_cons]at h2 ⊢
   rw[h1]
   split<;>simp[h2]
def majE(n:Int):Int:=if 1<=n/\n<=9 then (if (xm_ n.toNat).length<=64 then 0 else 4) else 1
theorem p3_(n:Nat):(upto (2^n)).filter (pMaj n)=zi (xm_ n):=by
 rw[pJ_]
 exact sx_ _ _ _ fun s hs=>by simp[pMaj]
theorem vk_{i:Nat}(h:1<=i)(p:Int->Bool):(upto (i+1)).filter p=(upto i).filter p++(if p i then [(i:Int)] else []):=by
 rw[tG_ h,List.filter_append]
 congr 1
 simp[List.filter]
 split<;>simp_all
def jN_(n:Nat)(m:Nat)(S:St):Prop:=∃i,1<=i/\i+m=2^n/\S=⟨tmL [(2,.ptr 0 0),(4,.ptr 1 0)],[.s (.int .i64 n),.s (.int .i64 0),.s (.int .i64 i)],[[.s (.int .i64 0),.s (.slice none 0 0)],[.s (.int .i64 n),.own true 3 1 (iv ((upto i).filter (pMaj n)))]],0⟩
theorem t4_(n:Int):PC Try.prog 57 [.s (.int .i64 n)] (fun r=>r=raw (majE n) n (xm_ n.toNat)):=by
 refine zn_ c57 zp_ rfl ?_
 by_cases h1:n<1
 .have e:majE n=1:=by simp only[majE];rw[if_neg (by omega)]
  simp -implicitDefEqProofs [a57,F57,h1,e,raw,eV]
 by_cases h2:9<n
 .have e:majE n=1:=by simp only[majE];rw[if_neg (by omega)]
  simp -implicitDefEqProofs [a57,F57,h1,h2,e,raw,eV]
 have h:1<=n/\n<=9:=by omega
 obtain⟨k,rfl⟩:∃k:Nat,n=k:=⟨n.toNat,by omega⟩
 have hk:k<=9:=by omega
 have h512:2^k<=2^9:=yyf_ (by omega) hk
 have h1n:1<=2^k:=Nat.pow_pos (by omega)
 have e:=shl1 (n:=k) (by omega)
 have hn0:¬(k:Int)<0:=by omega
 have hfil:=p3_ k
 have hinv:jN_ k=fun m S=>∃i:Nat,1<=i/\i+m=2^k/\S=⟨tmL [(2,.ptr 0 0),(4,.ptr 1 0)],[.s (.int .i64 k),.s (.int .i64 0),.s (.int .i64 i)],[[.s (.int .i64 0),.s (.slice none 0 0)],[.s (.int .i64 k),.own true 3 1 (iv ((upto i).filter (pMaj k)))]],0⟩:=rfl
 generalize 2^k=K at *
 simp -implicitDefEqProofs [a57,F57,h1,h2]
 refine zi_ [2,4] [] 2 (by decide) (jN_ k) (K-1) ⟨by simp,?_⟩ ?_
 .rw[hinv]
  exact⟨1,by omega,by omega,by simp[upto]⟩
 rintro m S hS
 rw[hinv]at hS
 obtain⟨i,hi1,hi,rfl⟩:=hS
 obtain⟨w2,w3⟩:=iq_ k hk
 by_cases hm:i<K
 .have g1:(i:Int)<K:=by omega
  have hw:=wrap64 (n:=(i:Int)+1) (by omega)
  have hfl:((upto i).filter (pMaj k)).length<=i-1:=yyd_ (List.length_filter_le _ _) (by simp)
  have b1:((upto i).filter (pMaj k)).length+1<=maxLen/\(((upto i).filter (pMaj k)).length+1)*8<=z5_:=by simp[maxLen,z5_];omega
  have hs:=vk_ hi1 (pMaj k)
  simp[g1,hn0,e]
  refine z1_ ?_
  simp
  refine zc_ (k9_ i (by omega)) (by simp) (by simp) ?_
  rintro _ rfl
  cases hp:pMaj k (i:Int)
  .have hp':((pop i:Int)==(k:Int)/2+1)=false:=by simp[pMaj]at hp;simp;omega
   rw[hp]at hs
   simp[w2,w3,hp',hw]
   refine⟨m-1,by omega,?_⟩
   rw[hinv]
   exact⟨i+1,by omega,by omega,by rw[hs];simp⟩
  .have hp':((pop i:Int)==(k:Int)/2+1)=true:=by simp[pMaj]at hp;simp;omega
   rw[hp]at hs
   simp[w2,w3,hp',hw,b1]
   refine⟨m-1,by omega,?_⟩
   rw[hinv]
   exact⟨i+1,by omega,by omega,by rw[hs];simp[iv]⟩
 .have h2:i=K:=by omega
  subst h2
  rw[hfil]
  by_cases h2:(xm_ k).length<=64
  .have g1:¬(64:Int)<((xm_ k).length:Int):=by omega
   have e':majE k=0:=by simp[majE,h,h2]
   simp[hn0,e,g1,e',raw,rV,cV]
  .have g1:(64:Int)<((xm_ k).length:Int):=by omega
   have e':majE k=4:=by simp[majE,h,h2]
   simp[hn0,e,g1,e',raw,eV]
theorem s4_(n:Int):PC Try.prog 57 [.s (.int .i64 n)] (fun r=>r=res (majE n) n (xm_ n.toNat)):=lh_ (t4_ n)
def ascP(k:Nat)(q:List Int)(i:Nat):Prop:=(1<=q.getD i 0/\q.getD i 0<((2^k:Nat):Int))/\(0<i->q.getD (i-1) 0<q.getD i 0)
structure okC(n:Int)(q:List Int):Prop where
 n1:1<=n/\n<=9
 l1:1<=q.length
 l2:q.length<=64
 asc:∀i,i<q.length->ascP n.toNat q i
 mm:∀s∈q,q.all (yP_ s)=true/\q.all (pMin s)=true
noncomputable def okB(n:Int)(q:List Int):Bool:=@decide (okC n q) (Classical.propDecidable _)
theorem mg_{n:Int}{q:List Int}(h:okC n q):okB n q=true:=by unfold okB;exact @decide_eq_true _ (Classical.propDecidable _) h
theorem vX_{n:Int}{q:List Int}(h:¬okC n q):okB n q=false:=by unfold okB;exact @decide_eq_false _ (Classical.propDecidable _) h
theorem ta_{n:Int}{q:List Int}:okB n q=true↔okC n q:=by
 by_cases h:okC n q
 .simp[mg_ h,h]
 .simp[vX_ h,h]
def cP(n:Int)(q:List Int):V:=.agg [.s (.int .i64 n),.list 1 (iv q)]
theorem wk_{q:List Int}{i:Nat}(h:i<q.length):q.getD i 0=q[i]:=by simp[yyk_,h]
theorem oG_{α:Type}{l:List α}{i:Nat}(h:i<l.length)(x:α):x∈l.take (i+1)↔x∈l.take i\/x=l[i]:=by
 rw[yyw_,zzf_ h,zzw_];simp
def va1(k:Nat)(q:List Int)(m:Nat)(S:St):Prop:=∃i:Nat,i+m=q.length/\(∀j,j<i->ascP k q j)/\S=⟨tmL [(1,.ptr 0 0),(24,.list 1 (iv q)),(25,.s (.int .i64 q.length)),(26,.s (.int .i64 i))],[.agg [.s (.int .i64 k),.list 1 (iv q)],.s (.bool false),.no,.no,.no],[[.s (.int .i64 k),.list 1 (iv q)]],0⟩
def va2(k:Nat)(q:List Int)(m:Nat)(S:St):Prop:=∃i:Nat,i+m=q.length/\(∀s∈q.take i,q.all (yP_ s)=true/\q.all (pMin s)=true)/\S=⟨tmL [(1,.ptr 0 0),(52,.list 1 (iv q)),(53,.s (.int .i64 q.length)),(54,.s (.int .i64 i))],[.agg [.s (.int .i64 k),.list 1 (iv q)],.s (.bool false),.no,.no,.no],[[.s (.int .i64 k),.list 1 (iv q)]],0⟩
theorem l3_(n:Int)(q:List Int)(hq:q.length<=1000000):PC Try.prog 40 [cP n q] (fun r=>r=.s (.bool (okB n q))):=by
 refine zn_ c40 zp_ rfl ?_
 simp -implicitDefEqProofs [a40,F40,cP]
 refine z1_ ?_
 simp
 refine zc_ (pC_ n) (by simp) (by simp) ?_
 rintro _ rfl
 by_cases h1:1<=n/\n<=9
 case neg =>
  have e:=vX_ (n:=n) (q:=q) fun h=>h1 h.n1
  simp[h1,e]
 obtain⟨k,rfl⟩:∃k:Nat,n=k:=⟨n.toNat,by omega⟩
 have hk:k<=9:=by omega
 by_cases h2:(q.length:Int)<1
 .have e:=vX_ (n:=k) (q:=q) fun h=>by have:=h.l1;omega
  simp[h1,h2,e]
 by_cases h3:(64:Int)<(q.length:Int)
 .have e:=vX_ (n:=k) (q:=q) fun h=>by have:=h.l2;omega
  simp[h1,h2,h3,e]
 simp[h1,h2,h3]
 refine zi_ [1,24,25,26] [2,3,4] 1 (by decide) (va1 k q) q.length ⟨by simp,0,by simp,by simp,by simp⟩ ?_
 rintro m S ⟨i,hi,hx,rfl⟩
 by_cases hm:i<q.length
 .have g1:(i:Int)<q.length:=by omega
  have g0:¬(i:Int)<0:=by omega
  have hw:=wrap64 (n:=(i:Int)+1) (by omega)
  have bad:¬ascP k q i->okB k q=false:=fun hb=>vX_ fun h=>hb (h.asc i hm)
  have hgi:=wk_ hm
  simp[g1,g0,zI_ hm]
  refine z1_ ?_
  simp
  refine zc_ (mt_ q[i] k (by omega)) (by simp) (by simp) ?_
  rintro _ rfl
  by_cases h4:1<=q[i]/\q[i]<((2^k:Nat):Int)
  case neg =>
   have e:=bad fun h=>h4 (by rw[<-hgi];exact h.1)
   rw[decide_eq_false h4]
   simp[e]
  rw[decide_eq_true h4]
  rcases yyo_ i with hz|hz
  .have hz':¬0<i:=by omega
   simp[hz',hw]
   refine⟨m-1,by omega,i+1,by omega,fun j hj=>?_,by simp⟩
   rcases Nat.lt_succ_iff_lt_or_eq.1 hj with h|rfl
   .exact hx j h
   .exact⟨by rw[hgi];exact h4,fun h=>by omega⟩
  .have hp:i-1<q.length:=by omega
   have w2:IntKind.i64.wrap ((i:Int)-1)=((i-1:Nat):Int):=by rw[wrap64 (by omega)];omega
   have g2:¬((i-1:Nat):Int)<0:=by omega
   have hgp:=wk_ hp
   by_cases h5:q[i]<=q[i-1]
   .have e:=bad fun h=>by have:=h.2 hz;rw[hgi,hgp]at this;omega
    simp[hz,w2,g2,zI_ hp,h5,e]
   .simp[hz,w2,g2,zI_ hp,h5,hw]
    refine⟨m-1,by omega,i+1,by omega,fun j hj=>?_,by simp⟩
    rcases Nat.lt_succ_iff_lt_or_eq.1 hj with h|rfl
    .exact hx j h
    .exact⟨by rw[hgi];exact h4,fun _=>by rw[hgi,hgp];omega⟩
 have h6:i=q.length:=by omega
 subst h6
 simp
 refine zi_ [1,52,53,54] [2,3,4] 1 (by decide) (va2 k q) q.length ⟨by simp,0,by simp,by simp,by simp⟩ ?_
 rintro m S ⟨i,hi,hy,rfl⟩
 by_cases hm:i<q.length
 .have g1:(i:Int)<q.length:=by omega
  have g0:¬(i:Int)<0:=by omega
  have hw:=wrap64 (n:=(i:Int)+1) (by omega)
  have bad:¬(q.all (yP_ q[i])=true/\q.all (pMin q[i])=true)->okB k q=false:=fun hb=>vX_ fun h=>hb (h.mm _ (yyp_ hm))
  simp[g1,g0,zI_ hm]
  refine z1_ ?_
  simp
  refine zc_ (kG_ q[i] q hq) (by simp) (by simp) ?_
  rintro _ rfl
  cases h7:q.all (yP_ q[i])
  .have e:=bad fun h=>by rw[h7]at h;cases h.1
   simp[e]
  simp
  refine z1_ ?_
  simp
  refine zc_ (p2_ q[i] q hq) (by simp) (by simp) ?_
  rintro _ rfl
  cases h8:q.all (pMin q[i])
  .have e:=bad fun h=>by rw[h8]at h;cases h.2
   simp[e]
  .simp[hw]
   refine⟨m-1,by omega,i+1,by omega,fun s hs=>?_,by simp⟩
   rw[oG_ hm]at hs
   rcases hs with h|rfl
   .exact hy s h
   .exact⟨h7,h8⟩
 have h6:i=q.length:=by omega
 rw[zzx_ (by omega)]at hy
 have e:=mg_ (n:=k) (q:=q) ⟨h1,by omega,by omega,fun i hi=>hx i (by omega),hy⟩
 simp[h6,e]
theorem wN_(a b:Int):band a b=band b a:=sq_ a b
def prP(p q:Int):Bool:=!(band p q==0)&&!(band p q==p)&&!(band q p==q)
structure rowP(k:Nat)(q:List Int)(i:Nat):Prop where
 asc:ascP k q i
 pr:(q.take i).all (fun p=>prP p (q.getD i 0))=true
theorem iP_{k:Nat}{q:List Int}(h:∀i,i<q.length->ascP k q i):∀ {i j:Nat},i<j->j<q.length->q.getD i 0<q.getD j 0:=by
 intro i j hij
 induction j with
 |zero=>omega
 | succ j ih =>
   intro hj
   have h1:=(h (j+1) hj).2 (by omega)
   rw[Nat.add_sub_cancel]at h1
   rcases Nat.lt_succ_iff_lt_or_eq.1 hij with h2|rfl
   .have:=ih h2 (by omega);omega
   .exact h1
theorem no_{k:Nat}{s:Int}(hk:k<=9)(h:1<=s/\s<((2^k:Nat):Int)):band s s=s:=by
 have h2:2^k<=2^9:=yyf_ (by omega) hk
 generalize 2^k=K at *
 obtain⟨a,rfl⟩:∃a:Nat,s=a:=⟨s.toNat,by omega⟩
 unfold band
 rw[yl_ a a (by omega) (by omega),Nat.and_self]
theorem pZ_{k:Nat}{q:List Int}(hk:k<=9)(h:∀i,i<q.length->ascP k q i):(∀i,i<q.length->rowP k q i)↔∀s∈q,q.all (yP_ s)=true/\q.all (pMin s)=true:=by
 have hget:∀ {i:Nat} (hi:i<q.length),q.getD i 0=q[i]:=fun hi=>wk_ hi
 constructor
 .intro hr s hs
  obtain⟨i,hi,rfl⟩:=List.getElem_of_mem hs
  have key:∀j (hj:j<q.length),yP_ q[i] q[j]=true/\pMin q[i] q[j]=true:=by
   intro j hj
   have hpair:∀a b (ha:a<q.length) (hb:b<q.length),a<b->band q[a] q[b]≠0/\band q[a] q[b]≠q[a]/\band q[a] q[b]≠q[b]:=by
    intro a b ha hb hab
    have:=(hr b hb).pr
    rw[zzh_]at this
    have h2:=this q[a] (List.mem_take_iff_getElem.2 ⟨a,by omega,rfl⟩)
    rw[hget hb]at h2
    simp only[prP,zzg_,yyh_,beq_eq_false_iff_ne]at h2
    rw[wN_ q[b] q[a]]at h2
    exact⟨h2.1.1,h2.1.2,h2.2⟩
   rcases Nat.lt_trichotomy i j with hij|rfl|hij
   .obtain⟨a1,a2,a3⟩:=hpair i j hi hj hij
    exact⟨by simp[yP_,a1],by simp[pMin,a3]⟩
   .have hs:=no_ hk (by have:=(h i hi).1;rw[hget hi]at this;exact this)
    have h1:=(h i hi).1
    rw[hget hi]at h1
    exact⟨by simp[yP_,hs];omega,by simp[pMin]⟩
   .obtain⟨a1,a2,a3⟩:=hpair j i hj hi hij
    rw[wN_]at a1 a2
    exact⟨by simp[yP_,a1],by simp[pMin,a2]⟩
  constructor<;>rw[zzh_]<;>intro t ht<;>obtain⟨j,hj,rfl⟩:=List.getElem_of_mem ht
  .exact(key j hj).1
  .exact(key j hj).2
 .intro hm i hi
  refine⟨h i hi,?_⟩
  rw[zzh_]
  intro p hp
  obtain⟨j,hj,rfl⟩:=List.mem_take_iff_getElem.1 hp
  have hjl:j<q.length:=by omega
  have hne:q[j]≠q[i]:=by
   have:=iP_ h (show j<i by omega) hi
   rw[hget hjl,hget hi]at this
   omega
  have m1:=hm q[i] (yyp_ hi)
  have m2:=hm q[j] (yyp_ hjl)
  simp only[zzh_]at m1 m2
  have a1:=m2.1 q[i] (yyp_ hi)
  have a2:=m1.2 q[j] (yyp_ hjl)
  have a3:=m2.2 q[i] (yyp_ hi)
  rw[hget hi]
  simp only[yP_,yyh_,beq_eq_false_iff_ne]at a1
  have a2':band q[i] q[j]≠q[j]:=by
   intro e
   simp[pMin,hne,e]at a2
  have a3':band q[j] q[i]≠q[i]:=by
   intro e
   simp[pMin,Ne.symm hne,e]at a3
  rw[wN_]at a2'
  have a3'':=a3'
  rw[wN_]at a3''
  simp[prP,a1,a2',a3'']
def rv1(k:Nat)(q:List Int)(m:Nat)(S:St):Prop:=∃i:Nat,i+m=q.length/\(∀j,j<i->rowP k q j)/\S=⟨tmL [(1,.ptr 0 0),(8,.list 1 (iv q)),(9,.s (.int .i64 q.length)),(10,.s (.int .i64 i))],[.agg [.s (.int .i64 k),.list 1 (iv q)],.s (.bool false),.no,.no,.no],[[.s (.int .i64 k),.list 1 (iv q)]],0⟩
def rv2(k:Nat)(q:List Int)(i:Nat)(m:Nat)(S:St):Prop:=∃j:Nat,j+m=i/\(q.take j).all (fun p=>prP p (q.getD i 0))=true/\S=⟨tmL [(1,.ptr 0 0),(8,.list 1 (iv q)),(9,.s (.int .i64 q.length)),(10,.s (.int .i64 i)),(41,.list 1 (iv (q.take i))),(42,.s (.int .i64 i)),(43,.s (.int .i64 j))],[.agg [.s (.int .i64 k),.list 1 (iv q)],.s (.bool false),.s (.int .i64 i),.s (.int .i64 (q.getD i 0)),.no],[[.s (.int .i64 k),.list 1 (iv q)]],0⟩
theorem tf_(q:List Int)(i:Nat):(iv q).take i=iv (q.take i):=by simp[iv,List.map_take]
noncomputable def rowB(k:Nat)(q:List Int):Bool:=@decide (∀i,i<q.length->rowP k q i) (Classical.propDecidable _)
theorem lc_{k:Nat}{q:List Int}(h:∀i,i<q.length->rowP k q i):rowB k q=true:=by unfold rowB;exact @decide_eq_true _ (Classical.propDecidable _) h
theorem o0_{k:Nat}{q:List Int}(h:¬ ∀i,i<q.length->rowP k q i):rowB k q=false:=by unfold rowB;exact @decide_eq_false _ (Classical.propDecidable _) h
theorem kh_(k:Nat)(hk:k<=9)(q:List Int)(hq:q.length<=1000000):PC Try.prog 67 [cP k q] (fun r=>r=.s (.bool (rowB k q))):=by
 refine zn_ c67 zp_ rfl ?_
 have es:=shl1 (n:=k) (by omega)
 obtain⟨K,hK⟩:∃K:Nat,K=2^k:=⟨_,rfl⟩
 rw[<-hK]at es
 have k0:¬(k:Int)<0:=by omega
 simp -implicitDefEqProofs [a67,F67,cP]
 refine zi_ [1,8,9,10] [2,3,4] 1 (by decide) (rv1 k q) q.length ⟨by simp,0,by simp,by simp,by simp⟩ ?_
 rintro m S ⟨i,hi,hx,rfl⟩
 by_cases hm:i<q.length
 case neg =>
  have h6:i=q.length:=by omega
  have e:=lc_ fun j hj=>hx j (by omega)
  simp -implicitDefEqProofs [h6,e]
 have g1:(i:Int)<q.length:=by omega
 have g0:¬(i:Int)<0:=by omega
 have hw:=wrap64 (n:=(i:Int)+1) (by omega)
 have bad:¬ascP k q i->rowB k q=false:=fun hb=>o0_ fun h=>hb (h i hm).asc
 have bad2:¬rowP k q i->rowB k q=false:=fun hb=>o0_ fun h=>hb (h i hm)
 have hgi:=wk_ hm
 have hgd:q[i]?.getD 0=q[i]:=by simp[hm]
 have hile:i<=q.length:=by omega
 have hmin:min i q.length=i:=by omega
 by_cases c1:q[i]<1
 .have e:=bad fun h=>by have:=h.1.1;omega
  simp -implicitDefEqProofs [g1,g0,zI_ hm,c1,e]
 by_cases c2:(K:Int)<=q[i]
 .have e:=bad fun h=>by have:=h.1.2;rw[<-hK]at this;omega
  simp -implicitDefEqProofs [g1,g0,zI_ hm,c1,k0,es,c2,e]
 rcases yyo_ i with hz|hz
 .have hz':¬0<i:=by omega
  have hasc:ascP k q i:=⟨by rw[hgi,<-hK];omega,fun h=>by omega⟩
  simp -implicitDefEqProofs [g1,g0,zI_ hm,c1,k0,es,c2,hz',hile,tf_,hmin]
  refine zi_ [1,8,9,10,41,42,43] [4] 1 (by decide) (rv2 k q i) i ⟨by simp,0,by simp,by simp,by simp[tf_,hgd]⟩ ?_
  rintro m' S ⟨j,hj,hpr,rfl⟩
  by_cases hj2:j<i
  case neg =>
   have h6:j=i:=by omega
   subst h6
   simp -implicitDefEqProofs [hw]
   refine⟨m-1,by omega,j+1,by omega,fun j' hj'=>?_,by simp⟩
   rcases Nat.lt_succ_iff_lt_or_eq.1 hj' with h|rfl
   .exact hx _ h
   .exact⟨hasc,hpr⟩
  have j1:(j:Int)<(i:Int):=by omega
  have j0:¬(j:Int)<0:=by omega
  have hjt:j<(q.take i).length:=by simp;omega
  have hjq:j<q.length:=by omega
  have hgt:(q.take i)[j]'hjt=q[j]:=by simp
  have hgj:(iv (q.take i))[j]?=some (.s (.int .i64 q[j])):=by rw[zI_ hjt,hgt]
  have hwj:=wrap64 (n:=(j:Int)+1) (by omega)
  have hpr1:prP q[j] q[i]=(!(bits .and .i64 q[j] q[i]==0)&&!(band q[j] q[i]==q[j])&&!(band q[i] q[j]==q[i])):=rfl
  have stop:prP q[j] q[i]=false->rowB k q=false:=fun hb=>bad2 fun h=>by
   have:=h.pr
   rw[zzh_]at this
   have:=this q[j] (List.mem_take_iff_getElem.2 ⟨j,by omega,rfl⟩)
   rw[hgi,hb]at this
   cases this
  cases d1:(bits .and .i64 q[j] q[i]==0)
  case true =>
   have e:=stop (by rw[hpr1,d1];rfl)
   simp -implicitDefEqProofs [j1,j0,hgj,hgd,↓z4_,d1,e]
  simp -implicitDefEqProofs [j1,j0,hgj,hgd,↓z4_,d1]
  refine z1_ ?_
  simp -implicitDefEqProofs
  refine zc_ (xS_ q[j] q[i]) (by simp) (by simp) ?_
  rintro _ rfl
  cases d2:(band q[j] q[i]==q[j])
  case true =>
   have e:=stop (by rw[hpr1,d1,d2];rfl)
   simp -implicitDefEqProofs [e]
  simp -implicitDefEqProofs
  refine z1_ ?_
  simp -implicitDefEqProofs
  refine zc_ (xS_ q[i] q[j]) (by simp) (by simp) ?_
  rintro _ rfl
  cases d3:(band q[i] q[j]==q[i])
  case true =>
   have e:=stop (by rw[hpr1,d1,d2,d3];rfl)
   simp -implicitDefEqProofs [e]
  simp -implicitDefEqProofs [hwj]
  refine⟨m'-1,by omega,j+1,by omega,?_,by simp[hgd]⟩
  have hpt:prP q[j] (q.getD i 0)=true:=by rw[hgi,hpr1,d1,d2,d3];rfl
  rw[yr_ hjq,hpr,hpt];rfl
 .have hp:i-1<q.length:=by omega
  have w2:IntKind.i64.wrap ((i:Int)-1)=((i-1:Nat):Int):=by rw[wrap64 (by omega)];omega
  have g2:¬((i-1:Nat):Int)<0:=by omega
  have hgp:=wk_ hp
  by_cases h5:q[i]<=q[i-1]
  .have e:=bad fun h=>by have:=h.2 hz;rw[hgi,hgp]at this;omega
   simp -implicitDefEqProofs [g1,g0,zI_ hm,c1,k0,es,c2,hz,w2,g2,zI_ hp,h5,e]
  have hasc:ascP k q i:=⟨by rw[hgi,<-hK];omega,fun h=>by rw[hgi,hgp];omega⟩
  simp -implicitDefEqProofs [g1,g0,zI_ hm,c1,k0,es,c2,hz,w2,g2,zI_ hp,h5,hile,tf_,hmin]
  refine zi_ [1,8,9,10,41,42,43] [4] 1 (by decide) (rv2 k q i) i ⟨by simp,0,by simp,by simp,by simp[tf_,hgd]⟩ ?_
  rintro m' S ⟨j,hj,hpr,rfl⟩
  by_cases hj2:j<i
  case neg =>
   have h6:j=i:=by omega
   subst h6
   simp -implicitDefEqProofs [hw]
   refine⟨m-1,by omega,j+1,by omega,fun j' hj'=>?_,by simp⟩
   rcases Nat.lt_succ_iff_lt_or_eq.1 hj' with h|rfl
   .exact hx _ h
   .exact⟨hasc,hpr⟩
  have j1:(j:Int)<(i:Int):=by omega
  have j0:¬(j:Int)<0:=by omega
  have hjt:j<(q.take i).length:=by simp;omega
  have hjq:j<q.length:=by omega
  have hgt:(q.take i)[j]'hjt=q[j]:=by simp
  have hgj:(iv (q.take i))[j]?=some (.s (.int .i64 q[j])):=by rw[zI_ hjt,hgt]
  have hwj:=wrap64 (n:=(j:Int)+1) (by omega)
  have hpr1:prP q[j] q[i]=(!(bits .and .i64 q[j] q[i]==0)&&!(band q[j] q[i]==q[j])&&!(band q[i] q[j]==q[i])):=rfl
  have stop:prP q[j] q[i]=false->rowB k q=false:=fun hb=>bad2 fun h=>by
   have:=h.pr
   rw[zzh_]at this
   have:=this q[j] (List.mem_take_iff_getElem.2 ⟨j,by omega,rfl⟩)
   rw[hgi,hb]at this
   cases this
  cases d1:(bits .and .i64 q[j] q[i]==0)
  case true =>
   have e:=stop (by rw[hpr1,d1];rfl)
   simp -implicitDefEqProofs [j1,j0,hgj,hgd,↓z4_,d1,e]
  simp -implicitDefEqProofs [j1,j0,hgj,hgd,↓z4_,d1]
  refine z1_ ?_
  simp -implicitDefEqProofs
  refine zc_ (xS_ q[j] q[i]) (by simp) (by simp) ?_
  rintro _ rfl
  cases d2:(band q[j] q[i]==q[j])
  case true =>
   have e:=stop (by rw[hpr1,d1,d2];rfl)
   simp -implicitDefEqProofs [e]
  simp -implicitDefEqProofs
  refine z1_ ?_
  simp -implicitDefEqProofs
  refine zc_ (xS_ q[i] q[j]) (by simp) (by simp) ?_
  rintro _ rfl
  cases d3:(band q[i] q[j]==q[i])
  case true =>
   have e:=stop (by rw[hpr1,d1,d2,d3];rfl)
   simp -implicitDefEqProofs [e]
  simp -implicitDefEqProofs [hwj]
  refine⟨m'-1,by omega,j+1,by omega,?_,by simp[hgd]⟩
  have hpt:prP q[j] (q.getD i 0)=true:=by rw[hgi,hpr1,d1,d2,d3];rfl
  rw[yr_ hjq,hpr,hpt];rfl
theorem mh_{k:Nat}{q:List Int}(hk:1<=k/\k<=9)(h1:1<=q.length)(h2:q.length<=64):okB k q=rowB k q:=by
 by_cases h:∀i,i<q.length->rowP k q i
 .rw[lc_ h]
  exact mg_ ⟨by omega,h1,h2,fun i hi=>(h i hi).asc,(pZ_ hk.2 fun i hi=>(h i hi).asc).1 h⟩
 .rw[o0_ h]
  exact vX_ fun o=>h ((pZ_ hk.2 o.asc).2 o.mm)
theorem ob_(n:Int)(q:List Int)(hq:q.length<=1000000):PC Try.prog 44 [cP n q] (fun r=>r=.s (.bool (okB n q))):=by
 refine zn_ c44 zp_ rfl ?_
 by_cases h1:1<=n
 case neg =>
  have e:=vX_ (n:=n) (q:=q) fun h=>h1 h.n1.1
  simp -implicitDefEqProofs [a44,F44,cP,h1,e]
 by_cases h2:n<=9
 case neg =>
  have e:=vX_ (n:=n) (q:=q) fun h=>h2 h.n1.2
  simp -implicitDefEqProofs [a44,F44,cP,h1,h2,e]
 by_cases h3:(1:Int)<=(q.length:Int)
 case neg =>
  have e:=vX_ (n:=n) (q:=q) fun h=>by have:=h.l1;omega
  simp -implicitDefEqProofs [a44,F44,cP,h1,h2,h3,e]
 by_cases h4:(q.length:Int)<=64
 case neg =>
  have e:=vX_ (n:=n) (q:=q) fun h=>by have:=h.l2;omega
  simp -implicitDefEqProofs [a44,F44,cP,h1,h2,h3,h4,e]
 obtain⟨k,rfl⟩:∃k:Nat,n=k:=⟨n.toNat,by omega⟩
 simp -implicitDefEqProofs [a44,F44,cP,h1,h2,h3,h4]
 refine z1_ ?_
 simp -implicitDefEqProofs
 refine zc_ (kh_ k (by omega) q hq) (by simp[cP]) (by simp[cP]) ?_
 rintro _ rfl
 simp -implicitDefEqProofs [mh_ (k:=k) (q:=q) (by omega) (by omega) (by omega)]
theorem ty_{a b:Nat}(ha:a<512)(hb:b<512):band (a:Int) (b:Int)=((a&&&b:Nat):Int):=yl_ a b (by omega) (by omega)
theorem oo_{a b:Nat}(ha:a<512)(hb:b<512):yP_ (a:Int) (b:Int)=decide (a&&&b≠0):=by
 unfold yP_
 rw[ty_ ha hb]
 by_cases h:a&&&b=0
 .simp[h]
 .have:((a&&&b:Nat):Int)≠0:=by omega
  simp[h]
theorem ma_{s t:Nat}(hs:s<512)(ht:t<512):pMin (s:Int) (t:Int)=decide (Sub t s->t=s):=by
 unfold pMin
 rw[ty_ hs ht]
 have e:Sub t s↔((s&&&t:Nat):Int)=(t:Int):=by
  unfold Sub
  rw[Nat.and_comm]
  omega
 rw[yyt_]
 simp only[yyh_,Bool.and_eq_false_iff,bne_eq_false_iff_eq,beq_eq_false_iff_ne,zzp_]
 rw[e]
 constructor
 .rintro(h|h) hh
  .omega
  .exact absurd hh h
 .intro h
  by_cases he:((s&&&t:Nat):Int)=(t:Int)
  .have:=h he;left;omega
  .exact .inr he
theorem rC_{Q:List Nat}{p:Int->Bool}{q:Nat->Bool}(h:∀s∈Q,p (s:Int)=q s):(zi Q).all p=Q.all q:=by
 induction Q with
 |nil=>rfl
 | cons x l ih =>
   have h1:=h x (by simp)
   have h2:=ih fun s hs=>h s (by simp[hs])
   simp only[zi,List.map_cons,List.all_cons]at h2 ⊢
   rw[h1,h2]
theorem qd_{s:Nat}{Q:List Nat}(hs:s<512)(hQ:∀t∈Q,t<512):(zi Q).all (yP_ s)=oH_ s Q:=rC_ fun t ht=>oo_ hs (hQ t ht)
theorem mi_{s:Nat}{Q:List Nat}(hs:s<512)(hQ:∀t∈Q,t<512):(zi Q).all (pMin s)=sj_ s Q:=by
 rw[rC_ fun t ht=>ma_ hs (hQ t ht)]
 rw[yyt_,xR_,zzh_]
 simp only[zzp_]
structure Cv(n:Int)(q:List Int)(k:Nat)(Q:List Nat):Prop where
 n:n=k
 q:q=zi Q
 k1:1<=k/\k<=9
 cot:Cot k Q
 l64:Q.length<=64
theorem Cv.lt{n:Int}{q:List Int}{k:Nat}{Q:List Nat}(h:Cv n q k Q):∀t∈Q,t<512:=fun t ht=>by
 have h1:=(h.cot.rng t ht).2
 have h2:2^k<=2^9:=yyf_ (by omega) h.k1.2
 omega
theorem iH_{k:Nat}{Q:List Nat}(hk:1<=k/\k<=9)(h:Cot k Q)(hl:Q.length<=64):okC k (zi Q):=by
 have h9:2^k<=2^9:=yyf_ (by omega) hk.2
 have hlt:∀t∈Q,t<512:=fun t ht=>by have:=(h.rng t ht).2;omega
 have hget:∀ {i:Nat} (hi:i<(zi Q).length),(zi Q).getD i 0=((Q[i]'(by simpa using hi):Nat):Int):=fun {i} hi=>by rw[wk_ hi];simp[zi]
 have hl1:1<=Q.length:=by
  rcases yyo_ Q.length with h0|h0
  .exact absurd (yyj_ h0) h.ne
  .exact h0
 refine⟨by omega,by simpa using hl1,by simpa using hl,fun i hi=>⟨?_,fun hp=>?_⟩,fun s hs=>?_⟩
 .have:=h.rng (Q[i]'(by simpa using hi)) (yyp_ _)
  rw[hget hi]
  simp only[yys_]
  omega
 .have hi':i<Q.length:=by simpa using hi
  have:=List.pairwise_iff_getElem.1 h.asc (i-1) i (by omega) hi' (by omega)
  rw[hget (i:=i-1) (by simp;omega),hget hi]
  omega
 .simp only[zi,List.mem_map]at hs
  obtain⟨a,ha,rfl⟩:=hs
  rw[qd_ (hlt a ha) hlt,mi_ (hlt a ha) hlt]
  exact⟨vY_.2 fun t ht=>h.meet a ha t ht,xR_.2 fun t ht hst=>h.anti t ht a ha hst⟩
theorem nu_{α:Type}{l:List α}{i:Nat}(h:i<l.length)(p:α->Bool):(l.take (i+1)).any p=((l.take i).any p||p l[i]):=by
 rw[yyw_,zzf_ h,List.any_append];simp
def minA(s x:Int):Bool:=x==s
def minL(s x:Int):Bool:=(x==s)||!(band x s==x)
def minF(l:List Int)(s:Int):Bool:=l.any (minA s)&&l.all (minL s)
def xU_(k:Nat):List Int:=zi (List.range k)
theorem pc_(i:Nat):xU_ (i+1)=xU_ i++[(i:Int)]:=by simp[xU_,zi,yyv_]
@[simp] theorem from0_length (k:Nat):(xU_ k).length=k:=by simp[xU_]
def rmO(k K:Nat)(l:List Int)(m:Nat)(S:St):Prop:=∃i:Nat,i+m=K/\S=⟨tmL [],[.s (.int .i64 k),.list 1 (iv l),.s (.slice none 0 0),.own true 3 1 (iv ((xU_ i).filter (minF l))),.s (.int .i64 i),.no,.no,.no],[],0⟩
def rmI(k:Nat)(l:List Int)(i:Nat)(m:Nat)(S:St):Prop:=∃j:Nat,j+m=l.length/\S=⟨tmL [(17,.list 1 (iv l)),(18,.s (.int .i64 l.length)),(19,.s (.int .i64 j))],[.s (.int .i64 k),.list 1 (iv l),.s (.slice none 0 0),.own true 3 1 (iv ((xU_ i).filter (minF l))),.s (.int .i64 i),.s (.bool ((l.take j).any (minA i))),.s (.bool ((l.take j).all (minL i))),.no],[],0⟩
theorem ki_(k:Nat)(hk:k<=9)(l:List Int)(hl:l.length<=1000):PC Try.prog 81 [.s (.int .i64 k),.list 1 (iv l)] (fun r=>r=.list 1 (iv ((xU_ (2^k)).filter (minF l)))):=by
 refine li_ ?_
 have h512:2^k<=2^9:=yyf_ (by omega) hk
 have es:=shl1 (n:=k) (by omega)
 have k0:¬(k:Int)<0:=by omega
 generalize 2^k=K at *
 refine zn_ c81 zp_ rfl ?_
 simp -implicitDefEqProofs [a81,F81]
 refine zi_ [] [5,6,7] 0 (by decide) (rmO k K l) K ⟨by simp,0,by simp,by simp[xU_]⟩ ?_
 rintro m S ⟨i,hi,rfl⟩
 have hfl:((xU_ i).filter (minF l)).length<=i:=yyd_ (List.length_filter_le _ _) (by simp)
 by_cases hm:i<K
 case neg =>
  have h6:i=K:=by omega
  subst h6
  simp[k0,es]
 have g1:(i:Int)<(K:Int):=by omega
 have hw:=wrap64 (n:=(i:Int)+1) (by omega)
 simp[k0,es,g1]
 refine zi_ [17,18,19] [7] 0 (by decide) (rmI k l i) l.length ⟨by simp,0,by simp,by simp⟩ ?_
 rintro m' S ⟨j,hj,rfl⟩
 by_cases hjl:j<l.length
 .have j1:(j:Int)<l.length:=by omega
  have j0:¬(j:Int)<0:=by omega
  have hwj:=wrap64 (n:=(j:Int)+1) (by omega)
  have t1:=nu_ hjl (minA i)
  have t2:=yr_ hjl (minL i)
  have m1:minA i l[j]=(l[j]==(i:Int)):=rfl
  have m2:minL i l[j]=((l[j]==(i:Int))||!(band l[j] i==l[j])):=rfl
  have fin:∀ {b1 b2:Bool},(l.take (j+1)).any (minA i)=b1->(l.take (j+1)).all (minL i)=b2->∀S',S'=(⟨tmL [(17,.list 1 (iv l)),(18,.s (.int .i64 l.length)),(19,.s (.int .i64 ((j:Int)+1)))],[.s (.int .i64 k),.list 1 (iv l),.s (.slice none 0 0),.own true 3 1 (iv ((xU_ i).filter (minF l))),.s (.int .i64 i),.s (.bool b1),.s (.bool b2),.no],[],0⟩:St)->∃m''<m',rmI k l i m'' S' :=
   fun h1 h2 S' hS=>⟨m'-1,by omega,j+1,by omega,by rw[hS,h1,h2];simp⟩
  cases b1:(l.take j).any (minA i)<;>cases b2:(l.take j).all (minL i)<;>cases b3:(l[j]==(i:Int))<;>rw[b1,m1,b3]at t1<;>rw[b2,m2,b3]at t2
  all_goals first
   |(simp -implicitDefEqProofs [j1,j0,zI_ hjl,b3,hwj];exact fin t1 t2 _ rfl)
   | (simp -implicitDefEqProofs [j1, j0, zI_ hjl, b3]
      refine z1_ ?_
      simp
      refine zc_ (xS_ l[j] i) (by simp) (by simp) ?_
      rintro _ rfl
      simp[hwj]
      exact fin t1 (by rw[t2];simp) _ rfl)
 .have h6:j=l.length:=by omega
  have e1:(l.take j).any (minA i)=l.any (minA i):=by rw[zzx_ (by omega)]
  have e2:(l.take j).all (minL i)=l.all (minL i):=by rw[zzx_ (by omega)]
  have hs:(xU_ (i+1)).filter (minF l)=(xU_ i).filter (minF l)++(if minF l i then [(i:Int)] else []):=by
   rw[pc_,List.filter_append]
   congr 1
   simp[List.filter]
   split<;>simp_all
  have b5:((xU_ i).filter (minF l)).length+1<=maxLen/\(((xU_ i).filter (minF l)).length+1)*8<=z5_:=by simp[maxLen,z5_];omega
  have hF:minF l i=(l.any (minA i)&&l.all (minL i)):=rfl
  rw[e1,e2]
  subst h6
  cases b1:l.any (minA i)<;>cases b2:l.all (minL i)<;>rw[b1,b2]at hF<;>rw[hF]at hs<;>simp -implicitDefEqProofs [hw,b5]<;>exact⟨m-1,by omega,i+1,by omega,by rw[hs];simp[iv]⟩
theorem mj_{L:List Nat}(hL:∀t∈L,t<512){s:Nat}(hs:s<512):minF (zi L) s=(decide (s∈L)&&sj_ s L):=by
 unfold minF
 have h1:(zi L).any (minA s)=decide (s∈L):=by
  rw[yyt_]
  simp only[List.any_eq_true,zi,List.mem_map,minA,beq_iff_eq,zzp_]
  constructor
  .rintro⟨x,⟨a,ha,rfl⟩,h⟩
   have:a=s:=by omega
   exact this ▸ ha
  .exact fun h=>⟨(s:Int),⟨s,h,rfl⟩,rfl⟩
 rw[h1]
 congr 1
 rw[rC_ (q:=fun t=>decide (Sub t s->t=s)) fun t ht=>?_]
 .rw[yyt_,xR_,zzh_]
  simp only[zzp_]
 .unfold minL
  rw[ty_ (hL t ht) hs,yyt_]
  simp only[zzy_,beq_iff_eq,yyh_,beq_eq_false_iff_ne,zzp_]
  unfold Sub
  constructor
  .rintro(h|h) hh
   .omega
   .omega
  .intro h
   by_cases he:t&&&s=t
   .have:=h he;left;omega
   .right;omega
theorem mC_{k:Nat}(hk:k<=9){L:List Nat}(hL:∀t∈L,1<=t/\t<512):(xU_ (2^k)).filter (minF (zi L))=zi (zH_ k L):=by
 have h512:2^k<=2^9:=yyf_ (by omega) hk
 rw[xU_,sx_ (q:=fun s=>decide (s∈L)&&sj_ s L)]
 .unfold zH_ subs
  rw[List.filter_filter]
  congr 1
  refine List.filter_congr fun s hs=>?_
  rw[yyt_]
  simp only[zzg_,zzp_]
  constructor
  .rintro⟨h1,h2⟩
   exact⟨⟨h1,h2⟩,(hL s h1).1⟩
  .exact fun h=>h.1
 .intro s hs
  exact mj_ (fun t ht=>(hL t ht).2) (by have:=List.mem_range.1 hs;omega)
def inR(k:Nat)(s:Int):Bool:=decide (1<=s/\s<((2^k:Nat):Int))
def vZ_(L:List Nat):Bool:=L.all fun s=>oH_ s L
def redE(n:Int)(l:List Int):Int :=
 if 1<=n/\n<=9/\l≠[] then (if l.all (inR n.toNat)=true then (if vZ_ (l.map Int.toNat)=true then (if (zH_ n.toNat (l.map Int.toNat)).length<=64 then 0 else 4) else 13) else 1) else 1
def redQ(n:Int)(l:List Int):List Nat:=zH_ n.toNat (l.map Int.toNat)
theorem jq_{a:Nat}{L:List Nat}:(a:Int)∈zi L↔a∈L:=by
 simp only[zi,List.mem_map]
 constructor
 .rintro⟨b,hb,h⟩
  have:b=a:=by omega
  exact this ▸ hb
 .exact fun h=>⟨a,h,rfl⟩
def rr1(k:Nat)(l:List Int)(m:Nat)(S:St):Prop:=∃i:Nat,i+m=l.length/\(l.take i).all (inR k)=true/\S=⟨tmL [(4,.ptr 0 0),(25,.list 1 (iv l)),(26,.s (.int .i64 l.length)),(27,.s (.int .i64 i))],[.s (.int .i64 k),.list 1 (iv l),.s (.int .i64 0),.no,.no,.no],[[.s (.int .i64 0),.s (.slice none 0 0)]],0⟩
def rr2(k:Nat)(l:List Int)(m:Nat)(S:St):Prop:=∃i:Nat,i+m=l.length/\(l.take i).all (fun s=>l.all (yP_ s))=true/\S=⟨tmL [(4,.ptr 0 0),(41,.list 1 (iv l)),(42,.s (.int .i64 l.length)),(43,.s (.int .i64 i))],[.s (.int .i64 k),.list 1 (iv l),.s (.int .i64 0),.no,.no,.no],[[.s (.int .i64 0),.s (.slice none 0 0)]],0⟩
def rr3(k:Nat)(l:List Int)(i:Nat)(s:Int)(m:Nat)(S:St):Prop:=∃j:Nat,j+m=l.length/\(l.take j).all (yP_ s)=true/\S=⟨tmL [(4,.ptr 0 0),(41,.list 1 (iv l)),(42,.s (.int .i64 l.length)),(43,.s (.int .i64 i)),(47,.list 1 (iv l)),(48,.s (.int .i64 l.length)),(49,.s (.int .i64 j))],[.s (.int .i64 k),.list 1 (iv l),.s (.int .i64 0),.no,.s (.int .i64 s),.no],[[.s (.int .i64 0),.s (.slice none 0 0)]],0⟩
theorem r8_(n:Int)(l:List Int)(hl:l.length<=1000):PC Try.prog 75 [.s (.int .i64 n),.list 1 (iv l)] (fun r=>r=raw (redE n l) n (redQ n l)):=by
 refine zn_ c75 zp_ rfl ?_
 by_cases h1:n<1
 .have e:redE n l=1:=by unfold redE;rw[if_neg fun h=>by omega]
  simp -implicitDefEqProofs [a75,F75,h1,e,raw,eV]
 by_cases h1':9<n
 .have e:redE n l=1:=by unfold redE;rw[if_neg fun h=>by omega]
  simp -implicitDefEqProofs [a75,F75,h1,h1',e,raw,eV]
 by_cases h2:l=[]
 .have e:redE n l=1:=by unfold redE;rw[if_neg fun h=>h.2.2 h2]
  subst h2
  simp -implicitDefEqProofs [a75,F75,h1,h1',e,raw,eV]
 have hn:1<=n/\n<=9:=by omega
 obtain⟨k,rfl⟩:∃k:Nat,n=k:=⟨n.toNat,by omega⟩
 have hk:k<=9:=by omega
 have h512:2^k<=2^9:=yyf_ (by omega) hk
 have e0:redE k l=if l.all (inR k)=true then (if vZ_ (l.map Int.toNat)=true then (if (zH_ k (l.map Int.toNat)).length<=64 then 0 else 4) else 13) else 1:=by
  unfold redE
  rw[if_pos ⟨hn.1,hn.2,h2⟩,yys_]
 have es:=shl1 (n:=k) (by omega)
 have k0:¬(k:Int)<0:=by omega
 obtain⟨K,hK⟩:∃K:Nat,K=2^k:=⟨_,rfl⟩
 rw[<-hK]at es
 have hl0:((l.length:Int)==0)=false:=by
  simp;exact h2
 simp -implicitDefEqProofs [a75,F75,h1,h1',h2,hl0]
 refine zi_ [4,25,26,27] [3,4,5] 1 (by decide) (rr1 k l) l.length ⟨by simp,0,by simp,by simp,by simp⟩ ?_
 rintro m S ⟨i,hi,hx,rfl⟩
 by_cases hm:i<l.length
 .have i1:(i:Int)<l.length:=by omega
  have i0:¬(i:Int)<0:=by omega
  have hw:=wrap64 (n:=(i:Int)+1) (by omega)
  have hR:inR k l[i]=decide (1<=l[i]/\l[i]<(K:Int)):=by unfold inR;rw[<-hK]
  by_cases c1:l[i]<1
  .have hf:inR k l[i]=false:=by rw[hR];exact decide_eq_false (by omega)
   have e:redE k l=1:=by rw[e0,xr_ hm _ hf];rfl
   simp[i1,i0,zI_ hm,c1,e,raw,eV]
  by_cases c2:(K:Int)<=l[i]
  .have hf:inR k l[i]=false:=by rw[hR];exact decide_eq_false (by omega)
   have e:redE k l=1:=by rw[e0,xr_ hm _ hf];rfl
   simp[i1,i0,zI_ hm,c1,k0,es,c2,e,raw,eV]
  have ht:inR k l[i]=true:=by rw[hR];exact decide_eq_true (by omega)
  simp[i1,i0,zI_ hm,c1,k0,es,c2,hw]
  refine⟨m-1,by omega,i+1,by omega,by rw[yr_ hm,hx,ht];rfl,by simp⟩
 have h6:i=l.length:=by omega
 rw[zzx_ (by omega)]at hx
 subst h6
 obtain⟨L,hL⟩:∃L,L=l.map Int.toNat:=⟨_,rfl⟩
 have hlL:l=zi L:=by
  rw[hL]
  unfold zi
  rw[List.map_map]
  exact(List.map_id l).symm.trans (List.map_congr_left fun s hs=>by
   have:=zzh_.1 hx s hs
   unfold inR at this
   have:=of_decide_eq_true this
   simp;omega)
 have hLr:∀t∈L,1<=t/\t<2^k:=fun t ht=>by
  have h3:=zzh_.1 hx (t:Int) (by rw[hlL];exact jq_.2 ht)
  unfold inR at h3
  have:=of_decide_eq_true h3
  omega
 have hL5:∀t∈L,t<512:=fun t ht=>by have:=hLr t ht;omega
 rw[hx,if_pos rfl,<-hL]at e0
 have hq:redQ k l=zH_ k L:=by unfold redQ;rw[<-hL,yys_]
 have hMA:vZ_ L=l.all (fun s=>l.all (yP_ s)):=by
  rw[hlL]
  unfold vZ_
  rw[rC_ fun s hs=>qd_ (hL5 s hs) hL5]
 have hmin:=ki_ k hk l hl
 have hfm:=mC_ hk (L:=L) fun t ht=>by have:=hLr t ht;omega
 rw[<-hlL]at hfm
 rw[hfm]at hmin
 simp
 refine zi_ [4,41,42,43] [3,4,5] 1 (by decide) (rr2 k l) l.length ⟨by simp,0,by simp,by simp,by simp⟩ ?_
 rintro m S ⟨i,hi,hy,rfl⟩
 by_cases hm:i<l.length
 .have i1:(i:Int)<l.length:=by omega
  have i0:¬(i:Int)<0:=by omega
  have hw:=wrap64 (n:=(i:Int)+1) (by omega)
  simp[i1,i0,zI_ hm]
  refine zi_ [4,41,42,43,47,48,49] [5] 1 (by decide) (rr3 k l i l[i]) l.length ⟨by simp,0,by simp,by simp,by simp⟩ ?_
  rintro m' S ⟨j,hj,hz,rfl⟩
  by_cases hjm:j<l.length
  .have j1:(j:Int)<l.length:=by omega
   have j0:¬(j:Int)<0:=by omega
   have hwj:=wrap64 (n:=(j:Int)+1) (by omega)
   have hP:yP_ l[i] l[j]=!(bits .and .i64 l[i] l[j]==0):=rfl
   cases hb:(bits .and .i64 l[i] l[j]==0)
   .rw[hb]at hP
    simp[j1,j0,zI_ hjm,↓z4_,hb,hwj]
    refine⟨m'-1,by omega,j+1,by omega,by rw[yr_ hjm,hz,hP];rfl,by simp⟩
   .rw[hb]at hP
    have hf:l.all (yP_ l[i])=false:=xr_ hjm _ hP
    have e:redE k l=13:=by rw[e0,hMA,xr_ hm _ hf];rfl
    simp[j1,j0,zI_ hjm,↓z4_,hb,e,raw,eV]
  .have h6:j=l.length:=by omega
   rw[zzx_ (by omega)]at hz
   subst h6
   simp[hw]
   refine⟨m-1,by omega,i+1,by omega,by rw[yr_ hm,hy,hz];rfl,by simp⟩
 have h6:i=l.length:=by omega
 rw[zzx_ (by omega)]at hy
 rw[hMA,hy,if_pos rfl]at e0
 simp[h6]
 refine z1_ ?_
 simp
 refine zc_ hmin (by simp) (by simp) ?_
 rintro _ rfl
 by_cases h7:(zH_ k L).length<=64
 .have g1:¬(64:Int)<((zH_ k L).length:Int):=by omega
  rw[if_pos h7]at e0
  simp[g1,e0,raw,rV,cV,hq]
 .have g1:(64:Int)<((zH_ k L).length:Int):=by omega
  rw[if_neg h7]at e0
  simp[g1,e0,raw,eV]
theorem uz_(n:Int)(l:List Int)(hl:l.length<=1000):PC Try.prog 75 [.s (.int .i64 n),.list 1 (iv l)] (fun r=>r=res (redE n l) n (redQ n l)):=lh_ (r8_ n l hl)
def rn(e n:Int):Int:=if e=0 then n else 0
def rq(e:Int)(q:List Nat):List Nat:=if e=0 then q else []
theorem q0_(e n:Int)(q:List Nat):res e n q=.tup [cV (rn e n) (rq e q),.s (.int .i64 e)]:=by
 unfold res rn rq
 split
 .next h=>rw[h];rfl
 .rfl
theorem le_(e n:Int)(q:List Nat):frT (res e n q) (res e n q):=by
 rw[q0_]
 simp[cV,frT,frAs,frA,frLs,frL,immC]
theorem lz_(e n:Int)(q:List Nat)(h:e≠0):frT (eV e) (res e n q):=by
 unfold res
 rw[if_neg h]
 simp[rV,cV,eV,frT,frAs,frA,frLs,frL,immC]
def cr1(c i k:Nat):Nat:=(List.range k).foldl (fun s k=>s|||2^(i*c+k)) 0
def cr2(c i j k:Nat):Nat:=(List.range k).foldl (fun s k=>s|||2^(k*c+j)) (cr1 c i c)
theorem qv_(c i k:Nat):cr1 c i (k+1)=cr1 c i k|||2^(i*c+k):=by simp[cr1,yyv_]
theorem qu_(c i j k:Nat):cr2 c i j (k+1)=cr2 c i j k|||2^(k*c+j):=by simp[cr2,yyv_]
theorem lD_{c i k:Nat}(h:i*c+k<=9):cr1 c i k<512:=by
 induction k with
 |zero=>simp[cr1]
 | succ k ih =>
   rw[qv_]
   have h2:2^(i*c+k)<2^9:=Nat.pow_lt_pow_right (by omega) (by omega)
   exact Nat.or_lt_two_pow (n:=9) (ih (by omega)) h2
theorem iG_{r c i j k:Nat}(h:r*c<=9)(hi:i<r)(hj:j<c)(hk:k<=r):cr2 c i j k<512:=by
 induction k with
 | zero =>
   have:i*c+c<=r*c:=by have:=yyg_ c (show i+1<=r by omega);rw[yyn_]at this;omega
   exact lD_ (by omega)
 | succ k ih =>
   rw[qu_]
   have:k*c+c<=r*c:=by have:=yyg_ c (show k+1<=r by omega);rw[yyn_]at this;omega
   have h2:2^(k*c+j)<2^9:=Nat.pow_lt_pow_right (by omega) (by omega)
   exact Nat.or_lt_two_pow (n:=9) (ih (by omega)) h2
theorem mK_(r c i j:Nat):ph_ r c i j=cr2 c i j r:=rfl
def gl(r c i j:Nat):List Nat:=((List.range i).flatMap fun i'=>(List.range c).map (ph_ r c i'))++(List.range j).map (ph_ r c i)
theorem kT_(r c i j:Nat):gl r c i (j+1)=gl r c i j++[ph_ r c i j]:=by simp[gl,yyv_]
theorem it_(r c i:Nat):gl r c i c=gl r c (i+1) 0:=by simp[gl,yyv_]
theorem lw_(r c:Nat):gl r c r 0=grid r c:=by simp[gl,grid]
theorem lv_(r c i j:Nat):(gl r c i j).length=i*c+j:=by
 have h:((List.range i).flatMap fun i'=>(List.range c).map (ph_ r c i')).length=i*c:=by
  induction i with
  |zero=>simp
  |succ i ih=>rw[yyv_,List.flatMap_append,zzr_,ih,yyn_];simp
 unfold gl
 rw[zzr_,h]
 simp
theorem pm_(l:List Nat)(a:Nat):zi (l++[a])=zi l++[(a:Int)]:=by simp[zi]
def grE(a b:Int):Int:=if (1<=a/\a<=9)/\(1<=b/\b<=9)/\a*b<=9 then redE (a*b) (zi (grid a.toNat b.toNat)) else 1
def grQ(a b:Int):List Nat:=redQ (a*b) (zi (grid a.toNat b.toNat))
theorem jE_{a b x e:Nat}(hab:a*b+x=e)(he:e<=8):IntKind.i64.wrap ((a:Int)*(b:Int))=((a*b:Nat):Int)/\IntKind.i64.wrap (((a*b:Nat):Int)+(x:Int))=(e:Int):=by
 refine⟨?_,?_⟩
 .rw[<-Int.natCast_mul]
  generalize a*b=p at hab
  exact wrap64 (by omega)
 .rw[<-hab]
  generalize a*b=p at hab
  rw[wrap64 (by omega)]
  omega
theorem orN{x e:Nat}(hx:x<512)(he:e<=8):bits .or .i64 (x:Int) ((2^e:Nat):Int)=((x|||2^e:Nat):Int):=by
 have h2:2^e<=2^8:=yyf_ (by omega) he
 exact y0_ x (2^e) (by omega) (by omega)
def hr1(r c:Nat)(m:Nat)(S:St):Prop:=∃i:Nat,i+m=r/\S=⟨tmL [(4,.ptr 0 0)],[.s (.int .i64 r),.s (.int .i64 c),.s (.int .i64 0),.own true 3 1 (iv (zi (gl r c i 0))),.s (.int .i64 i),.no,.no,.no,.no],[[.s (.int .i64 0),.s (.slice none 0 0)]],0⟩
def hr2(r c i:Nat)(m:Nat)(S:St):Prop:=∃j:Nat,j+m=c/\S=⟨tmL [(4,.ptr 0 0)],[.s (.int .i64 r),.s (.int .i64 c),.s (.int .i64 0),.own true 3 1 (iv (zi (gl r c i j))),.s (.int .i64 i),.s (.int .i64 j),.no,.no,.no],[[.s (.int .i64 0),.s (.slice none 0 0)]],0⟩
def hr3(r c i j:Nat)(m:Nat)(S:St):Prop:=∃k:Nat,k+m=c/\S=⟨tmL [(4,.ptr 0 0)],[.s (.int .i64 r),.s (.int .i64 c),.s (.int .i64 0),.own true 3 1 (iv (zi (gl r c i j))),.s (.int .i64 i),.s (.int .i64 j),.s (.int .i64 (cr1 c i k)),.s (.int .i64 k),.no],[[.s (.int .i64 0),.s (.slice none 0 0)]],0⟩
def hr4(r c i j:Nat)(m:Nat)(S:St):Prop:=∃k:Nat,k+m=r/\S=⟨tmL [(4,.ptr 0 0)],[.s (.int .i64 r),.s (.int .i64 c),.s (.int .i64 0),.own true 3 1 (iv (zi (gl r c i j))),.s (.int .i64 i),.s (.int .i64 j),.s (.int .i64 (cr2 c i j k)),.no,.s (.int .i64 k)],[[.s (.int .i64 0),.s (.slice none 0 0)]],0⟩
theorem oc_(a b:Int):PC Try.prog 58 [.s (.int .i64 a),.s (.int .i64 b)] (fun r=>r=if (1<=a/\a<=9)/\(1<=b/\b<=9)/\a*b<=9 then res (redE (a*b) (zi (grid a.toNat b.toNat))) (a*b) (grQ a b) else eV 1):=by
 refine zn_ c58 zp_ rfl ?_
 by_cases h1:1<=a/\a<=9
 case neg =>
  have hn:¬((1<=a/\a<=9)/\(1<=b/\b<=9)/\a*b<=9):=fun h=>h1 h.1
  rw[if_neg hn]
  by_cases c1:a<1
  .simp -implicitDefEqProofs [a58,F58,c1,eV]
  by_cases c2:b<1
  .simp -implicitDefEqProofs [a58,F58,c1,c2,eV]
  have c3:9<a:=by omega
  simp -implicitDefEqProofs [a58,F58,c1,c2,c3,eV]
 have c1:¬a<1:=by omega
 have c3:¬9<a:=by omega
 by_cases h2:1<=b/\b<=9
 case neg =>
  have hn:¬((1<=a/\a<=9)/\(1<=b/\b<=9)/\a*b<=9):=fun h=>h2 h.2.1
  rw[if_neg hn]
  by_cases c2:b<1
  .simp -implicitDefEqProofs [a58,F58,c1,c2,eV]
  have c4:9<b:=by omega
  simp -implicitDefEqProofs [a58,F58,c1,c2,c3,c4,eV]
 have c2:¬b<1:=by omega
 have c4:¬9<b:=by omega
 have hab1:a*b<=9*9:=Int.mul_le_mul h1.2 h2.2 (by omega) (by omega)
 have hab0:1*1<=a*b:=Int.mul_le_mul h1.1 h2.1 (by omega) (by omega)
 have wab:=wrap64 (n:=a*b) (by omega)
 by_cases h3:a*b<=9
 case neg =>
  have hn:¬((1<=a/\a<=9)/\(1<=b/\b<=9)/\a*b<=9):=fun h=>h3 h.2.2
  have c5:9<a*b:=by omega
  rw[if_neg hn]
  simp -implicitDefEqProofs [a58,F58,c1,c2,c3,c4,wab,c5,eV]
 have c5:¬9<a*b:=by omega
 rw[if_pos ⟨h1,h2,h3⟩]
 obtain⟨r,rfl⟩:∃r:Nat,a=r:=⟨a.toNat,by omega⟩
 obtain⟨c,rfl⟩:∃c:Nat,b=c:=⟨b.toNat,by omega⟩
 have hrc : r * c ≤ 9 := by have : ((r * c : Nat) : Int) ≤ 9 := by rw [Int.natCast_mul]; exact h3
                            omega
 have hwm:IntKind.i64.wrap ((r:Int)*(c:Int))=((r*c:Nat):Int):=by
  rw[<-Int.natCast_mul]
  generalize r*c=p at hrc
  exact wrap64 (by omega)
 have hgl:(zi (grid r c)).length<=1000:=by rw[zi_length,<-lw_,lv_];omega
 have hR:=uz_ ((r:Int)*(c:Int)) (zi (grid r c)) hgl
 rw[q0_]at hR
 rw[q0_]
 simp only[grQ,yys_]
 generalize hE:redE ((r:Int)*(c:Int)) (zi (grid r c))=E at hR ⊢
 generalize hQ:redQ ((r:Int)*(c:Int)) (zi (grid r c))=Q at hR ⊢
 simp -implicitDefEqProofs [a58,F58,c1,c2,c3,c4,wab,c5]
 refine zi_ [4] [5,6,7,8] 1 (by decide) (hr1 r c) r ⟨by simp,0,by simp,by simp[gl]⟩ ?_
 rintro m S ⟨i,hi,rfl⟩
 by_cases hm:i<r
 case neg =>
  have h6:i=r:=by omega
  subst h6
  rw[lw_]
  have hmz:IntKind.i64.wrap ((i:Int)*(c:Int))=(i:Int)*(c:Int):=by rw[hwm,Int.natCast_mul]
  simp -implicitDefEqProofs [hmz]
  refine z1_ ?_
  simp -implicitDefEqProofs
  refine zc_ hR (by simp) (by simp) ?_
  rintro _ rfl
  simp -implicitDefEqProofs [cV]
 have i1:(i:Int)<(r:Int):=by omega
 have wi:=wrap64 (n:=(i:Int)+1) (by omega)
 have hic:i*c+c<=r*c:=by have:=yyg_ c (show i+1<=r by omega);rw[yyn_]at this;omega
 simp -implicitDefEqProofs [i1]
 refine zi_ [4] [6,7,8] 1 (by decide) (hr2 r c i) c ⟨by simp,0,by simp,by simp⟩ ?_
 rintro m2 S ⟨j,hj,rfl⟩
 by_cases hjm:j<c
 case neg =>
  have h6:j=c:=by omega
  subst h6
  rw[it_]
  simp -implicitDefEqProofs [wi]
  exact⟨m-1,by omega,i+1,by omega,by simp⟩
 have j1:(j:Int)<(c:Int):=by omega
 have wj:=wrap64 (n:=(j:Int)+1) (by omega)
 simp -implicitDefEqProofs [j1]
 refine zi_ [4] [8] 1 (by decide) (hr3 r c i j) c ⟨by simp,0,by simp,by simp[cr1]⟩ ?_
 rintro m3 S ⟨k,hk,rfl⟩
 by_cases hkm:k<c
 .have k1:(k:Int)<(c:Int):=by omega
  have wk:=wrap64 (n:=(k:Int)+1) (by omega)
  obtain⟨e,he⟩:∃e,i*c+k=e:=⟨_,rfl⟩
  obtain⟨s1,s2⟩:=jE_ he (by omega)
  have es:=shl1 (n:=e) (by omega)
  have e0:¬(e:Int)<0:=by omega
  have ho:=orN (x:=cr1 c i k) (e:=e) (lD_ (by omega)) (by omega)
  have hs:=qv_ c i k
  rw[he]at hs
  rw[<-hs]at ho
  generalize i*c=p at s1 s2
  generalize 2^e=E2 at es ho
  simp -implicitDefEqProofs [k1,s1,s2,e0,es,↓zb_,ho,wk]
  exact⟨m3-1,by omega,k+1,by omega,by simp⟩
 have h6:k=c:=by omega
 subst h6
 simp -implicitDefEqProofs
 refine zi_ [4] [7] 1 (by decide) (hr4 r k i j) r ⟨by simp,0,by simp,by simp[cr2]⟩ ?_
 rintro m4 S ⟨q,hq,rfl⟩
 by_cases hqm:q<r
 .have q1:(q:Int)<(r:Int):=by omega
  have wq:=wrap64 (n:=(q:Int)+1) (by omega)
  have hqc:q*k+k<=r*k:=by have:=yyg_ k (show q+1<=r by omega);rw[yyn_]at this;omega
  obtain⟨e,he⟩:∃e,q*k+j=e:=⟨_,rfl⟩
  obtain⟨s1,s2⟩:=jE_ he (by omega)
  have es:=shl1 (n:=e) (by omega)
  have e0:¬(e:Int)<0:=by omega
  have ho:=orN (x:=cr2 k i j q) (e:=e) (iG_ hrc hm hjm (by omega)) (by omega)
  have hs:=qu_ k i j q
  rw[he]at hs
  rw[<-hs]at ho
  generalize q*k=p at s1 s2
  generalize 2^e=E2 at es ho
  simp -implicitDefEqProofs [q1,s1,s2,e0,es,↓zb_,ho,wq]
  exact⟨m4-1,by omega,q+1,by omega,by simp⟩
 have h6:q=r:=by omega
 subst h6
 have hl9:=lv_ q k i j
 have b1:(gl q k i j).length+1<=maxLen/\((gl q k i j).length+1)*8<=z5_:=by rw[hl9];simp[maxLen,z5_];omega
 simp -implicitDefEqProofs [b1,wj]
 exact⟨m2-1,by omega,j+1,by omega,by rw[kT_,mK_,pm_];simp[iv]⟩
theorem q3_(a b:Int):PC Try.prog 58 [.s (.int .i64 a),.s (.int .i64 b)] (fun r=>r=res (grE a b) (a*b) (grQ a b)):=by
 refine y9_ (oc_ a b) fun x hx _=>⟨res (grE a b) (a*b) (grQ a b),?_,o1_ _ _ _,rfl⟩
 subst hx
 unfold grE
 split
 .exact le_ _ _ _
 .exact lz_ _ _ _ (by omega)
theorem lk_{x y:Nat}(hx:x<512)(hy:y<512):bits .or .i64 (x:Int) (y:Int)=((x|||y:Nat):Int):=y0_ x y (by omega) (by omega)
theorem ky_{x y:Nat}(hx:x<512)(hy:y<512):x|||y<512:=Nat.or_lt_two_pow (n:=9) hx hy
theorem pn_{l:List Nat}{i:Nat}(h:i<l.length):(iv (zi l))[i]?=some (.s (.int .i64 (l[i]:Int))):=by
 rw[zI_ (by rw[zi_length];exact h)]
 simp[zi]
theorem rB_{l:List Nat}{i:Nat}(h:i<l.length)(f:Nat->Nat):(l.take (i+1)).map f=(l.take i).map f++[f l[i]]:=by
 rw[yyw_,zzf_ h,List.map_append];rfl
def bl:Nat->Nat
 |0=>1
 |f+1=>bl f*(bl f+1)+bl f
theorem lG_:∀f,1<=bl f
 |0=>zzl_ _
 |f+1=>by have:=lG_ f;simp only[bl];omega
theorem oQ_(A B:List Nat):iv (zi A)++iv (zi B)=iv (zi (A++B)):=by simp[iv,zi]
def uPre(A B:List Nat)(k:Nat):List Nat:=(A.take k).flatMap fun s=>B.map fun t=>s|||t
theorem tH_{A B:List Nat}{k:Nat}(h:k<A.length):uPre A B (k+1)=uPre A B k++B.map fun t=>A[k]|||t:=by
 unfold uPre
 rw[yyw_,zzf_ h,List.flatMap_append]
 simp
theorem uX_{A B:List Nat}:∀k,k<=A.length->(uPre A B k).length=k*B.length
 |0,_=>by simp[uPre]
 |k+1,h=>by rw[tH_ h,zzr_,uX_ k (by omega)];simp[yyn_]
theorem s3_{f i n:Nat}(h:¬2*i+2>=n):zT_ (f+1) i n=(zT_ f (2*i+1) n++zT_ f (2*i+2) n).map (fun s=>s|||2^i)++uPre (zT_ f (2*i+1) n) (zT_ f (2*i+2) n) (zT_ f (2*i+1) n).length:=by
 conv=>lhs;unfold zT_
 rw[if_neg h]
 unfold uPre
 rw[List.take_length]
theorem wx_:∀(f i n:Nat),n<=7->i<n->∀s∈zT_ f i n,s<512
 |0,_,_,_,_,s,h=>by simp[zT_]at h
 | f + 1, i, n, hn, hi, s, h => by
   have hp:2^i<512:=by have:2^i<2^9:=Nat.pow_lt_pow_right (by omega) (by omega);omega
   unfold zT_ at h
   split at h
   .simp at h;omega
   .next hc =>
    have ha:=wx_ f (2*i+1) n hn (by omega)
    have hb:=wx_ f (2*i+2) n hn (by omega)
    simp only[zzw_,List.mem_flatMap,List.mem_map]at h
    rcases h with ⟨a,h1|h1,rfl⟩|⟨a,h1,b,h2,rfl⟩
    .exact ky_ (ha a h1) hp
    .exact ky_ (hb a h1) hp
    .exact ky_ (ha a h1) (hb b h2)
theorem wy_:∀(f i n:Nat),(zT_ f i n).length<=bl f
 |0,_,_=>by simp[zT_]
 | f + 1, i, n => by
   by_cases h:2*i+2>=n
   .unfold zT_
    rw[if_pos h]
    have:=lG_ (f+1)
    simpa using this
   .rw[s3_ h,zzr_,uX_ _ (zzl_ _),List.length_map,zzr_]
    have h1:=wy_ f (2*i+1) n
    have h2:=wy_ f (2*i+2) n
    have h3:=Nat.mul_le_mul h1 h2
    simp only[bl,Nat.mul_add,Nat.mul_one]
    omega
def ra1(i n p:Nat)(A B:List Nat)(m:Nat)(S:St):Prop:=∃k:Nat,k+m=(A++B).length/\S=⟨tmL [(35,.list 1 (iv (zi (A++B)))),(36,.s (.int .i64 (A++B).length)),(37,.s (.int .i64 k))],[.s (.int .i64 i),.s (.int .i64 n),.s (.slice none 0 0),.list 1 (iv (zi A)),.list 1 (iv (zi B)),.own true 3 1 (iv (zi (((A++B).take k).map fun s=>s|||p))),.no,.no,.no],[],0⟩
def ra2(i n p:Nat)(A B:List Nat)(m:Nat)(S:St):Prop:=∃k:Nat,k+m=A.length/\S=⟨tmL [(49,.list 1 (iv (zi A))),(50,.s (.int .i64 A.length)),(51,.s (.int .i64 k))],[.s (.int .i64 i),.s (.int .i64 n),.s (.slice none 0 0),.list 1 (iv (zi A)),.list 1 (iv (zi B)),.own true 3 1 (iv (zi (((A++B).map fun s=>s|||p)++uPre A B k))),.no,.no,.no],[],0⟩
def ra3(i n p:Nat)(A B:List Nat)(k s:Nat)(m:Nat)(S:St):Prop:=∃j:Nat,j+m=B.length/\S=⟨tmL [(49,.list 1 (iv (zi A))),(50,.s (.int .i64 A.length)),(51,.s (.int .i64 k)),(55,.list 1 (iv (zi B))),(56,.s (.int .i64 B.length)),(57,.s (.int .i64 j))],[.s (.int .i64 i),.s (.int .i64 n),.s (.slice none 0 0),.list 1 (iv (zi A)),.list 1 (iv (zi B)),.own true 3 1 (iv (zi (((A++B).map fun s=>s|||p)++uPre A B k++(B.take j).map fun t=>s|||t))),.no,.s (.int .i64 s),.no],[],0⟩
theorem lS_:∀(f i n:Nat),i<n->n<=7->n%2=1->n<(i+1)*2^f->f<=3->PC Try.prog 76 [.s (.int .i64 i),.s (.int .i64 n)] (fun r=>r=.list 1 (iv (zi (zT_ f i n)))):=by
 intro f
 induction f with
 |zero=>intro i n h1 _ _ h3;simp at h3;omega
 | succ f ih =>
   intro i n hi hn hodd hfn hf3
   refine li_ ?_
   refine zn_ c76 zp_ rfl ?_
   have es:=shl1 (n:=i) (by omega)
   have i0:¬(i:Int)<0:=by omega
   have w1:IntKind.i64.wrap (2*(i:Int))=2*(i:Int):=wrap64 (by omega)
   have w2:IntKind.i64.wrap (2*(i:Int)+1)=((2*i+1:Nat):Int):=by rw[wrap64 (by omega)];omega
   have w3:IntKind.i64.wrap (2*(i:Int)+2)=((2*i+2:Nat):Int):=by rw[wrap64 (by omega)];omega
   have hp:2^i<512:=by have:2^i<2^9:=Nat.pow_lt_pow_right (by omega) (by omega);omega
   by_cases hc:2*i+2>=n
   .have g:(n:Int)<=((2*i+2:Nat):Int):=by omega
    have e:zT_ (f+1) i n=[2^i]:=by unfold zT_;rw[if_pos hc]
    rw[e]
    generalize 2^i=p at es
    generalize ((2*i+2:Nat):Int)=x at w3 g
    simp -implicitDefEqProofs [a76,F76,w1,w3,g,i0,es,zi,iv]
   have hg:¬(n:Int)<=((2*i+2:Nat):Int):=by omega
   have hpow:2^(f+1)=2*2^f:=by rw[Nat.pow_succ,Nat.mul_comm]
   have q1:(i+1)*(2*2^f)=(2*i+2)*2^f:=by rw[<-Nat.mul_assoc];congr 1;omega
   have q2:(2*i+2)*2^f<=(2*i+2+1)*2^f:=yyg_ _ (by omega)
   have hA:=ih (2*i+1) n (by omega) hn hodd (by rw[hpow,q1]at hfn;exact hfn) (by omega)
   have hB:=ih (2*i+2) n (by omega) hn hodd (by rw[hpow,q1]at hfn;exact zzk_ hfn q2) (by omega)
   have hAl:=wx_ f (2*i+1) n hn (by omega)
   have hBl:=wx_ f (2*i+2) n hn (by omega)
   have hbf:bl f<=271:=by
    have:f=0\/f=1\/f=2:=by omega
    rcases this with rfl|rfl|rfl<;>decide
   have hA5:=yyd_ (wy_ f (2*i+1) n) hbf
   have hB5:=yyd_ (wy_ f (2*i+2) n) hbf
   rw[s3_ hc]
   generalize zT_ f (2*i+1) n=A at *
   generalize zT_ f (2*i+2) n=B at *
   obtain⟨p,hpe⟩:∃p,p=2^i:=⟨_,rfl⟩
   rw[<-hpe]at es hp ⊢
   have or1:∀ {s:Nat},s<512->bits .or .i64 (s:Int) (p:Int)=((s|||p:Nat):Int):=fun h=>lk_ h hp
   obtain⟨x1,hx1⟩:∃x:Int,x=((2*i+1:Nat):Int):=⟨_,rfl⟩
   obtain⟨x2,hx2⟩:∃x:Int,x=((2*i+2:Nat):Int):=⟨_,rfl⟩
   rw[<-hx1]at w2 hA
   rw[<-hx2]at w3 hg hB
   have bA:A.length<=maxLen/\A.length*8<=z5_:=by simp[maxLen,z5_];omega
   have bAB:A.length+B.length<=maxLen/\(A.length+B.length)*8<=z5_:=by simp[maxLen,z5_];omega
   simp -implicitDefEqProofs [a76,F76,w1,w2,w3,hg]
   refine z1_ ?_
   simp
   refine zc_ hA (by simp) (by simp) ?_
   rintro _ rfl
   simp[w1,w3]
   refine z1_ ?_
   simp
   refine zc_ hB (by simp) (by simp) ?_
   rintro _ rfl
   simp[bA,bAB,oQ_]
   have hab:(A++B).length=A.length+B.length:=zzr_
   refine zi_ [35,36,37] [6,7,8] 0 (by decide) (ra1 i n p A B) (A++B).length ⟨by simp,0,by simp,by simp⟩ ?_
   rintro m S ⟨k,hk,rfl⟩
   by_cases hkm:k<(A++B).length
   .have k1:(k:Int)<((A++B).length:Int):=by omega
    have k0:¬(k:Int)<0:=by omega
    have wk:=wrap64 (n:=(k:Int)+1) (by omega)
    have hs5:(A++B)[k]<512:=by
     rcases zzw_.1 (yyp_ hkm) with h|h
     .exact hAl _ h
     .exact hBl _ h
    have hz:=pn_ hkm
    have ht:=rB_ hkm (fun s=>s|||p)
    generalize (A++B)[k]=s at hs5 hz ht
    generalize hL:A++B=L at *
    have o1:=or1 hs5
    have b1:min k L.length+1<=maxLen/\(min k L.length+1)*8<=z5_:=by simp[maxLen,z5_];omega
    simp[k1,k0,hz,i0,es,↓zb_,o1,b1,wk]
    refine⟨m-1,by omega,k+1,by rw[hL];omega,?_⟩
    rw[hL,ht,pm_]
    simp[iv]
   have h6:k=(A++B).length:=by omega
   have htl:(A++B).take k=A++B:=zzx_ (by omega)
   rw[htl]
   have hkk:¬((k:Int)<(A.length:Int)+(B.length:Int)):=by omega
   have hMl:((A++B).map fun s=>s|||p).length=A.length+B.length:=by rw[List.length_map,hab]
   have d2:ra2 i n p A B=fun m S=>∃k:Nat,k+m=A.length/\S=⟨tmL [(49,.list 1 (iv (zi A))),(50,.s (.int .i64 A.length)),(51,.s (.int .i64 k))],[.s (.int .i64 i),.s (.int .i64 n),.s (.slice none 0 0),.list 1 (iv (zi A)),.list 1 (iv (zi B)),.own true 3 1 (iv (zi (((A++B).map fun s=>s|||p)++uPre A B k))),.no,.no,.no],[],0⟩:=rfl
   have d3:∀k s,ra3 i n p A B k s=fun m S=>∃j:Nat,j+m=B.length/\S=⟨tmL [(49,.list 1 (iv (zi A))),(50,.s (.int .i64 A.length)),(51,.s (.int .i64 k)),(55,.list 1 (iv (zi B))),(56,.s (.int .i64 B.length)),(57,.s (.int .i64 j))],[.s (.int .i64 i),.s (.int .i64 n),.s (.slice none 0 0),.list 1 (iv (zi A)),.list 1 (iv (zi B)),.own true 3 1 (iv (zi (((A++B).map fun s=>s|||p)++uPre A B k++(B.take j).map fun t=>s|||t))),.no,.s (.int .i64 s),.no],[],0⟩:=fun _ _=>rfl
   generalize hMe:((A++B).map fun s=>s|||p)=M at hMl d2 d3 ⊢
   simp[hkk]
   refine zi_ [49,50,51] [6,7,8] 0 (by decide) (ra2 i n p A B) A.length ⟨by simp,by rw[d2];exact⟨0,by simp,by simp[uPre]⟩⟩ ?_
   clear hk hkk h6 htl
   rintro m S hS
   rw[d2]at hS
   obtain⟨k,hk,rfl⟩:=hS
   have hpl:∀k,k<=A.length->(uPre A B k).length=k*B.length:=uX_
   by_cases hkm:k<A.length
   case neg =>
    have h6:k=A.length:=by omega
    subst h6
    simp
    rw[<-hMe]
    simp
   have k1:(k:Int)<(A.length:Int):=by omega
   have k0:¬(k:Int)<0:=by omega
   have wk:=wrap64 (n:=(k:Int)+1) (by omega)
   have hs5:A[k]<512:=hAl _ (yyp_ hkm)
   have hpk:=hpl k (by omega)
   have hkb:k*B.length<=271*271:=Nat.mul_le_mul (by omega) (by omega)
   simp[k1,k0,pn_ hkm]
   refine zi_ [49,50,51,55,56,57] [8] 0 (by decide) (ra3 i n p A B k A[k]) B.length ⟨by simp,by rw[d3];exact⟨0,by simp,by simp⟩⟩ ?_
   rintro m2 S hS
   rw[d3]at hS
   obtain⟨j,hj,rfl⟩:=hS
   by_cases hjm:j<B.length
   .have j1:(j:Int)<(B.length:Int):=by omega
    have j0:¬(j:Int)<0:=by omega
    have wj:=wrap64 (n:=(j:Int)+1) (by omega)
    have o2:=lk_ hs5 (hBl _ (yyp_ hjm))
    have b2:M.length+((uPre A B k).length+min j B.length)+1<=maxLen/\(M.length+((uPre A B k).length+min j B.length)+1)*8<=z5_:=by
     rw[hpk,hMl]
     simp[maxLen,z5_]
     omega
    simp[j1,j0,pn_ hjm,↓zb_,o2,wj,b2]
    refine⟨m2-1,by omega,?_⟩
    rw[d3]
    refine⟨j+1,by omega,?_⟩
    rw[rB_ hjm]
    simp[iv,zi,List.map_take]
   .have h6:j=B.length:=by omega
    subst h6
    simp[wk]
    refine⟨m-1,by omega,?_⟩
    rw[d2]
    refine⟨k+1,by omega,?_⟩
    rw[tH_ hkm]
    simp
theorem r3_{n:Nat}{l m:List Nat}(h:∀x,x∈l↔x∈m):zH_ n l=zH_ n m:=s2_ h
theorem rA_(L:List Nat):(zi L).map Int.toNat=L:=by simp[zi,List.map_map,Function.comp_def]
theorem r4_(k:Nat)(L:List Nat):redQ k (zi L)=zH_ k L:=by unfold redQ;rw[rA_,yys_]
theorem r6_{k:Nat}(hk:1<=k/\k<=9){L:List Nat}(hp:xP_ k L=true)(hl:L.length<=64):redE k (zi L)=0:=by
 obtain⟨h1,h2,h3⟩:=vN_ hp
 unfold redE
 rw[if_pos ⟨by omega,by omega,fun e=>h3 (by
  have:=congrArg List.length e
  simp at this
  exact this)⟩,rA_,yys_]
 rw[if_pos,if_pos,if_pos (yyd_ uy_ hl)]
 .unfold vZ_
  rw[zzh_]
  exact fun s hs=>vY_.2 fun t ht=>h2 s hs t ht
 .rw[zzh_]
  intro s hs
  simp only[zi,List.mem_map]at hs
  obtain⟨a,ha,rfl⟩:=hs
  have:=h1 a ha
  unfold inR
  exact decide_eq_true (by omega)
def trN(n:Int):Nat:=2^n.toNat-1
def trL(n:Int):List Nat:=below 3 0 (trN n)
def trE(n:Int):Int:=if 1<=n/\n<=3 then 0 else 1
def trQ(n:Int):List Nat:=zH_ (trN n) (trL n)
theorem jC_{n:Int}(h:1<=n/\n<=3):∃k:Nat,n=k/\(k=1\/k=2\/k=3):=⟨n.toNat,by omega,by omega⟩
theorem nJ_{k:Nat}(h:k=1\/k=2\/k=3):0<2^k-1/\2^k-1<=7/\(2^k-1)%2=1/\2^k-1<(0+1)*2^3:=by rcases h with rfl|rfl|rfl<;>decide
theorem m1_(n:Int):PC Try.prog 59 [.s (.int .i64 n)] (fun r=>r=res (trE n) (trN n) (trQ n)):=by
 refine y9_ (q:=fun r=>r=if 1<=n/\n<=3 then res 0 (trN n) (trQ n) else eV 1) ?_ fun x hx _=>⟨res (trE n) (trN n) (trQ n),?_,o1_ _ _ _,rfl⟩
 case refine_2 =>
  subst hx
  unfold trE
  split
  .exact le_ _ _ _
  .exact lz_ _ _ _ (by omega)
 refine zn_ c59 zp_ rfl ?_
 by_cases h1:n<1
 .rw[if_neg (by omega)]
  simp -implicitDefEqProofs [a59,F59,h1,eV]
 by_cases h2:3<n
 .rw[if_neg (by omega)]
  simp -implicitDefEqProofs [a59,F59,h1,h2,eV]
 rw[if_pos (by omega)]
 obtain⟨k,rfl,hk⟩:=jC_ (n:=n) (by omega)
 obtain⟨o1,o2,o3,o4⟩:=nJ_ hk
 have es:=shl1 (n:=k) (by omega)
 have hN:trN (k:Int)=2^k-1:=by unfold trN;rw[yys_]
 have hp1:1<=2^k:=Nat.pow_pos (by omega)
 have ws:IntKind.i64.wrap (((2^k:Nat):Int)-1)=((2^k-1:Nat):Int):=by rw[wrap64 (by omega)];omega
 have k0:¬(k:Int)<0:=by omega
 have hT:=lS_ 3 0 (2^k-1) o1 o2 o3 o4 (zzl_ _)
 have hsame:=pM_ hk
 have hlr:(zT_ 3 0 (2^k-1)).length<=15:=by rcases hk with rfl|rfl|rfl<;>decide +kernel
 have hpr:xP_ (2^k-1) (zT_ 3 0 (2^k-1))=true:=by rcases hk with rfl|rfl|rfl<;>decide +kernel
 have hR:=uz_ ((2^k-1:Nat):Int) (zi (zT_ 3 0 (2^k-1))) (by rw[zi_length];omega)
 rw[r6_ (k:=2^k-1) (by omega) hpr (by omega),r4_,<-r3_ hsame]at hR
 have hQ:trQ (k:Int)=zH_ (2^k-1) (below 3 0 (2^k-1)):=by unfold trQ trL;rw[hN]
 rw[hQ,hN]
 clear hQ hN o1 o2 o3 o4 hp1 hsame hpr hlr
 rw[show ((0:Nat):Int)=0 from rfl]at hT
 generalize zH_ (2^k-1) (below 3 0 (2^k-1))=Q at hR ⊢
 generalize zT_ 3 0 (2^k-1)=L at hT hR
 generalize 2^k-1=N at ws hT hR ⊢
 generalize 2^k=K at es ws
 rw[q0_]at hR ⊢
 simp -implicitDefEqProofs [a59,F59,h1,h2,k0,es,ws]
 refine z1_ ?_
 simp
 refine zc_ hT (by simp) (by simp) ?_
 rintro _ rfl
 simp
 refine z1_ ?_
 simp
 refine zc_ hR (by simp) (by simp) ?_
 rintro _ rfl
 simp[cV]
section
structure Md(k:Nat)(Q:List Nat):Prop where
 k1:1<=k/\k<=9
 cot:Cot k Q
 l64:Q.length<=64
section
variable{k:Nat}{Q:List Nat}
theorem Md.ok(h:Md k Q):okB k (zi Q)=true:=mg_ (iH_ h.k1 h.cot h.l64)
theorem Md.cv(h:Md k Q):Cv (k:Int) (zi Q) k Q:=⟨rfl,rfl,h.k1,h.cot,h.l64⟩
end
theorem u0_:∀ {n:Nat},n<=8->(xm_ n).length<=64:=by
 intro n h
 have key:∀n:Fin 9,(majB n.val).length<=64:=by decide +kernel
 have:=key ⟨n,by omega⟩
 rwa [oJ_]at this
theorem vt_{n:Nat}(h1:1<=n)(h8:n<=8):Md n (xm_ n):=⟨⟨h1,by omega⟩,oI_ h1,u0_ h8⟩
theorem ik_{n:Nat}(h1:1<=n)(h8:n<=8):majE n=0:=by
 unfold majE
 rw[if_pos (by omega),yys_,if_pos (u0_ h8)]
theorem r9_{n:Nat}(h1:1<=n)(h8:n<=8):PC Try.prog 57 [.s (.int .i64 n)] (fun r=>r=.tup [cP n (zi (xm_ n)),.s (.int .i64 0)]):=by
 have:=s4_ n
 rw[ik_ h1 h8,yys_]at this
 exact this
theorem r5_{k:Nat}(hk:1<=k/\k<=9){L:List Nat}(hp:xP_ k L=true)(hl:L.length<=64):Md k (zH_ k L):=by
 obtain⟨h1,h2,h3⟩:=vN_ hp
 exact⟨hk,qS_ h1 h2 h3,yyd_ uy_ hl⟩
theorem ir_{r c:Nat}(hr:1<=r/\r<=3)(hc:1<=c/\c<=2):1<=r*c/\r*c<=9:=by
 have h1:=Nat.mul_le_mul hr.2 hc.2
 have h2:=Nat.mul_le_mul hr.1 hc.1
 omega
theorem gr_0{r c:Nat}(hr:1<=r/\r<=3)(hc:1<=c/\c<=2):grE r c=0/\grQ r c=zH_ (r*c) (grid r c):=by
 obtain⟨h1,h2⟩:=u3_ hr hc
 have h3:=ir_ hr hc
 have h4:((r*c:Nat):Int)<=9:=by omega
 rw[Int.natCast_mul]at h4
 unfold grE grQ
 rw[if_pos ⟨by omega,by omega,h4⟩,yys_,yys_,<-Int.natCast_mul]
 exact⟨r6_ h3 h1 (by omega),r4_ _ _⟩
theorem jX_{r c:Nat}(hr:1<=r/\r<=3)(hc:1<=c/\c<=2):PC Try.prog 58 [.s (.int .i64 r),.s (.int .i64 c)] (fun q=>q=.tup [cP ((r*c:Nat):Int) (zi (zH_ (r*c) (grid r c))),.s (.int .i64 0)]):=by
 have:=q3_ r c
 rw[(gr_0 hr hc).1,(gr_0 hr hc).2,<-Int.natCast_mul]at this
 exact this
theorem hs_{r c:Nat}(hr:1<=r/\r<=3)(hc:1<=c/\c<=2):Md (r*c) (zH_ (r*c) (grid r c)):=by
 obtain⟨h1,h2⟩:=u3_ hr hc
 exact r5_ (ir_ hr hc) h1 (by omega)
def tQ(k:Nat):List Nat:=zH_ (2^k-1) (below 3 0 (2^k-1))
theorem jW_{k:Nat}(h:k=1\/k=2\/k=3):PC Try.prog 59 [.s (.int .i64 k)] (fun q=>q=.tup [cP ((2^k-1:Nat):Int) (zi (tQ k)),.s (.int .i64 0)]):=by
 have:=m1_ k
 have e1:trE k=0:=by unfold trE;rw[if_pos (by omega)]
 have e2:trN k=2^k-1:=by unfold trN;rw[yys_]
 have e3:trQ k=tQ k:=by unfold trQ trL tQ;rw[e2]
 rw[e1,e2,e3]at this
 exact this
theorem h4_{k:Nat}(h:k=1\/k=2\/k=3):Md (2^k-1) (tQ k):=by
 have:=nK_ h
 exact r5_ (by rcases h with rfl|rfl|rfl<;>decide) (sR_ h) (by omega)
theorem ij_:xm_ 3=[3,5,6]:=by rw[<-oJ_];decide +kernel
end
theorem l4_(l:List Int):PC Try.prog 7 [.list 1 (iv l)] (fun r=>r=.s (.bool (decide (l.length<=400)))):=by
 refine zn_ c7 zp_ rfl ?_
 by_cases h:(l.length:Int)<=400
 .have h2:l.length<=400:=by omega
  simp -implicitDefEqProofs [a7,F7,h,h2]
 .have h2:¬l.length<=400:=by omega
  simp -implicitDefEqProofs [a7,F7,h,h2]
structure Sg where
 t:Int
 s:Int
 deriving DecidableEq
def Sg.v(x:Sg):V:=.agg [.s (.int .i64 x.t),.s (.int .i64 x.s)]
def ordI(a b:Int):Int:=if a<b then -1 else if b<a then 1 else 0
def cmpS(a b:Sg):Int:=if ordI a.t b.t≠0 then ordI a.t b.t else ordI a.s b.s
theorem qH_(a b:Int):PC Try.prog 68 [.s (.int .i64 a),.s (.int .i64 b)] (fun r=>r=.s (.int .i64 (ordI a b))):=by
 refine zn_ c68 zp_ rfl ?_
 by_cases h1:a<b
 .simp -implicitDefEqProofs [a68,F68,h1,ordI]
 .by_cases h2:b<a
  .simp -implicitDefEqProofs [a68,F68,h1,h2,ordI]
  .simp -implicitDefEqProofs [a68,F68,h1,h2,ordI]
theorem v0_(a b:Sg):PC Try.prog 47 [a.v,b.v] (fun r=>r=.s (.int .i64 (cmpS a b))):=by
 have k1:=qH_ a.t b.t
 have k2:=qH_ a.s b.s
 refine zn_ c47 zp_ rfl ?_
 simp -implicitDefEqProofs [a47,F47,Sg.v]
 refine z1_ ?_
 simp
 refine zc_ k1 (by simp) (by simp) ?_
 rintro _ rfl
 cases h:(ordI a.t b.t != 0)
 .have h1:ordI a.t b.t=0:=by simpa using h
  simp[h]
  refine z1_ ?_
  simp
  refine zc_ k2 (by simp) (by simp) ?_
  rintro _ rfl
  simp[cmpS,h1]
 .have h1:¬ordI a.t b.t=0:=by simpa using h
  simp[h,cmpS,h1]
def cm3(a b:Sg)(m:Nat)(S:St):Prop:=∃i:Nat,i+m=3/\(1<=i->a.t=b.t)/\(2<=i->a.s=b.s) /\
 S = ⟨tmL [(3, .ptr 1 0), (7, .agg [.s (.int .i64 a.t), .s (.int .i64 a.s), .s (.int .i64 0)]), (8, .s (.int .i64 i))], [.agg [.s (.int .i64 a.t), .s (.int .i64 a.s), .s (.int .i64 0)], .agg [.s (.int .i64 b.t), .s (.int .i64 b.s), .s (.int .i64 0)], .s (.int .i64 0), .no, .no],
   [[.s (.int .i64 a.t),.s (.int .i64 a.s),.s (.int .i64 0)],[.s (.int .i64 b.t),.s (.int .i64 b.s),.s (.int .i64 0)]],0⟩
theorem pi_(a b:Sg):PC Try.prog 77 [.agg [.s (.int .i64 a.t),.s (.int .i64 a.s),.s (.int .i64 0)],.agg [.s (.int .i64 b.t),.s (.int .i64 b.s),.s (.int .i64 0)]] (fun r=>r=.s (.int .i64 (cmpS a b))):=by
 refine zn_ c77 zp_ rfl ?_
 simp -implicitDefEqProofs [a77,F77]
 refine zi_ [3,7,8] [3,4] 2 (by simp) (cm3 a b) 3 ⟨by simp,0,by simp,by simp,by simp,by simp⟩ ?_
 rintro m S ⟨i,hi,e1,e2,rfl⟩
 have hc:i=0\/i=1\/i=2\/i=3:=by omega
 have w1:IntKind.i64.wrap 1=1:=wrap64 (by omega)
 have w2:IntKind.i64.wrap 2=2:=wrap64 (by omega)
 have w3:IntKind.i64.wrap 3=3:=wrap64 (by omega)
 rcases hc with rfl|rfl|rfl|rfl
 .by_cases h1:a.t<b.t
  .simp[h1,cmpS,ordI]
  .by_cases h2:b.t<a.t
   .simp[h1,h2,cmpS,ordI]
   .simp[h1,h2,w1]
    exact⟨m-1,by omega,1,by omega,fun _=>by omega,fun h=>by omega,by simp⟩
 .have h0:=e1 (by omega)
  by_cases h1:a.s<b.s
  .simp[h1,cmpS,ordI,h0]
  .by_cases h2:b.s<a.s
   .simp[h1,h2,cmpS,ordI,h0]
   .simp[h1,h2,w2]
    exact⟨m-1,by omega,2,by omega,fun _=>h0,fun _=>by omega,by simp⟩
 .have h0:=e1 (by omega)
  have h1:=e2 (by omega)
  simp[w3]
  exact⟨m-1,by omega,3,by omega,fun _=>h0,fun _=>h1,by simp⟩
 .have h0:=e1 (by omega)
  have h1:=e2 (by omega)
  simp[cmpS,ordI,h0,h1]
theorem uR_(a b:Sg):PC Try.prog 66 [a.v,b.v] (fun r=>r=.s (.int .i64 (cmpS a b))):=by
 have k:=pi_ a b
 refine zn_ c66 zp_ rfl ?_
 simp -implicitDefEqProofs [a66,F66,Sg.v]
 refine z1_ ?_
 simp
 refine zc_ k (by simp) (by simp) ?_
 rintro _ rfl
 simp
def vtr(n v:Int):Bool:=decide (0<=v/\v<n)
theorem v7_(n:Int)(q:List Int)(v:Int):PC Try.prog 41 [cP n q,.s (.int .i64 v)] (fun r=>r=.s (.bool (vtr n v))):=by
 refine zn_ c41 zp_ rfl ?_
 by_cases h:0<=v
 .simp -implicitDefEqProofs [a41,F41,cP,vtr,h]
 .simp -implicitDefEqProofs [a41,F41,cP,vtr,h]
theorem uU_(n:Int)(q:List Int)(v:Int):PC Try.prog 45 [cP n q,.s (.int .i64 v)] (fun r=>r=.s (.bool (vtr n v))):=by
 refine zn_ c45 zp_ rfl ?_
 by_cases h:0<=v
 .simp -implicitDefEqProofs [a45,F45,cP,vtr,h]
 .simp -implicitDefEqProofs [a45,F45,cP,vtr,h]
def prp(n:Int)(x:Sg):Bool:=decide (0<=x.t/\x.t<=1073741824)&&vtr n x.s
theorem s9_(n:Int)(q:List Int)(x:Sg):PC Try.prog 49 [cP n q,x.v] (fun r=>r=.s (.bool (prp n x))):=by
 have k:=v7_ n q x.s
 refine zn_ c49 zp_ rfl ?_
 by_cases h:0<=x.t
 .by_cases h2:x.t<=1073741824
  .simp -implicitDefEqProofs [a49,F49,cP,Sg.v,h,h2]
   refine z1_ ?_
   simp
   refine zc_ k (by simp[cP]) (by simp[cP]) ?_
   rintro _ rfl
   simp[prp,h,h2]
  .simp -implicitDefEqProofs [a49,F49,cP,Sg.v,prp,h,h2]
 .simp -implicitDefEqProofs [a49,F49,cP,Sg.v,prp,h]
theorem uA_(n:Int)(q:List Int)(x:Sg):PC Try.prog 46 [cP n q,x.v] (fun r=>r=.s (.bool (prp n x))):=by
 have k:=uU_ n q x.s
 refine zn_ c46 zp_ rfl ?_
 by_cases h:0<=x.t
 .by_cases h2:x.t<=1073741824
  .simp -implicitDefEqProofs [a46,F46,cP,Sg.v,h,h2]
   refine z1_ ?_
   simp
   refine zc_ k (by simp[cP]) (by simp[cP]) ?_
   rintro _ rfl
   simp[prp,h,h2]
  .simp -implicitDefEqProofs [a46,F46,cP,Sg.v,prp,h,h2]
 .simp -implicitDefEqProofs [a46,F46,cP,Sg.v,prp,h]
theorem lm_{l:List Int}{i:Nat}{x:Int}(h:i<l.length):x∈l.take (i+1)↔x∈l.take i\/x=l[i]:=by
 rw[yyw_,zzf_ h,zzw_]
 simp only[Option.toList_some,List.mem_singleton]
def ixI(l:List Int)(x:Int)(m:Nat)(S:St):Prop:=∃i,i+m=l.length/\x∉l.take i/\S=⟨tmL [(6,.list 1 (iv l)),(7,.s (.int .i64 l.length)),(8,.s (.int .i64 i))],[.list 1 (iv l),.s (.int .i64 x),.s (.int .i64 0),.no],[],0⟩
theorem l5_(l:List Int)(x:Int)(hl:l.length<=1000000):PC Try.prog 60 [.list 1 (iv l),.s (.int .i64 x)] (fun r=>∃n:Int,r=.s (.int .i64 n)/\(0<=n↔x∈l)):=by
 refine zn_ c60 zp_ rfl ?_
 simp -implicitDefEqProofs [a60,F60]
 refine zi_ [6,7,8] [3] 0 (zzl_ _) (ixI l x) l.length ⟨by simp,0,by simp,by simp,by simp⟩ ?_
 rintro m S ⟨i,hi,hx,rfl⟩
 by_cases hm:i<l.length
 .have h1:(i:Int)<l.length:=by omega
  have h0:¬(i:Int)<0:=by omega
  by_cases he:x=l[i]
  .have:x∈l:=he ▸ yyp_ hm
   simp[h1,h0,zI_ hm,<-he,this]
  .have he':(x==l[i])=false:=by simpa using he
   simp[h1,h0,zI_ hm,he']
   exact⟨m-1,by omega,i+1,by omega,by rw[lm_ hm];exact fun q=>q.elim hx he,by rw[wrap64 (by omega)];rfl⟩
 .have h1:¬(i:Int)<l.length:=by omega
  have:x∉l:=by rwa [zzx_ (by omega)]at hx
  have h2:i=l.length:=by omega
  simp[h2,this]
theorem ue_(l:List Int)(x:Int)(hl:l.length<=1000000):PC Try.prog 33 [.list 1 (iv l),.s (.int .i64 x)] (fun r=>r=.s (.bool (decide (x∈l)))):=by
 refine zn_ c33 zp_ rfl ?_
 simp -implicitDefEqProofs [a33,F33]
 refine z1_ ?_
 simp
 refine zc_ (l5_ l x hl) (by simp) (by simp) ?_
 rintro _ ⟨k,rfl,hk⟩
 simp[hk]
def isQ(n:Int)(q:List Int)(x:Int)(m:Nat)(S:St):Prop:=∃i,i+m=q.length/\x∉q.take i/\S=⟨tmL [(8,.list 1 (iv q)),(9,.s (.int .i64 q.length)),(10,.s (.int .i64 i))],[cP n q,.s (.int .i64 x),.s (.bool false),.no],[],0⟩
theorem u2_(n:Int)(q:List Int)(x:Int)(hl:q.length<=1000000):PC Try.prog 36 [cP n q,.s (.int .i64 x)] (fun r=>r=.s (.bool (decide (x∈q)))):=by
 refine zn_ c36 zp_ rfl ?_
 simp -implicitDefEqProofs [a36,F36,cP]
 refine zi_ [8,9,10] [3] 0 (zzl_ _) (isQ n q x) q.length ⟨by simp,0,by simp,by simp,by simp[cP]⟩ ?_
 rintro m S ⟨i,hi,hx,rfl⟩
 by_cases hm:i<q.length
 .have h1:(i:Int)<q.length:=by omega
  have h0:¬(i:Int)<0:=by omega
  by_cases he:q[i]=x
  .have:x∈q:=he ▸ yyp_ hm
   simp[h1,h0,zI_ hm,he,this,cP]
  .have he':(q[i]==x)=false:=by simpa using he
   simp[h1,h0,zI_ hm,he',cP]
   exact⟨m-1,by omega,i+1,by omega,by rw[lm_ hm];exact fun z=>z.elim hx fun z=>he z.symm,by simp[cP,wrap64 (n:=(i:Int)+1) (by omega)]⟩
 .have h1:¬(i:Int)<q.length:=by omega
  have:x∉q:=by rwa [zzx_ (by omega)]at hx
  have h2:i=q.length:=by omega
  simp[h2,this,cP]
def sl(l:List Sg):List V:=l.map Sg.v
@[simp] theorem sl_length (l:List Sg):(sl l).length=l.length:=by simp[sl]
@[simp] theorem sl_nil:sl []=[]:=rfl
theorem yI_{l:List Sg}{i:Nat}(h:i<l.length):(sl l)[i]?=some l[i].v:=by simp[sl,h]
structure Vt where
 k:Int
 to:Int
 st:Int
 ss:Int
 deriving DecidableEq
def Vt.v(x:Vt):V:=.agg [.s (.int .i64 x.k),.s (.int .i64 x.to),.s (.int .i64 x.st),.s (.int .i64 x.ss)]
def vl(l:List Vt):List V:=l.map Vt.v
@[simp] theorem vl_length (l:List Vt):(vl l).length=l.length:=by simp[vl]
@[simp] theorem vl_nil:vl []=[]:=rfl
theorem w8_{l:List Vt}{i:Nat}(h:i<l.length):(vl l)[i]?=some l[i].v:=by simp[vl,h]
theorem kf_{a b:Sg}(h:a≠b):(a.t==b.t)=false\/((a.t==b.t)=true/\(a.s==b.s)=false):=by
 obtain⟨a0,a1⟩:=a
 obtain⟨b0,b1⟩:=b
 by_cases h0:a0=b0
 case neg=>exact .inl (by simpa using h0)
 by_cases h1:a1=b1
 case neg=>exact .inr (⟨by simp[h0],by simpa using h1⟩)
 exact absurd (by subst h0 h1;rfl) h
def jK_(l k:List Sg)(m:Nat)(S:St):Prop:=∃i:Nat,i+m=l.length/\l.take i=k.take i/\S=⟨tmL [],[.list 2 (sl l),.list 2 (sl k),.s (.bool false),.s (.int .i64 i)],[],0⟩
theorem rV_(l k:List Sg)(hl:l.length<=1000000):PC Try.prog 39 [.list 2 (sl l),.list 2 (sl k)] (fun r=>r=.s (.bool (decide (l=k)))):=by
 refine zn_ c39 zp_ rfl ?_
 cases h:((l.length:Int) != (k.length:Int))
 case' true =>
  have:¬l=k:=fun q=>by subst q;simp at h
  simp -implicitDefEqProofs [a39,F39,h,this]
 have hlk:l.length=k.length:=by simp at h;omega
 simp -implicitDefEqProofs [a39,F39,h]
 refine zi_ [] [] 0 (zzl_ _) (jK_ l k) l.length ⟨by simp,0,by simp,by simp,by simp⟩ ?_
 rintro m S ⟨i,hi,hx,rfl⟩
 by_cases hm:i<l.length
 .have h1:(i:Int)<l.length:=by omega
  have h0:¬(i:Int)<0:=by omega
  have hm2:i<k.length:=by omega
  have h2:(i:Int)<k.length:=by omega
  have hw:=wrap64 (n:=(i:Int)+1) (by omega)
  by_cases he:l[i]=k[i]
  .simp[h1,h0,h2,yI_ hm,yI_ hm2,<-he,hw,Sg.v,eqCs,eqC]
   exact⟨m-1,by omega,i+1,by omega,rL_ hm hm2 hx he,by simp⟩
  .have nk:¬l=k:=fun q=>by subst q;simp at he
   rcases kf_ he with q0|⟨q0,q1⟩
   .simp[h1,h0,h2,yI_ hm,yI_ hm2,Sg.v,eqCs,eqC,q0,nk]
   .simp[h1,h0,h2,yI_ hm,yI_ hm2,Sg.v,eqCs,eqC,q0,q1,nk]
 .have h2:i=l.length:=by omega
  rw[zzx_ (by omega),zzx_ (by omega)]at hx
  simp[h2,hx]
theorem ke_{a b:Vt}(h:a≠b):(a.k==b.k)=false\/((a.k==b.k)=true/\(a.to==b.to)=false)\/((a.k==b.k)=true/\(a.to==b.to)=true/\(a.st==b.st)=false)\/((a.k==b.k)=true/\(a.to==b.to)=true/\(a.st==b.st)=true/\(a.ss==b.ss)=false):=by
 obtain⟨a0,a1,a2,a3⟩:=a
 obtain⟨b0,b1,b2,b3⟩:=b
 by_cases h0:a0=b0
 case neg=>exact .inl (by simpa using h0)
 by_cases h1:a1=b1
 case neg=>exact .inr (.inl ⟨by simp[h0],by simpa using h1⟩)
 by_cases h2:a2=b2
 case neg=>exact .inr (.inr (.inl ⟨by simp[h0],by simp[h1],by simpa using h2⟩))
 by_cases h3:a3=b3
 case neg=>exact .inr (.inr (.inr (⟨by simp[h0],by simp[h1],by simp[h2],by simpa using h3⟩)))
 exact absurd (by subst h0 h1 h2 h3;rfl) h
def jJ_(l k:List Vt)(m:Nat)(S:St):Prop:=∃i:Nat,i+m=l.length/\l.take i=k.take i/\S=⟨tmL [],[.list 4 (vl l),.list 4 (vl k),.s (.bool false),.s (.int .i64 i)],[],0⟩
theorem t2_(l k:List Vt)(hl:l.length<=1000000):PC Try.prog 18 [.list 4 (vl l),.list 4 (vl k)] (fun r=>r=.s (.bool (decide (l=k)))):=by
 refine zn_ c18 zp_ rfl ?_
 cases h:((l.length:Int) != (k.length:Int))
 case' true =>
  have:¬l=k:=fun q=>by subst q;simp at h
  simp -implicitDefEqProofs [a18,F18,h,this]
 have hlk:l.length=k.length:=by simp at h;omega
 simp -implicitDefEqProofs [a18,F18,h]
 refine zi_ [] [] 0 (zzl_ _) (jJ_ l k) l.length ⟨by simp,0,by simp,by simp,by simp⟩ ?_
 rintro m S ⟨i,hi,hx,rfl⟩
 by_cases hm:i<l.length
 .have h1:(i:Int)<l.length:=by omega
  have h0:¬(i:Int)<0:=by omega
  have hm2:i<k.length:=by omega
  have h2:(i:Int)<k.length:=by omega
  have hw:=wrap64 (n:=(i:Int)+1) (by omega)
  by_cases he:l[i]=k[i]
  .simp[h1,h0,h2,w8_ hm,w8_ hm2,<-he,hw,Vt.v,eqCs,eqC]
   exact⟨m-1,by omega,i+1,by omega,rL_ hm hm2 hx he,by simp⟩
  .have nk:¬l=k:=fun q=>by subst q;simp at he
   rcases ke_ he with q0|⟨q0,q1⟩|⟨q0,q1,q2⟩|⟨q0,q1,q2,q3⟩
   .simp[h1,h0,h2,w8_ hm,w8_ hm2,Vt.v,eqCs,eqC,q0,nk]
   .simp[h1,h0,h2,w8_ hm,w8_ hm2,Vt.v,eqCs,eqC,q0,q1,nk]
   .simp[h1,h0,h2,w8_ hm,w8_ hm2,Vt.v,eqCs,eqC,q0,q1,q2,nk]
   .simp[h1,h0,h2,w8_ hm,w8_ hm2,Vt.v,eqCs,eqC,q0,q1,q2,q3,nk]
 .have h2:i=l.length:=by omega
  rw[zzx_ (by omega),zzx_ (by omega)]at hx
  simp[h2,hx]
theorem l6_(l:List Sg)(h:l.length<=1000000):PC Try.prog 61 [.list 2 (sl l)] (fun r=>r=.list 2 (sl l)):=by
 refine y9_ (q:=fun r=>frT r (.list 2 (sl l))) ?_ fun x hx _=>⟨_,hx,rfl,rfl⟩
 refine zn_ c61 zp_ rfl ?_
 have b1:l.length<=maxLen/\l.length*16<=z5_:=by simp[maxLen,z5_];omega
 by_cases hn:l=[]
 .subst hn
  simp -implicitDefEqProofs [a61,F61,WO_isn,frT,frA,frL,immC]
 .have h0:l.length≠0:=by simpa using hn
  have h1:sl l≠[]:=by simpa[sl] using hn
  simp -implicitDefEqProofs [a61,F61,b1,h0,h1,WO_isn,frT,frA,frL,immC]
structure Bl where
 time:Int
 qu:Int
 votes:Int
 fail:Int
 inqd:Int
 stamp:Sg
 using':Bool
 given:List Sg
 queue:List Sg
 asked:Bool
 deriving DecidableEq
def Bl.cs(b:Bl):List V:=[.s (.int .i64 b.time),.s (.int .i64 b.qu),.s (.int .i64 b.votes),.s (.int .i64 b.fail),.s (.int .i64 b.inqd),.s (.int .i64 b.stamp.t),.s (.int .i64 b.stamp.s),.s (.bool b.using'),.list 2 (sl b.given),.list 2 (sl b.queue),.s (.bool b.asked)]
def Bl.v(b:Bl):V:=.agg b.cs
def Bl.sm(b:Bl):Prop:=b.given.length<=1000000/\b.queue.length<=1000000
def a37b:ACode :=
 (.seq (qP 0 [
 qN 1 (.box 11 (.v 0)),
 qN 2 (.allo qZ)])
 (.seq (qP 1 [
 qN 3 (qf 8 1),
 qN 4 (ql 1 3),
 qN 5 (.app 36 2 16 (.c (.slice none 0 0)) (T 4)),
 qN 6 (qf 8 1),
 qS 1 (T 6) (T 5)])
 (.seq (qP 2 [
 qN 7 (qf 9 1),
 qN 8 (ql 1 7),
 qN 9 (.app 36 2 16 (.c (.slice none 0 0)) (T 8)),
 qN 10 (qf 9 1),
 qS 1 (T 10) (T 9)])
 (.seq (qR 3 [.freeze (.cell 0 8),.freeze (.cell 0 9)] [
 qN 11 (qL 11 1),
 qS 11 (T 2) (T 11)])
 .ret))))
theorem c37b:ze_ Try.prog 37 F37=some (1,zh_ a37b,[.c 2 11 true])/\z9_ a37b=true:=⟨by kernel_rfl,by kernel_rfl⟩
def a43h:ACode :=
 (.seq (qP 1 [
 qN 11 (qf 8 2),
 qN 12 (ql 1 11),
 qN 13 (.len (T 12)),
 qN 14 (qi .gtr 13 1),
 qN 15 (qt 14),
 qG 16 15 false (qf 8 2),
 qG 17 15 false (ql 1 16),
 qG 18 15 false (.len (T 17)),
 qG 19 15 false (qi .eql 18 0),
 qG 20 15 false (qt 19),
 qG 21 20 true (qf 9 2),
 qG 22 20 true (ql 1 21),
 qG 23 20 true (.len (T 22)),
 qG 24 20 true (qi .gtr 23 0),
 qG 25 15 false (qa 20 24),
 qN 26 (qo 15 25),
 qN 27 (qt 26),
 qG 28 27 false (qf 10 2),
 qG 29 27 false (ql 1 28),
 qG 30 27 false (qt 29),
 qG 31 30 true (qf 9 2),
 qG 32 30 true (ql 1 31),
 qG 33 30 true (.len (T 32)),
 qG 34 30 true (qi .eql 33 0),
 qG 35 27 false (qa 30 34),
 qN 36 (qo 27 35)])
 (.cond (T 36)
 (.seq (qP 2 [
 qV 2 (.c (.bool false))])
 .ret)
 .skip))
def a43b:ACode :=
 (.seq (qP 0 [
 qN 2 (.box 11 (.v 0)),
 qN 3 (.box 2 (.v 1)),
 qV 2 (.c (.bool false))])
 (.seq a43h
 (.seq (qP 3 [
 qV 3 (qI 0)])
 (.seq (.seq (qP 4 [
 qN 37 (qf 8 2),
 qN 38 (ql 1 37),
 qN 39 (qf 9 2),
 qN 40 (ql 1 39),
 qN 41 (.bld [(.slice none 0 0),(.slice none 0 0)] [(0,1,(T 38)),(1,1,(T 40))]),
 qN 42 (.mv (qI 0))])
 (.block 0
 (.loop
 (.seq (qP 5 [
 qN 43 (qi .lss 42 2)])
 (.seq (.cond (T 43)
 .skip
 (.exit 0))
 (.seq (.block 1
 (.seq (qP 6 [
 qN 44 (.ex (.idx 2 1 false) (T 41) (T 42)),
 qV 4 (T 44)])
 (.seq (qP 7 [
 qN 45 (qm 4),
 qN 46 (.len (T 45)),
 qN 47 (.mv (qI 0))])
 (.block 2
 (.loop
 (.seq (qP 8 [
 qN 48 (qb .lss 47 46)])
 (.seq (.cond (T 48)
 .skip
 (.exit 2))
 (.seq (.block 3
 (.seq (qP 9 [
 qN 49 (.ia 2 (T 45) (T 47)),
 qN 50 (qL 2 49),
 qN 9 (.allo [(.int .i64 0),(.int .i64 0)]),
 qS 2 (T 9) (T 50)])
 (.seq (.seq (qP 10 [
 qN 51 (qL 2 3),
 qN 52 (qL 2 9),
 qN 53 (.call 49 [(T 51),(T 52)]),
 qN 54 (.un .not (T 53)),
 qN 55 (qt 54),
 qG 56 55 false (qm 3),
 qG 57 55 false (qf 1 9),
 qG 58 55 false (ql 1 57),
 qG 59 55 false (.bin .shl (qI 1) (T 58)),
 qG 60 55 false (qb .and 56 59),
 qG 61 55 false (qi .neq 60 0),
 qN 62 (qo 55 61)])
 (.cond (T 62)
 (.seq (qP 11 [
 qV 2 (.c (.bool false))])
 .ret)
 .skip))
 (qP 12 [
 qN 63 (qm 3),
 qN 64 (qf 1 9),
 qN 65 (ql 1 64),
 qN 66 (.bin .shl (qI 1) (T 65)),
 qN 67 (qb .or 63 66),
 qV 3 (T 67)]))))
 (qP 13 [
 qN 68 (qi .add 47 1),
 qN 47 (qt 68)])))))))))
 (qP 14 [
 qN 69 (qi .add 42 1),
 qN 42 (qt 69)])))))))
 (.seq (.seq (qP 15 [
 qV 5 (qI 1)])
 (.block 4
 (.loop
 (.seq (.seq (qP 16 [
 qN 70 (qm 5),
 qN 71 (qf 9 2),
 qN 72 (ql 1 71),
 qN 73 (.len (T 72)),
 qN 74 (qb .lss 70 73)])
 (.cond (T 74)
 .skip
 (.exit 4)))
 (.seq (.block 5
 (.seq (.reg 18 [] [
 qN 77 (qf 9 2),
 qN 78 (ql 1 77),
 qN 79 (qm 5),
 qN 80 (qi .sub 79 1),
 qN 81 (.ia 2 (T 78) (T 80)),
 qN 82 (qL 2 81),
 qN 83 (qf 9 2),
 qN 84 (ql 1 83),
 qN 85 (qm 5),
 qN 86 (.ia 2 (T 84) (T 85)),
 qN 87 (qL 2 86),
 qN 88 (.call 66 [(T 82),(T 87)]),
 qN 89 (qi .geq 88 0)] (some [[],[0],[],[2],[1,3],[4],[],[6],[],[7,8],[9],[5,10],[11]]) ⟨[2],[],[],[]⟩)
 (.cond (T 89)
 (.seq (qP 19 [
 qV 2 (.c (.bool false))])
 .ret)
 .skip)))
 (qP 17 [
 qN 75 (qm 5),
 qN 76 (qi .add 75 1),
 qV 5 (T 76)]))))))
 (.seq (qP 20 [
 qV 2 (.c (.bool true))])
 .ret))))))
theorem c43b:ze_ Try.prog 43 F43=some (2,zh_ a43b,[.v 2])/\z9_ a43b=true:=⟨by kernel_rfl,by kernel_rfl⟩
def a34b:ACode :=
 (.seq (qP 0 [
 qN 1 (.box 11 (.v 0)),
 qV 1 (.c (.pointer none))])
 (.seq (qP 1 [
 qN 3 (qf 8 1),
 qN 4 (ql 1 3),
 qN 5 (.call 61 [(T 4)]),
 qN 6 (qf 8 1),
 qS 1 (T 6) (T 5)])
 (.seq (qP 2 [
 qN 7 (qf 9 1),
 qN 8 (ql 1 7),
 qN 9 (.call 61 [(T 8)]),
 qN 10 (qf 9 1),
 qS 1 (T 10) (T 9)])
 (.seq (qR 3 [.freeze (.cell 0 8),.own (.cell 0 9) 36 2,.lend (.cell 0 9) 11] [
 qN 11 (qL 11 1),
 qN 12 (.bld [(.int .i64 0),(.int .i64 0),(.int .i64 0),(.int .i64 0),(.int .i64 0),(.int .i64 0),(.int .i64 0),(.bool false),(.slice none 0 0),(.slice none 0 0),(.bool false),(.slice none 0 0)] [(0,11,(T 11))]),
 qN 13 (.box 12 (T 12)),
 qV 1 (T 13)])
 .ret))))
theorem c34b:ze_ Try.prog 34 F34=some (1,zh_ a34b,[.v 1])/\z9_ a34b=true:=⟨by kernel_rfl,by kernel_rfl⟩
def a15b:ACode :=
 (.seq (qP 0 [
 qN 4 (.box 11 (.v 0)),
 qN 5 (.box 2 (.v 1)),
 qN 8 (.allo qZ),
 qV 4 (.c (.slice none 0 0)),
 qV 5 (qI 0)])
 (.seq (.seq (qP 1 [
 qN 14 (qL 11 4),
 qN 15 (qL 2 5),
 qN 16 (qm 2),
 qN 17 (.call 19 [(T 14),(T 15),(T 16)]),
 qN 18 (.un .not (T 17))])
 (.cond (T 18)
 (.seq (qP 2 [
 qN 19 (.call 32 [(qI 2)]),
 qN 20 (.ext 19 0),
 qN 21 (.ext 19 1),
 qN 22 (.ext 19 2),
 qS 11 (T 8) (T 20),
 qV 4 (T 21),
 qV 5 (T 22)])
 .ret)
 .skip))
 (.seq (.seq (qP 3 [
 qN 23 (qf 1 5),
 qN 24 (ql 1 23),
 qN 25 (qm 3),
 qN 26 (.call 33 [(T 24),(T 25)]),
 qN 27 (.un .not (T 26))])
 (.cond (T 27)
 (.seq (qP 4 [
 qN 28 (.call 32 [(qI 1)]),
 qN 29 (.ext 28 0),
 qN 30 (.ext 28 1),
 qN 31 (.ext 28 2),
 qS 11 (T 8) (T 29),
 qV 4 (T 30),
 qV 5 (T 31)])
 .ret)
 .skip))
 (.seq (.seq (qP 5 [
 qN 32 (qf 1 4),
 qN 33 (ql 1 32),
 qN 34 (qi .neq 33 0)])
 (.cond (T 34)
 (.seq (qP 6 [
 qN 35 (.call 32 [(qI 14)]),
 qN 36 (.ext 35 0),
 qN 37 (.ext 35 1),
 qN 38 (.ext 35 2),
 qS 11 (T 8) (T 36),
 qV 4 (T 37),
 qV 5 (T 38)])
 .ret)
 .skip))
 (.seq (.seq (qP 7 [
 qN 39 (qf 0 4),
 qN 40 (ql 1 39),
 qN 41 (qi .eql 40 1073741824)])
 (.cond (T 41)
 (.seq (qP 8 [
 qN 42 (.call 32 [(qI 16)]),
 qN 43 (.ext 42 0),
 qN 44 (.ext 42 1),
 qN 45 (.ext 42 2),
 qS 11 (T 8) (T 43),
 qV 4 (T 44),
 qV 5 (T 45)])
 .ret)
 .skip))
 (.seq (qP 9 [
 qN 46 (qL 11 4),
 qN 47 (.call 34 [(T 46)]),
 qV 6 (T 47)])
 (.seq (qP 10 [
 qN 48 (qm 6),
 qN 49 (.nilck (T 48)),
 qN 50 (qf 0 49),
 qN 51 (qf 0 50),
 qN 52 (ql 1 51),
 qN 53 (qi .add 52 1),
 qN 54 (.nilck (T 48)),
 qN 55 (qf 0 54),
 qN 56 (qf 0 55),
 qS 1 (T 56) (T 53)])
 (.seq (qP 11 [
 qN 57 (qm 6),
 qN 58 (qm 6),
 qN 59 (.nilck (T 58)),
 qN 60 (qf 0 59),
 qN 61 (qf 0 60),
 qN 62 (ql 1 61),
 qN 63 (qm 2),
 qN 64 (.bld [(.int .i64 0),(.int .i64 0)] [(0,1,(T 62)),(1,1,(T 63))]),
 qN 65 (.nilck (T 57)),
 qN 66 (qf 0 65),
 qN 67 (qf 5 66),
 qS 2 (T 67) (T 64)])
 (.seq (qP 12 [
 qN 68 (qm 6),
 qN 69 (qm 3),
 qN 70 (.nilck (T 68)),
 qN 71 (qf 0 70),
 qN 72 (qf 1 71),
 qS 1 (T 72) (T 69)])
 (.seq (.seq (qR 13 [.own (.cell 4 11) 46 4] [
 qN 73 (qm 3),
 qN 74 (.call 35 [(T 73)]),
 qN 75 (.len (T 74)),
 qN 76 (.mv (qI 0))])
 (.block 0
 (.loop
 (.seq (qP 14 [
 qN 77 (qb .lss 76 75)])
 (.seq (.cond (T 77)
 .skip
 (.exit 0))
 (.seq (.block 1
 (.seq (qP 15 [
 qN 78 (.ia 1 (T 74) (T 76)),
 qN 79 (ql 1 78),
 qV 7 (T 79)])
 (.reg 16 [.lend (.cell 4 11) 93] [
 qN 80 (qm 6),
 qN 81 (qm 6),
 qN 82 (.nilck (T 81)),
 qN 83 (qf 11 82),
 qN 84 (ql 1 83),
 qN 85 (qm 7),
 qN 86 (qm 6),
 qN 87 (.nilck (T 86)),
 qN 88 (qf 0 87),
 qN 89 (qf 5 88),
 qN 90 (qL 2 89),
 qN 91 (.bld [(.int .i64 0),(.int .i64 0),(.int .i64 0),(.int .i64 0)] [(0,1,(qI 1)),(1,1,(T 85)),(2,2,(T 90))]),
 qN 92 (.bls 46 4 (.agg #[(.int .i64 0),(.int .i64 0),(.int .i64 0),(.int .i64 0)]) 1 [(0,(T 91))]),
 qN 93 (.app 46 4 32 (T 84) (T 92)),
 qN 94 (.nilck (T 80)),
 qN 95 (qf 11 94),
 qS 1 (T 95) (T 93)] (some [[],[],[1],[2],[3],[],[],[6],[7],[8],[9],[5,10],[11],[4,12],[0,0,1,2,3,4,5,6,7,8,9,10,11,12,13],[14,0,1,2,3,4,5,6,7,8,9,10,11,12,13],[15,13,13,0,1,2,3,4,5,6,7,8,9,10,11,12,13]]) ⟨[],[],[],[]⟩)))
 (qP 17 [
 qN 96 (qi .add 76 1),
 qN 76 (qt 96)])))))))
 (.seq (.reg 18 [.freeze (.cell 4 9),.freeze (.cell 4 11)] [
 qN 97 (qm 6),
 qN 98 (.nilck (T 97)),
 qN 99 (qf 0 98),
 qN 100 (qL 11 99),
 qN 101 (qm 6),
 qN 102 (.nilck (T 101)),
 qN 103 (qf 11 102),
 qN 104 (ql 1 103),
 qS 11 (T 8) (T 100),
 qV 4 (T 104),
 qV 5 (qI 0)] (some [[],[0],[1],[2],[],[4],[5],[6],[3,0,1,2,3],[7,8,0,1,2,3,4,5,6,7,8],[9,0,1,2,3,4,5,6,7,8,9]]) ⟨[],[],[1000000],[]⟩)
 .ret)))))))))))
theorem c15b:ze_ Try.prog 15 F15=some (4,zh_ a15b,[.c 8 11 true,.v 4,.v 5])/\z9_ a15b=true:=⟨by kernel_rfl,by kernel_rfl⟩
def a21b:ACode :=
 (.seq (qP 0 [
 qN 3 (.box 11 (.v 0)),
 qN 4 (.box 2 (.v 1)),
 qN 6 (.allo qZ),
 qV 3 (.c (.slice none 0 0)),
 qV 4 (qI 0)])
 (.seq (.seq (qP 1 [
 qN 12 (qL 11 3),
 qN 13 (qL 2 4),
 qN 14 (qm 2),
 qN 15 (.call 19 [(T 12),(T 13),(T 14)]),
 qN 16 (.un .not (T 15))])
 (.cond (T 16)
 (.seq (qP 2 [
 qN 17 (.call 32 [(qI 2)]),
 qN 18 (.ext 17 0),
 qN 19 (.ext 17 1),
 qN 20 (.ext 17 2),
 qS 11 (T 6) (T 18),
 qV 3 (T 19),
 qV 4 (T 20)])
 .ret)
 .skip))
 (.seq (.seq (qP 3 [
 qN 21 (qf 7 3),
 qN 22 (ql 1 21),
 qN 23 (.un .not (T 22))])
 (.cond (T 23)
 (.seq (qP 4 [
 qN 24 (.call 32 [(qI 14)]),
 qN 25 (.ext 24 0),
 qN 26 (.ext 24 1),
 qN 27 (.ext 24 2),
 qS 11 (T 6) (T 25),
 qV 3 (T 26),
 qV 4 (T 27)])
 .ret)
 .skip))
 (.seq (qP 5 [
 qN 28 (qL 11 3),
 qN 29 (.call 34 [(T 28)]),
 qV 5 (T 29)])
 (.seq (.seq (qR 6 [.own (.cell 4 11) 46 4] [
 qN 30 (qm 5),
 qN 31 (.nilck (T 30)),
 qN 32 (qf 0 31),
 qN 33 (qf 1 32),
 qN 34 (ql 1 33),
 qN 35 (.call 35 [(T 34)]),
 qN 36 (.len (T 35)),
 qN 37 (.mv (qI 0))])
 (.block 0
 (.loop
 (.seq (qP 7 [
 qN 38 (qb .lss 37 36)])
 (.seq (.cond (T 38)
 .skip
 (.exit 0))
 (.seq (.block 1
 (.seq (qP 8 [
 qN 39 (.ia 1 (T 35) (T 37)),
 qN 40 (ql 1 39),
 qV 6 (T 40)])
 (qP 9 [
 qN 41 (qm 5),
 qN 42 (qm 6),
 qN 43 (.call 48 [(T 41),(qI 6),(T 42)])])))
 (qP 10 [
 qN 44 (qi .add 37 1),
 qN 37 (qt 44)])))))))
 (.seq (qP 11 [
 qN 45 (qm 5),
 qN 46 (qm 5),
 qN 47 (qm 5),
 qN 48 (.nilck (T 45)),
 qN 49 (qf 0 48),
 qN 50 (qf 1 49),
 qS 1 (T 50) (qI 0),
 qN 51 (.nilck (T 46)),
 qN 52 (qf 0 51),
 qN 53 (qf 2 52),
 qS 1 (T 53) (qI 0),
 qN 54 (.nilck (T 47)),
 qN 55 (qf 0 54),
 qN 56 (qf 3 55),
 qS 1 (T 56) (qI 0)])
 (.seq (qP 12 [
 qN 57 (qm 5),
 qN 58 (.bld [(.int .i64 0),(.int .i64 0)] []),
 qN 59 (.nilck (T 57)),
 qN 60 (qf 0 59),
 qN 61 (qf 5 60),
 qS 2 (T 61) (T 58)])
 (.seq (qP 13 [
 qN 62 (qm 5),
 qN 63 (.nilck (T 62)),
 qN 64 (qf 0 63),
 qN 65 (qf 7 64),
 ⟨.none,.st 1 (T 65) (.c (.bool false)),none⟩])
 (.seq (.reg 14 [.freeze (.cell 4 9),.freeze (.cell 4 11)] [
 qN 66 (qm 5),
 qN 67 (.nilck (T 66)),
 qN 68 (qf 0 67),
 qN 69 (qL 11 68),
 qN 70 (qm 5),
 qN 71 (.nilck (T 70)),
 qN 72 (qf 11 71),
 qN 73 (ql 1 72),
 qS 11 (T 6) (T 69),
 qV 3 (T 73),
 qV 4 (qI 0)] (some [[],[0],[1],[2],[],[4],[5],[6],[3,0,1,2,3],[7,8,0,1,2,3,4,5,6,7,8],[9,0,1,2,3,4,5,6,7,8,9]]) ⟨[],[],[1000000],[]⟩)
 .ret)))))))))
theorem c21b:ze_ Try.prog 21 F21=some (3,zh_ a21b,[.c 6 11 true,.v 3,.v 4])/\z9_ a21b=true:=⟨by kernel_rfl,by kernel_rfl⟩
def a23b:ACode :=
 (.seq (qP 0 [
 qN 5 (.box 11 (.v 0)),
 qN 6 (.box 2 (.v 1)),
 qN 9 (.box 4 (.v 4)),
 qN 10 (.allo qZ),
 qV 5 (.c (.slice none 0 0)),
 qV 6 (qI 0)])
 (.seq (.seq (qP 1 [
 qN 15 (qL 11 5),
 qN 16 (qL 2 6),
 qN 17 (qm 2),
 qN 18 (.call 19 [(T 15),(T 16),(T 17)]),
 qN 19 (.un .not (T 18))])
 (.cond (T 19)
 (.seq (qP 2 [
 qN 20 (.call 32 [(qI 2)]),
 qN 21 (.ext 20 0),
 qN 22 (.ext 20 1),
 qN 23 (.ext 20 2),
 qS 11 (T 10) (T 21),
 qV 5 (T 22),
 qV 6 (T 23)])
 .ret)
 .skip))
 (.seq (.seq (qP 3 [
 qN 24 (qL 2 6),
 qN 25 (qm 3),
 qN 26 (.call 41 [(T 24),(T 25)]),
 qN 27 (.un .not (T 26))])
 (.cond (T 27)
 (.seq (qP 4 [
 qN 28 (.call 32 [(qI 1)]),
 qN 29 (.ext 28 0),
 qN 30 (.ext 28 1),
 qN 31 (.ext 28 2),
 qS 11 (T 10) (T 29),
 qV 5 (T 30),
 qV 6 (T 31)])
 .ret)
 .skip))
 (.seq (.seq (qP 5 [
 qN 32 (qf 0 9),
 qN 33 (ql 1 32),
 qN 34 (qi .eql 33 1)])
 (.cond (T 34)
 (.seq (qP 6 [
 qN 35 (qL 2 6),
 qN 36 (qf 2 9),
 qN 37 (qL 2 36),
 qN 38 (.call 49 [(T 35),(T 37)]),
 qN 39 (.un .not (T 38)),
 qN 40 (qt 39),
 qG 41 40 false (qf 2 9),
 qG 42 40 false (qf 1 41),
 qG 43 40 false (ql 1 42),
 qG 44 40 false (qm 3),
 qG 45 40 false (qb .neq 43 44),
 qN 46 (qo 40 45)])
 (.cond (T 46)
 (.seq (qP 7 [
 qN 47 (.call 32 [(qI 1)]),
 qN 48 (.ext 47 0),
 qN 49 (.ext 47 1),
 qN 50 (.ext 47 2),
 qS 11 (T 10) (T 48),
 qV 5 (T 49),
 qV 6 (T 50)])
 .ret)
 .skip))
 (.seq (qP 8 [
 qN 51 (qf 0 9),
 qN 52 (ql 1 51),
 qN 53 (qi .lss 52 1),
 qN 54 (qt 53),
 qG 55 54 false (qf 0 9),
 qG 56 54 false (ql 1 55),
 qG 57 54 false (qi .gtr 56 6),
 qN 58 (qo 54 57),
 qN 59 (qt 58),
 qG 60 59 false (qf 2 9),
 qG 61 59 false (qL 2 60),
 qG 62 59 false (.bld [(.int .i64 0),(.int .i64 0)] []),
 qG 63 59 false (.ex (.eqA true [.int,.int]) (T 61) (T 62)),
 qN 64 (qo 59 63)])
 (.cond (T 64)
 (.seq (qP 9 [
 qN 65 (.call 32 [(qI 1)]),
 qN 66 (.ext 65 0),
 qN 67 (.ext 65 1),
 qN 68 (.ext 65 2),
 qS 11 (T 10) (T 66),
 qV 5 (T 67),
 qV 6 (T 68)])
 .ret)
 .skip))))
 (.seq (qP 10 [
 qN 69 (qL 11 5),
 qN 70 (.call 34 [(T 69)]),
 qV 7 (T 70)])
 (.seq (qR 11 [.own (.cell 5 11) 46 4] [
 qV 8 (qI 0)])
 (.seq (.seq (qP 12 [
 qN 71 (qf 0 9),
 qN 72 (ql 1 71)])
 (.block 0
 (.seq (qP 14 [
 qN 79 (qi .eql 72 1),
 qV 9 (T 79)])
 (.cond (.v 9)
 (qP 15 [
 qN 80 (qm 7),
 qN 81 (qf 2 9),
 qN 82 (qL 2 81),
 qN 83 (.call 50 [(T 80),(T 82)]),
 qV 8 (T 83)])
 (.seq (.seq (qP 16 [
 qN 85 (qi .eql 72 5),
 qV 10 (T 85)])
 (.cond (.v 10)
 .skip
 (qP 17 [
 qN 86 (qi .eql 72 6),
 qV 10 (T 86)])))
 (.cond (.v 10)
 (qP 18 [
 qN 87 (qm 7),
 qN 88 (qm 3),
 qN 89 (qf 0 9),
 qN 90 (ql 1 89),
 qN 91 (qi .eql 90 5),
 qN 92 (.call 51 [(T 87),(T 88),(T 91)]),
 qV 8 (T 92)])
 (qP 13 [
 qN 73 (qm 7),
 qN 74 (qm 3),
 qN 75 (qf 0 9),
 qN 76 (ql 1 75),
 qN 77 (.call 52 [(T 73),(T 74),(T 76)]),
 qV 8 (T 77)])))))))
 (.seq (.seq (qP 19 [
 qN 93 (qm 8),
 qN 94 (qi .neq 93 0)])
 (.cond (T 94)
 (.seq (qP 20 [
 qN 95 (qm 8),
 qN 96 (.call 32 [(T 95)]),
 qN 97 (.ext 96 0),
 qN 98 (.ext 96 1),
 qN 99 (.ext 96 2),
 qS 11 (T 10) (T 97),
 qV 5 (T 98),
 qV 6 (T 99)])
 .ret)
 .skip))
 (.seq (.reg 21 [.freeze (.cell 5 8),.freeze (.cell 5 9),.freeze (.cell 5 11)] [
 qN 100 (qm 7),
 qN 101 (.nilck (T 100)),
 qN 102 (qf 0 101),
 qN 103 (qL 11 102),
 qN 104 (qm 7),
 qN 105 (.nilck (T 104)),
 qN 106 (qf 11 105),
 qN 107 (ql 1 106),
 qS 11 (T 10) (T 103),
 qV 5 (T 107),
 qV 6 (qI 0)] (some [[],[0],[1],[2],[],[4],[5],[6],[3,0,1,2,3],[7,8,0,1,2,3,4,5,6,7,8],[9,0,1,2,3,4,5,6,7,8,9]]) ⟨[],[],[1000000],[]⟩)
 .ret)))))))))
theorem c23b:ze_ Try.prog 23 F23=some (5,zh_ a23b,[.c 10 11 true,.v 5,.v 6])/\z9_ a23b=true:=⟨by kernel_rfl,by kernel_rfl⟩
def a51b:ACode :=
 (.seq (qP 0 [
 qV 3 (qI 0)])
 (.seq (.seq (qP 1 [
 qN 7 (qm 0),
 qN 8 (.nilck (T 7)),
 qN 9 (qf 0 8),
 qN 10 (qf 8 9),
 qN 11 (ql 1 10),
 qN 12 (.len (T 11)),
 qN 13 (qi .eql 12 0),
 qN 14 (qt 13),
 qG 15 14 false (qm 0),
 qG 16 14 false (.nilck (T 15)),
 qG 17 14 false (qf 0 16),
 qG 18 14 false (qf 8 17),
 qG 19 14 false (ql 1 18),
 qG 20 14 false (.ia 2 (T 19) (qI 0)),
 qG 21 14 false (qf 1 20),
 qG 22 14 false (ql 1 21),
 qG 23 14 false (qm 1),
 qG 24 14 false (qb .neq 22 23),
 qN 25 (qo 14 24)])
 (.cond (T 25)
 (.seq (qP 2 [
 qV 3 (qI 14)])
 .ret)
 .skip))
 (.seq (.seq (qP 3 [
 qN 26 (qm 2)])
 (.cond (T 26)
 (qP 4 [
 qN 27 (qm 0),
 qN 28 (qm 0),
 qN 29 (.nilck (T 28)),
 qN 30 (qf 0 29),
 qN 31 (qf 8 30),
 qN 32 (ql 1 31),
 qN 33 (.ia 2 (T 32) (qI 0)),
 qN 34 (qL 2 33),
 qN 35 (.call 71 [(T 27),(T 34)])])
 .skip))
 (.seq (qP 5 [
 qN 36 (qm 0),
 qN 37 (.nilck (T 36)),
 qN 38 (qf 0 37),
 qN 39 (qf 8 38),
 ⟨.none,.st 1 (T 39) (.c (.slice none 0 0)),none⟩])
 (.seq (qP 6 [
 qN 40 (qm 0),
 qN 41 (.nilck (T 40)),
 qN 42 (qf 0 41),
 qN 43 (qf 10 42),
 ⟨.none,.st 1 (T 43) (.c (.bool false)),none⟩])
 (.seq (.seq (qP 7 [
 qN 44 (qm 0),
 qN 45 (.nilck (T 44)),
 qN 46 (qf 0 45),
 qN 47 (qf 9 46),
 qN 48 (ql 1 47),
 qN 49 (.len (T 48)),
 qN 50 (qi .gtr 49 0)])
 (.cond (T 50)
 (.seq (qP 8 [
 qN 51 (qm 0),
 qN 52 (qm 0),
 qN 53 (.nilck (T 52)),
 qN 54 (qf 0 53),
 qN 55 (qf 9 54),
 qN 56 (ql 1 55),
 qN 57 (.ia 2 (T 56) (qI 0)),
 qN 58 (qL 2 57),
 qN 59 (.bls 36 2 (.agg #[(.int .i64 0),(.int .i64 0)]) 1 [(0,(T 58))]),
 qN 60 (.nilck (T 51)),
 qN 61 (qf 0 60),
 qN 62 (qf 8 61),
 qS 1 (T 62) (T 59)])
 (.seq (qR 9 [.lend (.cell 0 9) 68] [
 qN 63 (qm 0),
 qN 64 (qm 0),
 qN 65 (.nilck (T 64)),
 qN 66 (qf 0 65),
 qN 67 (qf 9 66),
 qN 68 (ql 1 67),
 qN 69 (.call 72 [(T 68),(qI 0),(qI 1)]),
 qN 70 (.nilck (T 63)),
 qN 71 (qf 0 70),
 qN 72 (qf 9 71),
 qS 1 (T 72) (T 69)])
 (qP 10 [
 qN 73 (qm 0),
 qN 74 (qm 0),
 qN 75 (.nilck (T 74)),
 qN 76 (qf 0 75),
 qN 77 (qf 8 76),
 qN 78 (ql 1 77),
 qN 79 (.ia 2 (T 78) (qI 0)),
 qN 80 (qf 1 79),
 qN 81 (ql 1 80),
 qN 82 (.call 48 [(T 73),(qI 2),(T 81)])])))
 .skip))
 (.seq (qP 11 [
 qV 3 (qI 0)])
 .ret)))))))
theorem c51b:ze_ Try.prog 51 F51=some (3,zh_ a51b,[.v 3])/\z9_ a51b=true:=⟨by kernel_rfl,by kernel_rfl⟩
def a71b:ACode :=
 (.seq (qP 0 [
 qN 3 (.box 2 (.v 1))])
 (.seq (qP 1 [
 qV 2 (qI 0)])
 (.seq (.block 0
 (.loop
 (.seq (.seq (.reg 2 [] [
 qN 5 (qm 2),
 qN 6 (qm 0),
 qN 7 (.nilck (T 6)),
 qN 8 (qf 0 7),
 qN 9 (qf 9 8),
 qN 10 (ql 1 9),
 qN 11 (.len (T 10)),
 qN 12 (qb .lss 5 11),
 qN 13 (qt 12),
 qG 14 13 true (qm 0),
 qG 15 13 true (.nilck (T 14)),
 qG 16 13 true (qf 0 15),
 qG 17 13 true (qf 9 16),
 qG 18 13 true (ql 1 17),
 qG 19 13 true (qm 2),
 qG 20 13 true (.ia 2 (T 18) (T 19)),
 qG 21 13 true (qL 2 20),
 qG 22 13 true (qL 2 3),
 qG 23 13 true (.call 66 [(T 21),(T 22)]),
 qG 24 13 true (qi .lss 23 0),
 qN 25 (qa 13 24)] (some [[],[],[1],[2],[3],[4],[5],[0,6],[7],[8],[9,8],[10,8],[11,8],[12,8],[8],[13,14,8],[15,8],[8],[16,17,8,8],[18,8],[8,19]]) ⟨[13],[],[],[]⟩)
 (.cond (T 25)
 .skip
 (.exit 0)))
 (.block 1
 (qP 3 [
 qN 26 (qm 2),
 qN 27 (qi .add 26 1),
 qV 2 (T 27)])))))
 (.reg 4 [.lend (.cell 0 9) 33] [
 qN 28 (qm 0),
 qN 29 (qm 0),
 qN 30 (.nilck (T 29)),
 qN 31 (qf 0 30),
 qN 32 (qf 9 31),
 qN 33 (ql 1 32),
 qN 34 (qm 2),
 qN 35 (qL 2 3),
 qN 36 (.bls 36 2 (.agg #[(.int .i64 0),(.int .i64 0)]) 1 [(0,(T 35))]),
 qN 37 (.call 80 [(T 33),(T 34),(T 36)]),
 qN 38 (.nilck (T 28)),
 qN 39 (qf 0 38),
 qN 40 (qf 9 39),
 qS 1 (T 40) (T 37)] (some [[],[],[1],[2],[3],[4],[],[],[7],[5,6,8],[0,0,1,2,3,4,5,6,7,8,9],[10,0,1,2,3,4,5,6,7,8,9],[11,0,1,2,3,4,5,6,7,8,9],[12,9,9,0,1,2,3,4,5,6,7,8,9]]) ⟨[],[0],[9],[]⟩))))
theorem c71b:ze_ Try.prog 71 F71=some (2,zh_ a71b,[])/\z9_ a71b=true:=⟨by kernel_rfl,by kernel_rfl⟩
section
section
variable{P:Program}
def zS_(pm:List Nat)(ops:List AOper):List AOper:=pm.map fun i=>ops.getD i ⟨.none,.mv (.c undef),none⟩
def uf_(pm:List Nat)(es:List (List Nat)):List (List Nat):=pm.map fun i=>((es[i]?).getD []).map pm.idxOf
def om_(pm:List Nat)(n:Nat)(es:List (List Nat)):Bool :=
 decide (pm.length=n)&&decide (es.length=n)&&(List.range n).all (fun i=>pm.contains i)&&(List.range n).all (fun i=>decide (pm.getD i 0<n)&&decide (pm.idxOf (pm.getD i 0)=i))&&es.all fun e=>e.all fun x=>decide (x<n)
structure PO(pm:List Nat)(n:Nat)(es:List (List Nat)):Prop where
 len:pm.length=n
 elen:es.length=n
 mem:∀i,i<n->i∈pm
 inv:∀i,i<n->pm.getD i 0<n/\pm.idxOf (pm.getD i 0)=i
 dep:∀(i e:Nat),e∈(es[i]?).getD []->e<n
theorem ho_{pm:List Nat}{n:Nat}{es:List (List Nat)}(h:om_ pm n es=true):PO pm n es:=by
 simp only[om_,zzg_,zzp_,zzh_,List.mem_range,List.contains_iff_mem]at h
 obtain⟨⟨⟨⟨h1,h2⟩,h3⟩,h4⟩,h5⟩:=h
 refine⟨h1,h2,h3,h4,fun i e he=>?_⟩
 cases hi:es[i]? with
 |none=>rw[hi]at he;simp at he
 |some x=>rw[hi]at he;exact h5 x (zzd_ hi) e he
theorem PO.pos{pm:List Nat}{n:Nat}{es:List (List Nat)}(h:PO pm n es){i:Nat}(hi:i<n):pm.idxOf i<n/\pm[pm.idxOf i]?=some i:=by
 have hm:=h.mem i hi
 have h1:=List.idxOf_lt_length_of_mem hm
 exact⟨by rw[<-h.len];exact h1,by rw[zzf_ h1,List.getElem_idxOf h1]⟩
theorem PO.inj{pm:List Nat}{n:Nat}{es:List (List Nat)}(h:PO pm n es){i j:Nat}(hi:i<n)(hj:j<n)(e:pm.idxOf i=pm.idxOf j):i=j:=by
 have h1:=(h.pos hi).2
 rw[e,(h.pos hj).2]at h1
 exact(Option.some.inj h1).symm
theorem lN_{pm:List Nat}{ops:List AOper}{es:List (List Nat)}{K:St->Prop}(h:PO pm ops.length es):∀(f:Nat) (L:List Nat) (S:St),(∀x∈L,x<ops.length)->WN P (zS_ pm ops) (uf_ pm es) f (L.map pm.idxOf) S K->WN P ops es f L S K:=by
 have fwd:∀(L:List Nat) (i:Nat),(∀x∈L,x<ops.length)->i∈rdy es L->pm.idxOf i∈rdy (uf_ pm es) (L.map pm.idxOf):=by
  intro L i hL hi
  obtain⟨h1,h2,h3⟩:=yp_.1 hi
  rw[h.elen]at h1
  obtain⟨p1,p2⟩:=h.pos h1
  refine yp_.2 ⟨by rw[uf_,List.length_map,h.len];exact p1,fun hc=>?_,fun e he=>?_⟩
  .obtain⟨x,hx,hxe⟩:=List.mem_map.1 hc
   exact h2 (h.inj (hL x hx) h1 hxe ▸ hx)
  .have e1:(uf_ pm es)[pm.idxOf i]?=some (((es[i]?).getD []).map pm.idxOf):=by rw[uf_,zzs_,p2];rfl
   rw[e1]at he
   obtain⟨x,hx,rfl⟩:=List.mem_map.1 he
   exact List.mem_map.2 ⟨x,h3 x hx,rfl⟩
 have bwd:∀(L:List Nat),(∀x∈L,x<ops.length)->rdy es L=[]->rdy (uf_ pm es) (L.map pm.idxOf)=[]:=by
  intro L hL h0
  rw[List.eq_nil_iff_forall_not_mem]
  intro i' hi'
  obtain⟨h1,h2,h3⟩:=yp_.1 hi'
  have h1:i'<ops.length:=by rw[uf_,List.length_map,h.len]at h1;exact h1
  obtain⟨q1,q2⟩:=h.inv i' h1
  have hpi:pm[i']?=some (pm.getD i' 0):=by
   have:i'<pm.length:=by rw[h.len];exact h1
   simp[List.getD,this]
  have e1:(uf_ pm es)[i']?=some (((es[pm.getD i' 0]?).getD []).map pm.idxOf):=by rw[uf_,zzs_,hpi];rfl
  rw[e1]at h3
  have:pm.getD i' 0∈rdy es L:=yp_.2 ⟨by rw[h.elen];exact q1,fun hc=>h2 (List.mem_map.2 ⟨_,hc,q2⟩),fun e he=>by
   obtain⟨x,hx,hxe⟩:=List.mem_map.1 (h3 _ (List.mem_map.2 ⟨e,he,rfl⟩))
   exact h.inj (hL x hx) (h.dep _ e he) hxe ▸ hx⟩
  rw[h0]at this
  simp at this
 intro f
 induction f with
 | zero =>
   intro L S hL hw
   refine⟨?_,hw.2⟩
   rw[List.eq_nil_iff_forall_not_mem]
   intro i hi
   have:=fwd L i hL hi
   rw[hw.1]at this
   simp at this
 | succ f ih =>
   intro L S hL hw
   refine⟨fun h0=>hw.1 (bwd L hL h0),fun i hi o ho=>?_⟩
   have hlt:i<ops.length:=by have:=(yp_.1 hi).1;rwa [h.elen]at this
   have h1:=hw.2 _ (fwd L i hL hi) o (by
    simp only[zS_,zzs_,(h.pos hlt).2,zzz_,List.getD,ho,Option.getD_some])
   exact we_ (fun S' h'=>ih (i::L) S' (fun x hx=>by
    rcases List.mem_cons.1 hx with rfl|hx
    .exact hlt
    .exact hL x hx) h') h1
theorem zl_{ops:List AOper}{es:List (List Nat)}{K:St->Prop}{S:St}(pm:List Nat)(A:Ann)(h1:om_ pm ops.length es=true)(h2:oM_ A (zS_ pm ops) (uf_ pm es)=true)(h:WDR P A K 0 (zS_ pm ops) S):WNM P ops es S K:=by
 have hp:=ho_ h1
 have h3:=jw_ A h2 h
 have e:(zS_ pm ops).length=ops.length:=by simp[zS_,hp.len]
 rw[e]at h3
 exact lN_ hp ops.length [] S (by simp) h3
def detO(o:AOper):Bool:=match o with
 |⟨_,.call _ _,_⟩|⟨_,.callv _ _,_⟩|⟨_,.isn _ _,_⟩=>false
 |⟨_,_,some _⟩=>false
 |_=>true
theorem jy_{o:AOper}{S:St}{K1 K2:St->Prop}(hd:detO o=true)(h1:WG P o S K1)(h2:WG P o S K2):WG P o S fun S'=>K1 S'/\K2 S':=by
 obtain⟨d,op,g⟩:=o
 have hg:g=none:=by
  cases g with
  |none=>rfl
  |some x=>cases op<;>simp[detO]at hd
 subst hg
 simp only[WG]at h1 h2 ⊢
 have key:(match step S d op with|some S'=>K1 S'|none=>False)->(match step S d op with|some S'=>K2 S'|none=>False)->(match step S d op with|some S'=>K1 S'/\K2 S'|none=>False):=by
  intro a b
  cases hs:step S d op with
  |none=>rw[hs]at a;exact a
  |some S'=>rw[hs]at a b;exact⟨a,b⟩
 cases op<;>first|exact key h1 h2|(simp[detO]at hd)
theorem xa_{es:List (List Nat)}{a b:Nat}{L:List Nat}{i:Nat}(hb:b<es.length):i∈rdy (es.set b (a::(es[b]?).getD [])) L↔i∈rdy es L/\(i=b->a∈L):=by
 rw[yp_,yp_,List.length_set]
 by_cases h:i=b
 .subst h
  simp[hb]
  constructor
  .rintro⟨p,q,r⟩;exact⟨⟨p,r⟩,q⟩
  .rintro⟨⟨p,r⟩,q⟩;exact⟨p,q,r⟩
 .rw[List.getElem?_set_ne (Ne.symm h)]
  simp[h]
theorem px_{ops:List AOper}{es:List (List Nat)}{K:St->Prop}{a b:Nat}(hb:b<es.length):∀(f:Nat) (L:List Nat) (S:St),a∈L->WN P ops (es.set b (a::(es[b]?).getD [])) f L S K->WN P ops es f L S K
 |0,L,S,ha,h=>⟨by
  rw[List.eq_nil_iff_forall_not_mem]
  intro i hi
  have:=(xa_ (a:=a) hb).2 ⟨hi,fun _=>ha⟩
  rw[h.1]at this;simp at this,h.2⟩
 | f + 1, L, S, ha, h => ⟨fun h0 => h.1 (by
     rw[List.eq_nil_iff_forall_not_mem]
     intro i hi
     have:=((xa_ (a:=a) hb).1 hi).1
     rw[h0]at this;simp at this),fun i hi o ho=>we_ (fun S' h'=>px_ hb f (i::L) S' (List.mem_cons_of_mem _ ha) h') (h.2 i ((xa_ (a:=a) hb).2 ⟨hi,fun _=>ha⟩) o ho)⟩
theorem rD_{ops:List AOper}{es:List (List Nat)}{K:St->Prop}{a b:Nat}(ha:a<es.length)(hb:b<es.length)(hne:a≠b)(hd:∀o∈ops,detO o=true):∀(f:Nat) (L:List Nat) (S:St),a∉L->b∉L ->
 WN P ops (es.set b (a::(es[b]?).getD [])) f L S K->WN P ops (es.set a (b::(es[a]?).getD [])) f L S K->WN P ops es f L S K
 |0,L,S,na,nb,h1,h2=>⟨by
  rw[List.eq_nil_iff_forall_not_mem]
  intro i hi
  by_cases e:i=b
  .have:=(xa_ (a:=b) (b:=a) ha).2 ⟨hi,fun q=>absurd (q.symm.trans e) hne⟩
   rw[h2.1]at this;simp at this
  .have:=(xa_ (a:=a) hb).2 ⟨hi,fun q=>absurd q e⟩
   rw[h1.1]at this;simp at this,h1.2⟩
 | f + 1, L, S, na, nb, h1, h2 => ⟨fun h0 => h1.1 (by
     rw[List.eq_nil_iff_forall_not_mem]
     intro i hi
     have:=((xa_ (a:=a) hb).1 hi).1
     rw[h0]at this;simp at this),fun i hi o ho=>by
     by_cases eb:i=b
     .subst eb
      have:=h2.2 i ((xa_ (a:=i) (b:=a) ha).2 ⟨hi,fun q=>absurd q (Ne.symm hne)⟩) o ho
      exact we_ (fun S' h'=>px_ ha f (i::L) S' (by simp) h') this
     by_cases ea:i=a
     .subst ea
      have:=h1.2 i ((xa_ (a:=i) hb).2 ⟨hi,fun q=>absurd q hne⟩) o ho
      exact we_ (fun S' h'=>px_ hb f (i::L) S' (by simp) h') this
     have k1:=h1.2 i ((xa_ (a:=a) hb).2 ⟨hi,fun q=>absurd q eb⟩) o ho
     have k2:=h2.2 i ((xa_ (a:=b) (b:=a) ha).2 ⟨hi,fun q=>absurd q ea⟩) o ho
     refine we_ (fun S' h'=>?_) (jy_ (hd o (zzd_ ho)) k1 k2)
     exact rD_ ha hb hne hd f (i::L) S' (by simp[Ne.symm ea,na]) (by simp[Ne.symm eb,nb]) h'.1 h'.2⟩
theorem zx_{ops:List AOper}{es:List (List Nat)}{K:St->Prop}{S:St}(a b:Nat)(hc:(decide (a<es.length)&&decide (b<es.length)&&decide (a≠b)&&ops.all detO)=true)
 (h1:WNM P ops (es.set b (a::(es[b]?).getD [])) S K) (h2:WNM P ops (es.set a (b::(es[a]?).getD [])) S K):WNM P ops es S K:=by
 simp only[zzg_,zzp_,zzh_]at hc
 exact rD_ hc.1.1.1 hc.1.1.2 hc.1.2 hc.2 _ [] S (by simp) (by simp) h1 h2
end
end
section
def noL:V->V
 |.lent _ _ _ _ _=>.no
 |x=>x
def vW_:V->V
 |.ptr b o=>.ptr b o
 |_=>.no
def fgt(S:St):St:=⟨fun t=>vW_ (S.tm t),S.vs.map noL,S.bx.map (·.map noL),S.ep⟩
theorem oA_(x:V):noL x=x\/noL x=.no:=by cases x<;>first|exact .inl rfl|exact .inr rfl
theorem id_(x:V):∀d e0 e z xs,noL x≠.lent d e0 e z xs:=by intro d e0 e z xs;cases x<;>simp[noL]
theorem md_(x:V):vW_ x=x\/vW_ x=.no:=by cases x<;>first|exact .inl rfl|exact .inr rfl
section
variable{P:Program}{F:Fr}{g:Gh}{w:World}{S:St}{a:Act}
theorem iz_(h:Rel F g w S a):Rel F g w (fgt S) a/\Fw F g w S a g w (fgt S) a:=by
 have hat:∀l x,(fgt S).at l=some x->∃y,S.at l=some y/\x=noL y:=by
  intro l x hx
  cases l with
  | var i =>
    have hx:(S.vs.map noL)[i]?=some x:=hx
    rw[zzs_,zzb_]at hx
    obtain⟨y,h1,h2⟩:=hx
    exact⟨y,h1,h2.symm⟩
  | cell b o =>
    have hx:((S.bx.map (·.map noL))[b]?).bind (·[o]?)=some x:=hx
    rw[zza_]at hx
    obtain⟨cs,h1,h2⟩:=hx
    rw[zzs_,zzb_]at h1
    obtain⟨cs0,h3,rfl⟩:=h1
    rw[zzs_,zzb_]at h2
    obtain⟨y,h4,h5⟩:=h2
    exact⟨y,by simp[St.at,h3,h4],h5.symm⟩
 have hlen:(fgt S).bx.length=S.bx.length:=by simp[fgt]
 have hno:∀ {p:List Nat} {x:V},V.sub p .no=some x->x=.no:=by
  intro p x hs
  cases p<;>simp[V.sub]at hs
  exact hs.symm
 have htm:∀t p x,((fgt S).tm t).sub p=some x->x=.no\/(p=[]/\S.tm t=x/\∃b o,x=.ptr b o):=by
  intro t p x hs
  have hs:(vW_ (S.tm t)).sub p=some x:=hs
  cases e:S.tm t<;>rw[e]at hs<;>first
   |(simp only[vW_]at hs;exact .inl (hno hs))
   | (simp only [vW_] at hs
      cases p with
      |nil=>simp[V.sub]at hs;subst hs;exact .inr ⟨rfl,rfl,_,_,rfl⟩
      |cons i p=>simp[V.sub]at hs)
 have hhas:∀l x v,Has F g w (fgt S) a (.l l) x v->Has F g w S a (.l l) x v\/x=.no:=by
  intro l x v hh
  obtain⟨y,h1,h2⟩:=hat l x hh.1
  rcases oA_ y with q|q
  .rw[q]at h2;subst h2;exact .inl ⟨h1,hh.2⟩
  .rw[q]at h2;exact .inr h2
 have hnl:∀l x,(fgt S).at l=some x->∀d e0 e z xs,x≠.lent d e0 e z xs:=by
  intro l x hx d e0 e z xs
  obtain⟨y,_,rfl⟩:=hat l x hx
  exact id_ y d e0 e z xs
 have hown:∀r p k,Own F g w (fgt S) a r p k->Own F g w S a r p k:=by
  intro r p k ⟨x,v,hh,ho⟩
  cases r with
  | t t =>
    obtain⟨rfl,rfl⟩:=hh
    rcases ho with ⟨e,z,xs,u,q1,_⟩|⟨_,q,_⟩
    .rcases htm t p _ q1 with q|⟨_,_,b,o,q⟩<;>cases q
    .obtain⟨d,e,z,xs,q1,_⟩:=z3_ q
     rcases htm t [] _ (by rw[q1];rfl) with q|⟨_,_,b,o,q⟩<;>cases q
  | l l =>
    rcases ho with ho|⟨_,h2,_⟩
    .rcases hhas l x v hh with q|rfl
     .exact⟨x,v,q,.inl ho⟩
     .obtain⟨e,z,xs,u,q,_⟩:=ho
      cases hno q
    .obtain⟨d,e,z,xs,rfl,_⟩:=z3_ h2
     exact absurd rfl (hnl l _ hh.1 d _ e z xs)
 refine⟨⟨h.sz,h.dfr,?_,?_,?_,?_,?_,?_,?_,?_,?_,?_,?_,h.Ilt,?_,?_,?_,?_⟩,⟨rfl,rfl,rfl,zzl_ _,fun _ _ _=>⟨rfl,rfl⟩,fun k ho=>.inl ?_⟩⟩
 .intro r x v hh
  cases r with
  | t t =>
    obtain⟨rfl,rfl⟩:=hh
    rcases md_ (S.tm t) with q|q
    .show Rep g w (vW_ (S.tm t)) _
     rw[q];exact h.rep (.t t) _ _ ⟨rfl,rfl⟩
    .show Rep g w (vW_ (S.tm t)) _
     rw[q];exact .no
  | l l =>
    rcases hhas l x v hh with q|rfl
    .exact h.rep (.l l) x v q
    .exact .no
 .intro l x hx
  obtain⟨y,h1,_⟩:=hat l x hx
  exact h.lookv l y h1
 .intro l d e z xs v hl hv
  exact absurd rfl (hnl l _ hl d _ e z xs)
 .intro b cs hb
  have hb:(S.bx.map (·.map noL))[b]?=some cs:=hb
  rw[zzs_,zzb_]at hb
  obtain⟨cs0,h1,rfl⟩:=hb
  obtain⟨vs,ty,q1,q2,q3⟩:=h.box b cs0 h1
  exact⟨vs,ty,q1,by simpa using q2,q3⟩
 .exact fun b b' hb hb' he=>h.inj b b' (by omega) (by omega) he
 .intro r x v p b o hh hs
  rw[hlen]
  cases r with
  | t t =>
    obtain⟨rfl,rfl⟩:=hh
    rcases htm t p _ hs with q|⟨rfl,q,_⟩
    .cases q
    .exact h.ptr (.t t) _ _ [] b o ⟨rfl,rfl⟩ (by rw[q];rfl)
  | l l =>
    rcases hhas l x v hh with q|rfl
    .exact h.ptr (.l l) x v p b o q hs
    .cases hno hs
 .intro r p k ho
  obtain⟨q1,q2,q3⟩:=h.ownI r p k (hown r p k ho)
  exact⟨q1,q2,fun b hb=>q3 b (by omega)⟩
 .exact fun r p r' p' k h1 h2=>h.uniq r p r' p' k (hown r p k h1) (hown r' p' k h2)
 .intro t p x v hx hv
  rcases htm t p x hx with rfl|⟨_,_,b,o,rfl⟩<;>trivial
 .intro l x hl p
  obtain⟨y,h1,h2⟩:=hat l x hl
  rcases oA_ y with q|q
  .rw[q]at h2;subst h2;exact h.novw l x h1 p
  .rw[q]at h2;subst h2
   exact⟨fun _ _ q=>(by cases hno q),fun _ _ _ _ q=>(by cases hno q),fun _ _ _ _ q=>(by cases hno q),fun _ q=>(by cases hno q)⟩
 .intro t p d e0 e z xs hs
  rcases htm t p _ hs with q|⟨_,_,b,o,q⟩<;>cases q
 .intro t ht
  show vW_ (S.tm t)=.no
  rw[h.tmv t ht];rfl
 .intro t p x hx
  rcases htm t p x hx with rfl|⟨_,_,b,o,rfl⟩<;>exact zzn_ _
 .intro l x hx
  obtain⟨y,h1,h2⟩:=hat l x hx
  rcases oA_ y with q|q
  .rw[q]at h2;subst h2;exact h.epl l x h1
  .rw[q]at h2;subst h2;exact zzn_ _
 .intro l d e z xs v k hl
  exact absurd rfl (hnl l _ hl d _ e z xs)
 .obtain⟨r,p,ho⟩|⟨b,hb,e⟩:=ho
  .exact .inl ⟨r,p,hown r p k ho⟩
  .exact .inr ⟨b,by omega,e⟩
def endF(n:Nat)(rvs:List RV)(q:V->List (List V)->Prop)(x:AX)(S:St):Prop:=x.isEnd=true/\vn_ n rvs q (fgt S)
@[simp] theorem endF_ret (n:Nat) (rvs:List RV) (q:V->List (List V)->Prop) (S:St):endF n rvs q .ret S=ob (rvVs (fgt S) rvs) (retA n (fgt S) q):=by simp[endF,AX.isEnd,vy_]
@[simp] theorem endF_normal (n:Nat) (rvs:List RV) (q:V->List (List V)->Prop) (S:St):endF n rvs q .normal S=ob (rvVs (fgt S) rvs) (retA n (fgt S) q):=by simp[endF,AX.isEnd,vy_]
theorem iX_{f:FuncId}{fn:Func}{c:Code}(hf:P.funcs[f]?=some fn)(hb:fn.body=some c)(hm:P.follows .mixedOrders=true)(hF:F.ok)(hdf:F.df=[])(hN:F.N=fn.ntmps){ac:ACode}(hc:comp P F c=some (zh_ ac))(hla:z9_ ac=true){rvs:List RV}(hr:ww_ P F fn.results.toList=some rvs)(hr6:fn.results.size<=6)
 {args:List V} {bs:List (List V)} (hle:args.length<=F.N) (hsv:F.sv.take args.length=List.range args.length) {Q:V->List (List V)->Prop}
 (hw:W P F bs.length ac (St0 F args bs) (endF bs.length rvs Q)):AC P f args bs Q:=by
 intro g w vals hbd
 obtain⟨h0,ho0⟩:=wI_ (F:=F) hbd hdf hle hsv
 refine calls_of_wp hf hb ?_
 rw[<-hN]
 have hrch:Rch F bs.length g w (St0 F args bs) ⟨vals++Array.replicate (F.N-vals.size) undef,[]⟩ g w (St0 F args bs) ⟨vals++Array.replicate (F.N-vals.size) undef,[]⟩:=⟨h0,Fw.refl _ _ _ _ _,zzl_ _,fun _ _=>rfl⟩
 refine w_ok hF hm ac c hc hla hrch hw fun x S' g' w' a' ⟨hx,hq⟩ hr'=>?_
 obtain⟨f1,f2⟩:=iz_ hr'.rel
 have main:a'.defers=[]/\∃v,(results fn a'.tmps).run P w'=.ok v w'/\∃v' r bs' g'',Ending.returned v=.returned v'/\Q r bs'/\okV r=true/\Bd g'' w' [r] #[v'] bs'/\Ext g w (OwnB g w args vals bs) g'' w' (OwnB g'' w' [r] #[v'] bs') bs.length:=by
  refine⟨hr'.rel.dfr.trans hdf,?_⟩
  unfold vn_ at hq
  split at hq
  .next ys ls hrv =>
   obtain⟨m,hnm,hex,hQ⟩:=hq
   obtain⟨vs,lss,e1,e2,e3,rfl,e5,e6⟩:=gots f1 hr hrv
   obtain⟨k1,k2,k3⟩:=tr_ f1 (by omega) (by omega) hex e6
   refine⟨packV vs.toArray,xx_ (rs:=fn.results.toList) (by simp) (by simpa using hr6) e1 e5,_,pack ys,(fgt S').bx.take m,g',rfl,hQ,k1,k2,?_⟩
   have hfw:=hr'.fw.trans f2
   refine⟨hfw.os,hfw.tape,hfw.output,hfw.size,fun k hk ho=>hfw.same k hk (fun h=>ho (ho0 k h)),fun k ho=>?_,hr'.phi⟩
   rcases hfw.owned k (k3 k ho) with q|q
   .exact .inl (ho0 k q)
   .exact .inr q
  .exact hq.elim
 cases x with
 |normal=>exact main
 |ret=>exact main
 |exit id=>simp[AX.isEnd]at hx
 |goto l=>simp[AX.isEnd]at hx
theorem jn_{f np:Nat}{ac:ACode}{rvs:List RV}(h:ze_ P f F=some (np,zh_ ac,rvs)/\z9_ ac=true)(hm:P.follows .mixedOrders=true){args:List V}(hl:args.length=np){bs:List (List V)}{Q:V->List (List V)->Prop}
 (hw:W P F bs.length ac (St0 F args bs) (endF bs.length rvs Q)):AC P f args bs Q:=by
 obtain⟨h,hla⟩:=h
 unfold ze_ at h
 split at h
 .next fn hf =>
  split at h
  .next c hb =>
   split at h
   .next hcond =>
    simp only[zzg_,zzp_,beq_iff_eq]at hcond
    obtain⟨⟨⟨⟨h1,h2⟩,h3⟩,h4⟩,h5⟩:=hcond
    have h2':fn.ntmps=F.N:=yyq_ h2
    simp only[zza_]at h
    obtain⟨a,hc,r,hr,h⟩:=h
    simp only[yya_,yyc_]at h
    obtain⟨rfl,rfl,rfl⟩:=h
    exact iX_ hf hb hm (q9_ h1) (ov_ h1) h2'.symm hc hla hr h5 (by omega) (by rw[hl];exact h4) hw
   .cases h
  .cases h
 .cases h
end
end
end Go.Proofs.Ytpfjlnmnolbiaaa
