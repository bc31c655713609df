/- Parts of the proof of a law of chapter 30, put behind one another. -/
import Derived.Test.YtnbppaolinopeaaZA
set_option linter.unusedVariables false
set_option maxHeartbeats 64000000
set_option maxRecDepth 100000
set_option linter.unusedSimpArgs false
namespace Go.Proofs.Ytnbppaolinopeaa
open Go.RowKit Go.Proofs
section
theorem vE_(y:V):cellsOf (toImm y)=(cellsOf y).map immL:=by
 cases y<;>simp[toImm,cellsOf,immL]
theorem r2_{xs:List V}{z i:Nat}{y:V}(h:∀x∈xs,(cellsOf x).length=z)(hi:i<xs.length)(hy:(cellsOf y).length=z):flat (xs.set i y)=x3_ (flat xs) (i*z) (cellsOf y):=by
 unfold x3_
 rw[wr_ h,hy,show i*z+z=(i+1)*z by rw[yyn_,Nat.one_mul],xL_ h]
 have:xs.set i y=xs.take i++y::xs.drop (i+1):=by
  rw[List.set_eq_take_append_cons_drop,if_pos hi]
 rw[this,yT_]
 simp[flat]
theorem pf_(f:V->V)(cs new:List V)(off:Nat):(x3_ cs off new).map f=x3_ (cs.map f) off (new.map f):=by
 simp[x3_,List.map_take,List.map_drop]
section
variable{P:Program}{F:Fr}{g:Gh}{w:World}{S:St}{a:Act}
theorem vW_{z:Nat}:∀(is:List Nat) (ys xs xs' cs:List V),(∀x∈xs,(cellsOf x).length=z)->flat xs=cs.map immL->sets xs is (ys.map toImm) z=some xs' ->
 ∃cs',vA_ cs (is.map fun i=>(i*z,z)) ys=some cs'/\flat xs'=cs'.map immL/\(∀x∈xs',(cellsOf x).length=z)/\xs'.length=xs.length
 | [], ys, xs, xs', cs, hz, hf, hs => by
   cases ys with
   |nil=>simp[sets]at hs;subst hs;exact⟨cs,by simp[vA_],hf,hz,rfl⟩
   |cons y r=>simp[sets]at hs
 | i :: is, ys, xs, xs', cs, hz, hf, hs => by
   cases ys with
   |nil=>simp[sets]at hs
   | cons y r =>
     simp only[List.map_cons,sets]at hs
     split at hs
     .next hc =>
      obtain⟨c1,c2⟩:=hc
      have hcy:(cellsOf y).length=z:=by rw[vE_]at c2;simpa using c2
      have hz':∀x∈xs.set i (toImm y),(cellsOf x).length=z:=by
       intro x hx
       rcases List.mem_or_eq_of_mem_set hx with q|q
       .exact hz x q
       .rw[q];exact c2
      have hff:flat (xs.set i (toImm y))=(x3_ cs (i*z) (cellsOf y)).map immL:=by
       rw[r2_ hz c1 c2,hf,vE_,pf_]
      obtain⟨cs',r1,r2,r3,r4⟩:=vW_ is r _ xs' _ hz' hff hs
      refine⟨cs',?_,r2,r3,by simpa using r4⟩
      have hlen:i*z+z<=cs.length:=by
       have h1:=zd_ hz
       have h2:cs.length=xs.length*z:=by rw[<-h1,hf];simp
       have:=yyg_ z (show i+1<=xs.length by omega)
       rw[yyn_]at this
       omega
      simp only[List.map_cons,vA_]
      rw[if_pos ⟨hcy,hlen⟩]
      exact r1
     .cases hs
theorem Filled.freeze(h:Rel F g w S a){tm1:Nat->V}(hless:∀t,Less (tm1 t) (S.tm t))(htv:∀t∈F.sv,tm1 t=S.tm t){cs:List V}{vs:List Value}(hf:Filled F g w S a tm1 cs vs) :
 ∃g',Rel F g' w { S with tm:=tm1 } a/\Fw F g w S a g' w { S with tm:=tm1 } a/\g'.φ=g.φ/\∀(c:Nat) (x:V) (u:Value),cs[c]?=some x->vs[c]?=some u->Rep g' w (immL x) u:=by
 have key:∀n,n<=cs.length->∃g',Rel F g' w { S with tm:=tm1 } a/\g'.φ=g.φ/\(∀k,g'.I k≠g.I k->g.I k=0/\∃(c e z:Nat) (xs:List V) (u:Value),c<n/\cs[c]?=some (.own true e z xs)/\vs[c]?=some u/\rb u=some k) /\
  (∀(c:Nat) (x:V) (u:Value),c<n->cs[c]?=some x->vs[c]?=some u->Rep g' w (immL x) u):=by
  intro n
  induction n with
  |zero=>intro _;exact⟨g,h.less hless htv,rfl,fun k hk=>absurd rfl hk,fun c x u hc=>by omega⟩
  | succ n ih =>
    intro hn
    obtain⟨g1,r1,r2,r3,r4⟩:=ih (by omega)
    have hl:=hf.len
    have hx:cs[n]?=some cs[n]:=zzf_ (by omega)
    have hu:vs[n]?=some (vs[n]'(by omega)):=zzf_ (by omega)
    obtain⟨k1,k2,k3,k4⟩:=hf.cell n _ _ hx hu
    have hI1:∀b o,o<g.I b->o<g1.I b/\w.cell? ⟨b,o,none⟩=w.cell? ⟨b,o,none⟩:=by
     intro b o ho
     refine⟨?_,rfl⟩
     by_cases he:g1.I b=g.I b
     .omega
     .have:=(r3 b he).1;omega
    have hrep1:Rep g1 w cs[n] (vs[n]'(by omega)):=k1.keep hI1 (fun _ _ _=>rfl) (fun _ _ _ _=>by rw[r2])
    by_cases hown:∃e z xs,cs[n]=.own true e z xs
    .obtain⟨e,z,xs,hxe⟩:=hown
     rw[hxe]at hrep1
     rcases hrep1.freeze with ⟨_,q⟩|⟨k,m,hk,q⟩
     .refine⟨g1,r1,r2,fun k' hk'=>?_,fun c x u hc hx' hu'=>?_⟩
      .obtain⟨a1,c,e',z',xs',u',a2,a3⟩:=r3 k' hk'
       exact⟨a1,c,e',z',xs',u',by omega,a3⟩
      .rcases Nat.lt_succ_iff_lt_or_eq.1 hc with hc'|rfl
       .exact r4 c x u hc' hx' hu'
       .rw[hx]at hx';cases hx'
        rw[hu]at hu';cases hu'
        rw[hxe];exact q
     .rw[hxe]at hx
      obtain⟨⟨r,q',k5⟩,k6⟩:=hf.own n e z xs _ k hx hu hk
      obtain⟨k7,k8,k9⟩:=h.ownI _ _ _ k5.own
      have hI0:g1.I k=0:=by
       by_cases he:g1.I k=g.I k
       .omega
       .obtain⟨_,c,e',z',xs',u',a2,a3,a4,a5⟩:=r3 k he
        have:=hf.inj c n e' z' e z xs' xs u' _ k a3 a4 a5 hx hu hk
        omega
      have hno:∀r p,¬Own F g1 w { S with tm:=tm1 } a r p k:=by
       intro r p ho
       refine k6 r p ?_
       obtain⟨x,v,hh,ho⟩:=ho
       refine⟨x,v,?_,ho⟩
       cases r with
       |t t=>exact hh
       | l l =>
         refine⟨hh.1,?_⟩
         rw[<-hh.2]
         cases l with
         |var i=>rfl
         |cell b o=>simp only[z8_,r2]
      have hfz:=r1.freeze m k8 hI0 hno (fun b hb=>by rw[r2];exact k9 b hb)
      refine⟨g1.frz k m,hfz,r2,fun k' hk'=>?_,fun c x u hc hx' hu'=>?_⟩
      .by_cases hkk:k'=k
       .subst hkk
        exact⟨k7,n,e,z,xs,_,by omega,hx,hu,hk⟩
       .simp only[Gh.frz,if_neg hkk]at hk'
        obtain⟨a1,c,e',z',xs',u',a2,a3⟩:=r3 k' hk'
        exact⟨a1,c,e',z',xs',u',by omega,a3⟩
      .rcases Nat.lt_succ_iff_lt_or_eq.1 hc with hc'|rfl
       .refine(r4 c x u hc' hx' hu').keep (fun b o ho=>⟨?_,rfl⟩) (fun _ _ _=>rfl) (fun _ _ _ _=>rfl)
        simp only[Gh.frz]
        split
        .next e=>subst e;omega
        .exact ho
       .rw[hx]at hx';cases hx'
        rw[hu]at hu';cases hu'
        exact q hI0
    .have him:Rep g1 w (immL cs[n]) (vs[n]'(by omega)):=qm_ (hf.gl cs[n] (yyp_ _)) hown hrep1
     refine⟨g1,r1,r2,fun k' hk'=>?_,fun c x u hc hx' hu'=>?_⟩
     .obtain⟨a1,c,e',z',xs',u',a2,a3⟩:=r3 k' hk'
      exact⟨a1,c,e',z',xs',u',by omega,a3⟩
     .rcases Nat.lt_succ_iff_lt_or_eq.1 hc with hc'|rfl
      .exact r4 c x u hc' hx' hu'
      .rw[hx]at hx';cases hx'
       rw[hu]at hu';cases hu'
       exact him
 obtain⟨g',r1,r2,r3,r4⟩:=key cs.length (zzl_ _)
 refine⟨g',r1,⟨rfl,rfl,rfl,zzl_ _,fun k _ ho=>⟨rfl,?_⟩,fun k ho=>.inl ?_⟩,r2,fun c x u hx hu=>r4 c x u (zzc_.1 hx).1 hx hu⟩
 .by_cases he:g'.I k=g.I k
  .exact he
  .obtain⟨_,c,e',z',xs',u',_,a3,a4,a5⟩:=r3 k he
   obtain⟨⟨r,q',k5⟩,_⟩:=hf.own c e' z' xs' u' k a3 a4 a5
   exact absurd (.inl ⟨r,q',k5.own⟩) ho
 .rcases ho with ⟨r,p,ho⟩|⟨b,hb,e⟩
  .refine .inl ⟨r,p,zf_ hless h.notl ?_⟩
   obtain⟨x,v,hh,ho⟩:=ho
   refine⟨x,v,?_,ho⟩
   cases r with
   |t t=>exact hh
   | l l =>
     refine⟨hh.1,?_⟩
     rw[<-hh.2]
     cases l with
     |var i=>rfl
     |cell b o=>simp only[z8_,r2]
  .exact .inr ⟨b,hb,by rw[<-r2];exact e⟩
theorem sL_{z:Nat}:∀(parts:List (Nat×Operand)) (ps:List (Nat×Opd)),vs_ F parts=some ps->wk_ F (fun i=>some (i*z,z)) parts=some (ps.map fun p=>(p.1*z,z,p.2))
 |[],ps,h=>by simp[vs_]at h;subst h;rfl
 | (i, x) :: r, ps, h => by
   simp only[vs_,zza_]at h
   obtain⟨y,h1,q,h2,h3⟩:=h
   injection h3 with h3
   subst h3
   simp[wk_,h1,sL_ r q h2]
theorem li_(h:Rel F g w S a){o:Oper}{t e:TypeId}{n z:Nat}{parts:Array (Nat×Operand)}{zv:Value}{ps:List (Nat×Opd)}{d:Nat}(ho:o.op=.buildSlice t n parts)(ht:P.underlying t=some (.slice e))(hsz:sizeT P e=some z)(hz:wX_ P e=some zv)(hps:vs_ F parts.toList=some ps)
 (hd:d<F.N) (hdv:d∉F.sv) {ys xs:List V} {tm1:Nat->V} (hk:takes S S.tm (ps.map (·.2))=some (ys,tm1)) (hs:sets (List.replicate n (wW_ zv)) (ps.map (·.1)) (ys.map toImm) z=some xs) (hz0:0<z) (hsm:n*z<=16777216) (hrow:∀u∈flat xs,immC u=true):QEnds P F g w S a o d (.own true e z xs) tm1:=by
 obtain⟨i,hi,hz',hs',h1⟩:=yn_ hz
 have hiz:i.size=z:=by unfold sizeT at hsz;rw[hi]at hsz;simpa using hsz
 have hzc:zv.cells.size=z:=by omega
 have hrz:∀x∈List.replicate n (wW_ zv),(cellsOf x).length=z:=by
  intro x hx
  rw[List.eq_of_mem_replicate hx,wW_,wv_]
  simp[hzc]
 -- the zero row
 let zs:List Value:=(madeCells zv.cells (n*z)).toList
 have hzs1:∀c∈zs,c.oneCell'=true:=by
  intro c hc
  obtain⟨j,hj,rfl⟩:=List.getElem_of_mem hc
  have hjn:j<n*z:=by simpa[zs,madeCells] using hj
  have:=uu_ zv.cells (n*z) j hjn (by omega)
  simp only[zs,Array.getElem_toList]
  rw[Array.getElem?_eq_getElem (by simpa[madeCells] using hjn)]at this
  injection this with this
  rw[this]
  exact h1 _ (by simp)
 have hflat0:flat (List.replicate n (wW_ zv))=(zs.map V.s).map immL:=by
  apply List.ext_getElem?
  intro j
  have hfl:=zd_ hrz
  simp only[List.length_replicate]at hfl
  rcases yym_ j (n*z) with hj|hj
  .have hq:j/z<n:=Nat.div_lt_of_lt_mul (by rw[Nat.mul_comm];exact hj)
   have hx:(List.replicate n (wW_ zv))[j/z]?=some (wW_ zv):=by simp[hq]
   have hm:j%z<z:=Nat.mod_lt _ hz0
   have hg:=xU_ hrz hx hm
   rw[Nat.mul_comm,Nat.div_add_mod]at hg
   rw[hg,wW_,wv_]
   have:=uu_ zv.cells (n*z) j hj (by omega)
   simp only[zs,zzs_,Array.getElem?_toList,this,hzc]
   have hm':j%z<zv.cells.size:=by omega
   simp[hm',immL]
  .rw[List.getElem?_eq_none (by omega),List.getElem?_eq_none (by simp[zs,madeCells];omega)]
 obtain⟨cs,f1,f2,f3,f4⟩:=vW_ (z:=z) (ps.map (·.1)) ys _ xs (zs.map V.s) hrz hflat0 hs
 obtain⟨vs',r1,r2,r3,r4⟩:=uC_ h parts.toList _ S.tm tm1 (zs.map V.s) cs ys zs (sL_ parts.toList ps hps) (fun t=>Less.refl _) (fun _ _=>rfl) (Filled.zero _ hzs1) (by simpa[List.map_map,Function.comp_def] using hk) (by simpa[List.map_map,Function.comp_def] using f1)
 obtain⟨g1,k1,k2,k3,k4⟩:=Filled.freeze h r3 r4 r2
 have hxl:xs.length=n:=by simpa using f4
 have hfl:=zd_ f3
 have hvl:vs'.length=n*z:=by
  have:=r2.len
  have h2:(flat xs).length=cs.length:=by rw[f2];simp
  rw[hxl]at hfl
  omega
 rcases yyo_ n with hn0|hn0
 .subst hn0
  have hx0:xs=[]:=yyj_ hxl
  subst hx0
  have hpe:parts.toList=[]:=by
   cases hpp:ps with
   | nil => cases hpt : parts.toList with
     |nil=>rfl
     | cons p r =>
       rw[hpt]at hps
       obtain⟨i,x⟩:=p
       simp only[vs_,zza_]at hps
       obtain⟨_,_,_,_,q⟩:=hps
       rw[hpp]at q
       cases q
   | cons p r =>
     rw[hpp]at hs hk
     simp only[List.map_cons]at hs
     cases ys with
     |nil=>simp[sets]at hs
     |cons y r'=>simp[sets]at hs
  have hrun:(execOp a.eval o).run P w=.ok (.value (.slice (some ⟨w.heap.size,0,none⟩) 0 0)) (w.alloc (.cells #[] e)):=by
   have hp0:parts=#[]:=by apply Array.toList_inj.1;rw[hpe]
   subst hp0
   simp[execOp,ho,Instr.buildSlice,run_underlying ht,sizeOf,typeInfo,hi,newRow,Instr.fill,Array.range_zero']
  have ha:=k1.alloc (.cells #[] e)
  refine⟨_,_,hrun,Ends.of (k2.trans (sY_ k1 _)) (fun b _=>by rw[k3]) (zzl_ _) (xM_ ha hd hdv e z (some ⟨w.heap.size,0,none⟩))⟩
 .have hnz:¬n*i.size=0:=by rw[hiz];have:=Nat.mul_pos hn0 hz0;omega
  have hr:=run_buildSlice (P:=P) w t e n (parts.map fun (p:Nat×Operand)=>(p.1,a.eval p.2)) vs'.toArray i zv ht hi hz' (by rw[hiz];omega) hnz (by
   rw[hiz]
   have e1:(parts.map fun (p:Nat×Operand)=>(p.1,a.eval p.2)).toList=parts.toList.map fun p=>(p.1,a.eval p.2):=by simp
   rw[e1]
   have e2:(Array.range (n*z)).map (zv.cells[·%zv.cells.size]!)=zs.toArray:=by
    show _=(madeCells zv.cells (n*z)).toList.toArray
    rw[Array.toArray_toList]
    rfl
   rw[e2]
   exact r1)
  have hrun:(execOp a.eval o).run P w=.ok (.value (.slice (some ⟨w.heap.size,0,none⟩) n n)) (w.alloc (.cells vs'.toArray e)):=by
   simp only[execOp,ho]
   rw[Sem.run_bind,hr]
   simp
  refine⟨_,_,hrun,Ends.of k2 (fun b _=>by rw[k3]) (zzl_ _) ?_⟩
  have hIa:∀b q,q<g1.I b->q<g1.I b/\(w.alloc (.cells vs'.toArray e)).cell? ⟨b,q,none⟩=w.cell? ⟨b,q,none⟩:=fun b q hq=>⟨hq,yyb_ (a:=⟨b,q,none⟩) (Below.heap_alloc w _ b (k1.Ilt b (by omega)))⟩
  have hml:n<=maxLen:=by
   have:n<=n*z:=Nat.le_mul_of_pos_right n hz0
   simp only[maxLen];omega
  have hrep:Rep g1 (w.alloc (.cells vs'.toArray e)) (.own true e z xs) (.slice (some ⟨w.heap.size,0,none⟩) xs.length n):=by
   refine .own (fun j=>vs'.getD j undef) hn0 (by omega) hml (heap_alloc_new w _) (by simp[hvl]) f3 hrow (fun j hj=>?_) (fun j u hu=>?_)
   .have:j<vs'.length:=by rw[hxl]at hfl;omega
    simp[List.getD,this]
   .have hum:=hrow u (zzd_ hu)
    have hj:j<vs'.length:=by have:=(zzc_.1 hu).1;rw[hxl]at hfl;omega
    rw[f2,zzs_]at hu
    cases hc:cs[j]? with
    |none=>rw[hc]at hu;cases hu
    | some x =>
      rw[hc]at hu
      simp at hu
      subst hu
      have hvj:vs'.getD j undef=vs'[j]:=by simp[List.getD,hj]
      rw[hvj]
      refine(k4 j x vs'[j] hc (zzf_ hj)).keep hIa (fun p k ho=>?_) (fun _ _ _ _=>rfl)
      obtain⟨e',z',xs',_,q1,_⟩:=ho
      generalize immL x=y at hum q1
      cases p with
      |nil=>simp[V.sub]at q1;subst q1;simp[immC]at hum
      |cons i p=>cases y<;>simp[V.sub]at q1<;>simp[immC]at hum
  have key:=r4_ (cap:=n) k1 (tm1:=tm1) (fun t=>Less.refl _) (fun _ _=>rfl) hd hdv hrep
  simpa[hxl] using key
theorem mi_{o:Oper}{d e z:Nat}{xs:List V}{tm1:Nat->V}{b:Bool}(hq:QEnds P F g w S a o d (.own true e z xs) tm1)(hd:d<F.N)(hdv:d∉F.sv):QEnds P F g w S a o d (if b then .list z xs else .own true e z xs) tm1:=by
 cases b with
 |false=>exact hq
 | true =>
   obtain⟨v,w',h1,g1,h2,h3,h4⟩:=hq
   obtain⟨g2,k1,k2,k3⟩:=yN_ h2 hdv hd (e:=e) (z:=z) (xs:=xs) (by simp[zm_])
   refine⟨v,w',h1,g2,?_,h3.trans ?_,fun b hb=>(k3 b hb).trans (h4 b hb)⟩
   .have e1:upd (upd tm1 d (.own true e z xs)) d (.list z xs)=upd tm1 d (.list z xs):=by funext t;simp[upd];split<;>rfl
    simpa[e1] using k1
   .have e1:upd (upd tm1 d (.own true e z xs)) d (.list z xs)=upd tm1 d (.list z xs):=by funext t;simp[upd];split<;>rfl
    simpa[e1] using k2
end
end
section
section
variable{P:Program}{F:Fr}{g:Gh}{w:World}{S S':St}{a:Act}
structure Free(F:Fr)(g:Gh)(w:World)(S:St)(a:Act)(y:V)(v:Value):Prop where
 rep:Rep g w y v
 st:ze_ y=true
 one:v.oneCell'=true
 ptr:∀b o,y=.ptr b o->b<S.bx.length
 own:∀k m,(∃e z xs,y=.own true e z xs/\m=xs.length*z)->rb v=some k->g.I k=0/\k<w.heap.size/\(∀b,b<S.bx.length->g.φ b≠k)/\(∀r p,¬Own F g w S a r p k) /\
  ∀l d e z xs v',S.at l=some (.lent d S.ep e z xs)->z8_ F g w a l=some v'->rb v'=some k->xs.length*z<=m
theorem yi_{l:Loc}{y:V}(hp:S.place l y=some S'):ze_ y=true/\∃old,S.at l=some old/\S'.tm=S.tm/\S'.ep=(if locky old=true then S.ep+1 else S.ep)/\S'.bx.length=S.bx.length/\(∀l',S'.at l'=if l'=l then some y else S.at l')/\(∀(b:Nat) (cs:List V),S'.bx[b]?=some cs->∃cs0,S.bx[b]?=some cs0/\cs.length=cs0.length):=by
 cases l with
 | var i =>
   simp only[St.place]at hp
   split at hp
   .next old ho =>
    split at hp
    .cases hp
    next hst =>
    cases hp
    refine⟨by simpa using hst,old,ho,rfl,rfl,rfl,fun l'=>?_,fun b cs hb=>⟨cs,hb,rfl⟩⟩
    have hi:=(zzc_.1 ho).1
    cases l' with
    | var j =>
      simp only[St.at,List.getElem?_set]
      by_cases hj:i=j
      .subst hj;simp[hi]
      .have:(Loc.var j)≠.var i:=fun e=>hj (by injection e with e;exact e.symm)
       simp[hj,this]
    |cell b o=>simp[St.at]
   .cases hp
 | cell b o =>
   simp only[St.place]at hp
   split at hp
   .next cs hcs =>
    split at hp
    .next old ho =>
     split at hp
     .cases hp
     next hst =>
     cases hp
     have hb:=(zzc_.1 hcs).1
     have hoo:=(zzc_.1 ho).1
     refine⟨by simpa using hst,old,by simp[St.at,hcs,ho],rfl,rfl,by simp,fun l'=>?_,fun b' cs' hb'=>?_⟩
     .cases l' with
      |var j=>simp[St.at]
      | cell b' o' =>
        simp only[St.at,List.getElem?_set]
        by_cases h1:b=b'
        .subst h1
         simp only[if_true,hb,zzt_,List.getElem?_set]
         by_cases h2:o=o'
         .subst h2;simp[hoo]
         .have:(Loc.cell b o')≠.cell b o:=fun e=>h2 (by injection e with _ e;exact e.symm)
          simp[h2,this,hcs]
        .have:(Loc.cell b' o')≠.cell b o:=fun e=>h1 (by injection e with e _;exact e.symm)
         simp[h1,this]
     .simp only[List.getElem?_set]at hb'
      split at hb'
      .next e=>subst e;simp at hb';subst hb';exact⟨cs,hcs,by simp⟩
      .exact⟨cs',hb',rfl⟩
    .cases hp
   .cases hp
theorem qB_(h:Rel F g w S a)(hF:F.ok){i t:Nat}{y:V}{v:Value}(hi:F.sv[i]?=some t)(hf:Free F g w S a y v)(hp:S.place (.var i) y=some S'):Rel F g w S' (a.put (some t) v)/\∀r p k,Own F g w S' (a.put (some t) v) r p k->((∃e z xs,y=.own true e z xs)/\rb v=some k)\/Own F g w S a r p k:=by
 obtain⟨_,old,ho,htm,hep,hlen,hat,hbx⟩:=yi_ hp
 have ht:t∈F.sv:=zzd_ hi
 have htN:t<a.tmps.size:=by rw[h.sz];exact hF.lt t ht
 refine h.place_core (fun _=>False) (tm1:=S.tm) (fun t=>Less.refl _) (fun _ _=>rfl) ho hf.rep hf.st hf.ptr (fun k ⟨e,z,xs,hy⟩ hk=>?_) (fun k m hy hk=>(hf.own k m hy hk).2.2.2.2) htm hep hlen hat (fun l' x hx=>?_) (fun ⟨b,o,e⟩=>by cases e) (fun t' ht'=>?_) (by simp[Act.put]) rfl (fun _ _ _=>rfl) (fun _ _ _=>rfl) (fun k hk=>hk.elim) rfl (fun b cs hb=>?_)
 .obtain⟨q1,q2,q3,q4,_⟩:=hf.own k _ ⟨e,z,xs,hy,rfl⟩ hk
  exact⟨q1,q2,q3,fun r p' _=>q4 r p'⟩
 .cases l' with
  |cell b o=>simp[z8_]
  | var j =>
    by_cases hj:j=i
    .subst hj
     simp[z8_,hi,yw_ htN]
    .have hne:(Loc.var j)≠.var i:=fun e=>hj (by injection e)
     rw[if_neg hne]
     simp only[z8_]
     cases hjs:F.sv[j]? with
     |none=>rfl
     | some t' =>
       have:t'≠t:=fun e=>hj (hF.inj j i t (by rw[hjs,e]) hi)
       simp[yw_ htN,this]
 .rw[yw_ htN,if_neg (fun e=>ht' (by rw[e];exact ht))]
 .obtain⟨cs0,q1,q2⟩:=hbx b cs hb
  obtain⟨vs,ty,q3,q4,q5⟩:=h.box b cs0 q1
  exact⟨vs,ty,q3,by omega,q5⟩
theorem xh_{w:World}{k o:Nat}{cur:Array Value}{ty:TypeId}{v:Value}(h:w.heap[k]?=some (.cells cur ty (0,0))):(w.setCell ⟨k,o,none⟩ v).heap[k]?=some (.cells (cur.setIfInBounds o v) ty (0,0)):=by
 rw[setCell_eq_setRow w k o cur ty (0,0) v h]
 exact setRow_heap w k cur _ ty (0,0) h
theorem u4_(h:Rel F g w S a){b o:Nat}{y:V}{v:Value}(hf:Free F g w S a y v)(hp:S.place (.cell b o) y=some S'):(Rel F g (w.setCell ⟨g.φ b,o,none⟩ v) S' a/\∀r p k,Own F g (w.setCell ⟨g.φ b,o,none⟩ v) S' a r p k->((∃e z xs,y=.own true e z xs)/\rb v=some k)\/Own F g w S a r p k)/\(w.cell? ⟨g.φ b,o,none⟩).isSome=true/\w.frozen? ⟨g.φ b,o,none⟩=false:=by
 obtain⟨_,old,ho,htm,hep,hlen,hat,hbx⟩:=yi_ hp
 have hcs:∃cs,S.bx[b]?=some cs/\cs[o]?=some old:=by
  simp only[St.at,zza_]at ho
  exact ho
 obtain⟨cs,hcs,hco⟩:=hcs
 obtain⟨vs,ty,q1,q2,q3⟩:=h.box b cs hcs
 have hbl:b<S.bx.length:=(zzc_.1 hcs).1
 have hov:o<vs.size:=by rw[q2];exact(zzc_.1 hco).1
 have hoth:∀k,k≠g.φ b->(w.setCell ⟨g.φ b,o,none⟩ v).heap[k]?=w.heap[k]?:=fun k hk=>Below.heap_setCell w ⟨g.φ b,o,none⟩ v k hk
 have hrow:=xh_ (o:=o) (v:=v) q1
 refine⟨h.place_core (fun _=>False) (tm1:=S.tm) (fun t=>Less.refl _) (fun _ _=>rfl) ho ?_ hf.st hf.ptr (fun k ⟨e,z,xs,hy⟩ hk=>?_) (fun k m hy hk=>(hf.own k m hy hk).2.2.2.2) htm hep hlen hat (fun l' x hx=>?_) (fun _=>hf.one) (fun _ _=>rfl) rfl rfl (fun b' o' hI=>?_) (fun k hk _=>?_) (fun k hk=>hk.elim) (World.size_setCell _ _ _) (fun b' cs' hb'=>?_),?_,?_⟩
 .refine hf.rep.keep (fun b' o' hI=>⟨hI,yyb_ (a:=⟨b',o',none⟩) (hoth b' (fun e=>by subst e;omega))⟩) (fun p k ho'=>?_) (fun _ _ _ _=>rfl)
  obtain⟨k1,k2,k3⟩:=yx_ hf.st ho'
  obtain⟨e,z,xs,hy⟩:=k2
  exact hoth k (fun e'=>(hf.own k _ ⟨e,z,xs,hy,rfl⟩ k3).2.2.1 b hbl e'.symm)
 .obtain⟨q1,q2,q3,q4,_⟩:=hf.own k _ ⟨e,z,xs,hy,rfl⟩ hk
  exact⟨q1,q2,q3,fun r p' _=>q4 r p'⟩
 .cases l' with
  |var j=>simp[z8_]
  | cell b' o' =>
    simp only[z8_]
    by_cases hb':b'=b
    .subst hb'
     rw[yt_ hrow]
     by_cases ho':o'=o
     .subst ho';simp[hov]
     .have hne:(Loc.cell b' o')≠.cell b' o:=fun e=>ho' (by injection e)
      rw[if_neg hne,yt_ q1,Array.getElem?_setIfInBounds,if_neg (fun e=>ho' e.symm)]
    .have hne:(Loc.cell b' o')≠.cell b o:=fun e=>hb' (by injection e)
     rw[if_neg hne]
     have hb'l:b'<S.bx.length:=by
      rw[<-hlen]
      simp only[St.at,zza_]at hx
      obtain⟨c,hc,_⟩:=hx
      exact(zzc_.1 hc).1
     exact yyb_ (a:=⟨g.φ b',o',none⟩) (hoth _ (fun e=>hb' (h.inj b' b hb'l hbl e)))
 .exact yyb_ (a:=⟨b',o',none⟩) (hoth b' (fun e=>by subst e;omega))
 .exact hoth k (fun e=>hk b hbl e.symm)
 .obtain⟨cs0,k1,k2⟩:=hbx b' cs' hb'
  by_cases hbb:b'=b
  .subst hbb
   rw[hcs]at k1
   cases k1
   exact⟨_,ty,hrow,by simp;omega,q3⟩
  .obtain⟨vs',ty',q3',q4',q5'⟩:=h.box b' cs0 k1
   have hb'l:=(zzc_.1 k1).1
   exact⟨vs',ty',(hoth _ (fun e=>hbb (h.inj b' b hb'l hbl e))).trans q3',by omega,q5'⟩
 .rw[yt_ q1];simp[hov]
 .simp[World.frozen?,q1]
end
end
section
section
variable{P:Program}{F:Fr}{g:Gh}{w:World}{S S':St}{a:Act}
theorem Took.free{tm1:Nat->V}{y:V}{v:Value}(h:Rel F g w S a)(ht:Took F g w S a tm1 y v)(hst:ze_ y=true):Free F g w { S with tm:=tm1 } a y v:=by
 have hlf:leaf y=true:=by cases y<;>simp[ze_]at hst<;>rfl
 have hone:v.oneCell'=true:=ty_ (by cases y<;>simp[ze_]at hst<;>rfl) ht.rep
 have hat:∀l,({ S with tm:=tm1 }:St).at l=S.at l:=fun l=>by cases l<;>rfl
 refine⟨ht.rep,hst,hone,fun b o e=>ht.ptr [] b o (by rw[e];rfl),fun k m ⟨e,z,xs,hy,hm⟩ hk=>?_⟩
 obtain⟨⟨r,q,k1⟩,k2⟩:=ht.own [] k m ⟨e,z,xs,v,by rw[hy];rfl,rfl,hk,hm⟩
 obtain⟨k3,k4,k5⟩:=h.ownI _ _ _ k1.own
 exact⟨k3,k4,k5,k2,fun l d e z xs v' h1 h2 h3=>h.lentl l d e z xs v' k ((hat l) ▸ h1) h2 h3 r q m k1⟩
def sn_(P:Program)(F:Fr)(g:Gh)(w:World)(S:St)(a:Act)(o:Oper)(S':St):Prop :=
 ∃r v w',(execOp a.eval o).run P w=.ok r w'/\(r=.value v\/(r=.skip/\v=undef))/\Ends F g w S a S' (a.put o.dst v) w'
theorem l5_(h:Rel F g w S a)(hF:F.ok){o:Oper}{x:Operand}{q:Opd}{i t:Nat}(ho:o.op=.assign x)(hdst:o.dst=some t)(hi:F.sv[i]?=some t)(hx:opd F x=some q){y:V}{tm1:Nat->V}(hk:ym_ S S.tm q=some (y,tm1))(hp:({ S with tm:=tm1 }:St).place (.var i) y=some S'):sn_ P F g w S a o S':=by
 have ht:=rh_ h hx hk
 have hst:=(yi_ hp).1
 have h1:=h.less ht.less ht.tv
 obtain⟨h2,h3⟩:=qB_ h1 hF hi (ht.free h hst) hp
 refine⟨.value (a.eval x),a.eval x,w,by simp[execOp,ho],.inl rfl,g,by rw[hdst];exact h2,?_,fun _ _=>rfl⟩
 have hlen:=(yi_ hp).2
 obtain⟨_,_,_,_,hl,_⟩:=hlen
 refine⟨rfl,rfl,rfl,zzl_ _,fun _ _ _=>⟨rfl,rfl⟩,fun k hk=>.inl ?_⟩
 rcases hk with ⟨r,p,hk⟩|⟨b,hb,e⟩
 .rw[hdst]at hk
  rcases h3 r p k hk with ⟨⟨e,z,xs,hy⟩,hrb⟩|q
  .obtain⟨⟨r,q,k1⟩,_⟩:=ht.own [] k _ ⟨e,z,xs,_,by rw[hy];rfl,rfl,hrb,rfl⟩
   exact .inl ⟨r,q,k1.own⟩
  .exact .inl ⟨r,p,zf_ ht.less h.notl q⟩
 .rw[hl]at hb
  exact .inr ⟨b,hb,e⟩
theorem Free.step(h:Rel F g w S a){b o:Nat}{y0 y:V}{u0 u:Value}(hf0:Free F g w S a y0 u0)(hf:Free F g w S a y u)(hp:S.place (.cell b o) y0=some S')
 (hne:∀k,(∃e z xs,y0=.own true e z xs)->rb u0=some k->(∃e z xs,y=.own true e z xs)->rb u≠some k):Free F g (w.setCell ⟨g.φ b,o,none⟩ u0) S' a y u:=by
 obtain⟨_,old,ho,htm,hep,hlen,hat,hbx⟩:=yi_ hp
 obtain⟨⟨h1,h2⟩,_,_⟩:=u4_ h hf0 hp
 have hbl:b<S.bx.length:=by
  simp only[St.at,zza_]at ho
  obtain⟨c,hc,_⟩:=ho
  exact(zzc_.1 hc).1
 have hoth:∀k,k≠g.φ b->(w.setCell ⟨g.φ b,o,none⟩ u0).heap[k]?=w.heap[k]?:=fun k hk=>Below.heap_setCell w ⟨g.φ b,o,none⟩ u0 k hk
 have hown:=hf.own
 refine⟨hf.rep.keep (fun b' o' hI=>⟨hI,yyb_ (a:=⟨b',o',none⟩) (hoth b' (fun e=>?_))⟩) (fun p k ho'=>?_) (fun _ _ _ _=>rfl),hf.st,hf.one,fun b' o' e=>by rw[hlen];exact hf.ptr b' o' e,fun k m hy hk=>?_⟩
 .subst e
  have:=(zU_ h hbl).2
  omega
 .obtain⟨q1,q2,q3⟩:=yx_ hf.st ho'
  obtain⟨e,z,xs,hy⟩:=q2
  exact hoth k (fun e'=>(hown k _ ⟨e,z,xs,hy,rfl⟩ q3).2.2.1 b hbl e'.symm)
 .obtain⟨k1,k2,k3,k4,k5⟩:=hown k m hy hk
  obtain⟨e,z,xs,hy,hm⟩:=hy
  refine⟨k1,by simpa using k2,fun b' hb'=>k3 b' (hlen ▸ hb'),fun r p ho'=>?_,fun l d' e' z' xs' v' hl hv hr=>?_⟩
  .rcases h2 r p k ho' with ⟨q1,q2⟩|q
   .exact hne k q1 q2 ⟨e,z,xs,hy⟩ hk
   .exact k4 r p q
  ·have hll:l≠.cell b o:=by
    intro e1
    subst e1
    rw[hat,if_pos rfl]at hl
    injection hl with hl
    subst hl
    have:=hf0.st
    simp[ze_]at this
   have hl0:S.at l=some (.lent d' S'.ep e' z' xs'):=by rw[hat l,if_neg hll]at hl;exact hl
   have hee:S'.ep=S.ep:=by
    have:=h.epl l _ hl0
    simp only[epOf]at this
    rw[hep]at this ⊢
    split
    .next hlk=>rw[if_pos hlk]at this;omega
    .rfl
   rw[hee]at hl0
   refine k5 l d' e' z' xs' v' hl0 ?_ hr
   rw[<-hv]
   cases l with
   |var i=>rfl
   | cell b' o' =>
     simp only[z8_]
     by_cases hbb:b'=b
     .subst hbb
      have hcs:∃cs,S.bx[b']?=some cs:=by
       simp only[St.at,zza_]at ho
       obtain⟨c,hc,_⟩:=ho
       exact⟨c,hc⟩
      obtain⟨cs,hcs⟩:=hcs
      obtain⟨vs,ty,q1,_,_⟩:=h.box b' cs hcs
      rw[yt_ (xh_ q1),yt_ q1,Array.getElem?_setIfInBounds,if_neg (fun e=>hll (by rw[e]))]
     ·have hb'l:b'<S.bx.length:=by
       simp only[St.at,zza_]at hl0
       obtain⟨c,hc,_⟩:=hl0
       exact(zzc_.1 hc).1
      exact(yyb_ (a:=⟨g.φ b',o',none⟩) (hoth _ (fun e=>hbb (h.inj b' b hb'l hbl e)))).symm
theorem tg_:∀(ys:List V) (us:List Value) (b o i:Nat) (w:World) (S S':St),Rel F g w S a->ys.length=us.length->(∀(c:Nat) (y:V) (u:Value),ys[c]?=some y->us[c]?=some u->ze_ y=true->Free F g w S a y u) ->
 (∀(c c':Nat) (e z e' z':Nat) (xs xs':List V) (u u':Value) (k:Nat),ys[c]?=some (.own true e z xs)->us[c]?=some u->rb u=some k->ys[c']?=some (.own true e' z' xs')->us[c']?=some u'->rb u'=some k->c=c') ->
 S.places b (o+i) ys=some S'->∃w',(storeCells ⟨g.φ b,o,none⟩ us i).run P w=.ok () w'/\Rel F g w' S' a/\w'.os=w.os/\w'.tape=w.tape/\w'.output=w.output/\w'.heap.size=w.heap.size/\(∀k,k≠g.φ b->w'.heap[k]?=w.heap[k]?)/\S'.bx.length=S.bx.length /\
  (∀r p k,Own F g w' S' a r p k->(∃(c e z:Nat) (xs:List V) (u:Value),ys[c]?=some (.own true e z xs)/\us[c]?=some u/\rb u=some k)\/Own F g w S a r p k)
 | [], us, b, o, i, w, S, S', h, hl, hfr, hinj, hp => by
   cases us with
   | nil =>
     simp[St.places]at hp
     subst hp
     exact⟨w,by simp[storeCells],h,rfl,rfl,rfl,rfl,fun _ _=>rfl,rfl,fun r p k ho=>.inr ho⟩
   |cons _ _=>simp at hl
 | y :: ys, us, b, o, i, w, S, S', h, hl, hfr, hinj, hp => by
   cases us with
   |nil=>simp at hl
   | cons u us =>
     simp only[St.places,zza_]at hp
     obtain⟨S1,hp1,hp2⟩:=hp
     have hst:=(yi_ hp1).1
     have hf0:=hfr 0 y u rfl rfl hst
     obtain⟨⟨h1,h2⟩,hc1,hc2⟩:=u4_ h hf0 hp1
     have hrun1:(store ((⟨g.φ b,o,none⟩:Addr).add i) u).run P w=.ok () (w.setCell ⟨g.φ b,o+i,none⟩ u):=by
      rw[zJ_,run_store P w _ u _ hf0.one]
      obtain⟨c,hc⟩:=Option.isSome_iff_exists.1 hc1
      simp[hc,hc2]
     obtain⟨w2,r1,r2,r3,r4,r5,r6,r7,r8,r9⟩:=tg_ ys us b o (i+1) _ S1 S' h1 (by simpa using hl) (fun c y' u' hy' hu' hst'=>Free.step h hf0 (hfr (c+1) y' u' (by simpa using hy') (by simpa using hu') hst') hp1 (fun k ⟨e,z,xs,q1⟩ q2 ⟨e',z',xs',q3⟩ q4=>by
      have:=hinj 0 (c+1) e z e' z' xs xs' u u' k (by simp[q1]) rfl q2 (by simp[hy',q3]) (by simpa using hu') q4
      omega)) (fun c c' e z e' z' xs xs' u1 u2 k q1 q2 q3 q4 q5 q6=>by
      have:=hinj (c+1) (c'+1) e z e' z' xs xs' u1 u2 k (by simpa using q1) (by simpa using q2) q3 (by simpa using q4) (by simpa using q5) q6
      omega) (by rw[<-Nat.add_assoc];exact hp2)
     refine⟨w2,by simp[storeCells,hrun1,r1],r2,r3,r4,r5,by rw[r6];simp,fun k hk=>(r7 k hk).trans (Below.heap_setCell w ⟨g.φ b,o+i,none⟩ u k hk),?_,fun r p k ho=>?_⟩
     .obtain⟨_,_,_,_,_,hlen,_⟩:=yi_ hp1
      rw[r8,hlen]
     .rcases r9 r p k ho with ⟨c,e,z,xs,u',q1,q2,q3⟩|q
      .exact .inl ⟨c+1,e,z,xs,u',by simpa using q1,by simpa using q2,q3⟩
      .rcases h2 r p k q with ⟨⟨e,z,xs,q1⟩,q2⟩|q
       .exact .inl ⟨0,e,z,xs,u,by simp[q1],rfl,q2⟩
       .exact .inr q
end
end
section
section
variable{P:Program}{F:Fr}{g:Gh}{w:World}{S S':St}{a:Act}
theorem w2_{tm1:Nat->V}{y:V}{v:Value}(ht:Took F g w S a tm1 y v):Filled F g w S a tm1 (cellsOf y) v.cells.toList:=by
 obtain⟨hlen,hcells⟩:=wy_ ht
 refine⟨by omega,fun c x u hx hu=>?_,fun c e z xs u k hx hu hk=>?_,fun c c' e z e' z' xs xs' u u' k hx hu hk hx' hu' hk'=>?_⟩
 .obtain⟨p,k1,k2,k3,k4,k5,_⟩:=hcells c x u hx hu
  exact⟨k5,k3,k4,fun b o e=>ht.ptr p b o (e ▸ k1)⟩
 .obtain⟨p,k1,k2,_⟩:=hcells c _ u hx hu
  exact ht.own p k _ ⟨e,z,xs,u,k1,k2,hk,rfl⟩
 .obtain⟨p,k1,k2,_,_,_,k3⟩:=hcells c _ u hx hu
  obtain⟨p',k1',k2',_,_,_,k3'⟩:=hcells c' _ u' hx' hu'
  have hpp:=ht.inj p p' k ⟨e,z,xs,u,k1,k2,hk⟩ ⟨e',z',xs',u',k1',k2',hk'⟩
  rcases k3 with rfl|⟨rfl,hna⟩<;>rcases k3' with h2|⟨h2,hna'⟩
  .rw[h2]at hpp;injection hpp
  .rw[h2]at hpp;cases hpp
  .rw[h2]at hpp;cases hpp
  .have hc1:cellsOf y=[y]:=by cases y<;>first|rfl|exact absurd rfl (hna _)
   rw[hc1]at hx hx'
   cases c<;>cases c'<;>simp at hx hx' ⊢
def Gh.box(g:Gh)(n k:Nat):Gh:={ g with φ:=fun b=>if b=n then k else g.φ b }
theorem Rel.addbox(h:Rel F g w S a){tm1:Nat->V}(hless:∀t,Less (tm1 t) (S.tm t))(htv:∀t∈F.sv,tm1 t=S.tm t){cs:List V}{vs:List Value}(hf:Filled F g w S a tm1 cs vs)(hst:∀x∈cs,ze_ x=true)(ty:TypeId) :
 Rel F (g.box S.bx.length w.heap.size) (w.alloc (.cells vs.toArray ty)) { S with tm:=tm1,bx:=S.bx++[cs] } a/\Fw F g w S a (g.box S.bx.length w.heap.size) (w.alloc (.cells vs.toArray ty)) { S with tm:=tm1,bx:=S.bx++[cs] } a:=by
 have h1:=(h.less hless htv).alloc (.cells vs.toArray ty)
 have hblk:∀k,k<w.heap.size->(w.alloc (.cells vs.toArray ty)).heap[k]?=w.heap[k]?:=fun k hk=>Below.heap_alloc w _ k hk
 have hnew:(w.alloc (.cells vs.toArray ty)).heap[w.heap.size]?=some (.cells vs.toArray ty (0,0)):=heap_alloc_new w _
 have hφ:∀b,b<S.bx.length->(g.box S.bx.length w.heap.size).φ b=g.φ b:=fun b hb=>by simp only[Gh.box];rw[if_neg (by omega)]
 have hφn:(g.box S.bx.length w.heap.size).φ S.bx.length=w.heap.size:=by simp[Gh.box]
 have hatv:∀i,({ S with tm:=tm1,bx:=S.bx++[cs] }:St).at (.var i)=S.at (.var i):=fun _=>rfl
 have hato:∀b o,b<S.bx.length->({ S with tm:=tm1,bx:=S.bx++[cs] }:St).at (.cell b o)=S.at (.cell b o):=fun b o hb=>by simp only[St.at];rw[zzo_ hb]
 have hatn:∀o,({ S with tm:=tm1,bx:=S.bx++[cs] }:St).at (.cell S.bx.length o)=cs[o]?:=fun o=>by simp[St.at]
 have hat0:∀l,({ S with tm:=tm1 }:St).at l=S.at l:=fun l=>by cases l<;>rfl
 -- a place is old or new
 have hcase:∀l x,({ S with tm:=tm1,bx:=S.bx++[cs] }:St).at l=some x->(S.at l=some x/\z8_ F (g.box S.bx.length w.heap.size) (w.alloc (.cells vs.toArray ty)) a l=z8_ F g (w.alloc (.cells vs.toArray ty)) a l)\/(∃o,l=.cell S.bx.length o/\cs[o]?=some x/\z8_ F (g.box S.bx.length w.heap.size) (w.alloc (.cells vs.toArray ty)) a l=vs[o]?):=by
  intro l x hx
  cases l with
  |var i=>exact .inl ⟨hx,rfl⟩
  | cell b o =>
    rcases Nat.lt_trichotomy b S.bx.length with hb|hb|hb
    .rw[hato b o hb]at hx
     exact .inl ⟨hx,by simp only[z8_,hφ b hb]⟩
    .subst hb
     rw[hatn]at hx
     refine .inr ⟨o,rfl,hx,?_⟩
     simp only[z8_,hφn]
     rw[yt_ hnew]
     simp
    .simp only[St.at,zza_]at hx
     obtain⟨c,hc,_⟩:=hx
     rw[List.getElem?_eq_none (by simp;omega)]at hc
     cases hc
 have hrepφ:∀ {x:V} {v:Value},Rep g (w.alloc (.cells vs.toArray ty)) x v->(∀p b o,x.sub p=some (.ptr b o)->b<S.bx.length)->Rep (g.box S.bx.length w.heap.size) (w.alloc (.cells vs.toArray ty)) x v:=fun hr hp =>
  hr.keep (fun b o hI=>⟨hI,rfl⟩) (fun _ _ _=>rfl) (fun p b o hs=>hφ b (hp p b o hs))
 have hgl:=hf.gl
 have hcellr:∀(o:Nat) (x:V) (u:Value),cs[o]?=some x->vs[o]?=some u->Rep (g.box S.bx.length w.heap.size) (w.alloc (.cells vs.toArray ty)) x u:=by
  intro o x u hx hu
  obtain⟨k1,k2,k3,k4⟩:=hf.cell o x u hx hu
  have hsx:=hst x (zzd_ hx)
  refine k1.keep (fun b q hq=>⟨hq,yyb_ (a:=⟨b,q,none⟩) (hblk b (h.Ilt b (by omega)))⟩) (fun p k ho=>?_) (fun p b o' hs=>?_)
  .obtain⟨_,⟨e,z,xs,hy⟩,q3⟩:=yx_ hsx ho
   subst hy
   obtain⟨⟨r,q,k5⟩,_⟩:=hf.own o e z xs u k hx hu q3
   exact hblk k (h.ownI _ _ _ k5.own).2.1
  .obtain⟨_,q⟩:=zT_ hsx hs
   exact hφ b (k4 b o' q.symm)
 have hown1:∀r p k,Own F (g.box S.bx.length w.heap.size) (w.alloc (.cells vs.toArray ty)) { S with tm:=tm1,bx:=S.bx++[cs] } a r p k ->
  (∃o e z xs u,r=.l (.cell S.bx.length o)/\p=[]/\cs[o]?=some (.own true e z xs)/\vs[o]?=some u/\rb u=some k)\/Own F g (w.alloc (.cells vs.toArray ty)) { S with tm:=tm1 } a r p k:=by
  intro r p k ⟨x,v,hh,ho⟩
  cases r with
  |t t=>exact .inr ⟨x,v,hh,ho⟩
  | l l =>
    rcases hcase l x hh.1 with ⟨q1,q2⟩|⟨o,rfl,q1,q2⟩
    .exact .inr ⟨x,v,⟨(hat0 l).trans q1,q2 ▸ hh.2⟩,ho⟩
    .have hu:vs[o]?=some v:=by rw[<-q2];exact hh.2
     have hsx:=hst x (zzd_ q1)
     rcases ho with ho|⟨_,ho,_⟩
     .obtain⟨e1,⟨e,z,xs,hy⟩,e3⟩:=yx_ hsx ho
      subst hy
      exact .inl ⟨o,e,z,xs,v,rfl,e1,q1,hu,e3⟩
     .obtain⟨d',e,z,xs,e1,_⟩:=z4_ ho
      subst e1
      simp[ze_]at hsx
 have hownS:∀r p k,Own F g (w.alloc (.cells vs.toArray ty)) { S with tm:=tm1 } a r p k->Own F g w { S with tm:=tm1 } a r p k:=fun r p k ho=>wn_ (h.less hless htv) ho
 refine⟨⟨h.sz,h.dfr,?_,?_,?_,?_,?_,?_,?_,?_,?_,?_,h1.notl,?_,h1.tmv,h1.ept,?_,?_⟩,?_⟩
 .intro r x v hh
  cases r with
  |t t=>exact hrepφ (h1.rep (.t t) x v hh) (fun p b o hs=>h1.ptr (.t t) x v p b o hh hs)
  | l l =>
    rcases hcase l x hh.1 with ⟨q1,q2⟩|⟨o,rfl,q1,q2⟩
    .have hh':Has F g (w.alloc (.cells vs.toArray ty)) { S with tm:=tm1 } a (.l l) x v:=⟨(hat0 l).trans q1,q2 ▸ hh.2⟩
     exact hrepφ (h1.rep (.l l) x v hh') (fun p b o hs=>h1.ptr (.l l) x v p b o hh' hs)
    .exact hcellr o x v q1 (by rw[<-q2];exact hh.2)
 .intro l x hl
  rcases hcase l x hl with ⟨q1,q2⟩|⟨o,rfl,q1,q2⟩
  .rw[q2]
   exact h1.lookv l x ((hat0 l).trans q1)
  .have ho:o<vs.length:=by rw[hf.len];exact(zzc_.1 q1).1
   refine⟨vs[o],by rw[q2];exact zzf_ ho,fun _=>(hf.cell o x vs[o] q1 (zzf_ ho)).2.1⟩
 .intro l d e z xs v hl hv
  rcases hcase l _ hl with ⟨q1,q2⟩|⟨o,rfl,q1,q2⟩
  .rw[q2]at hv
   obtain⟨r1,r2⟩:=h1.lentr l d e z xs v ((hat0 l).trans q1) hv
   refine⟨hrepφ r1 (fun p b o hs=>by cases p<;>simp[V.sub]at hs),fun k hk b hb=>?_⟩
   simp only[zzr_,List.length_cons,List.length_nil]at hb
   rcases yym_ b S.bx.length with hb'|hb'
   .rw[hφ b hb'];exact r2 k hk b hb'
   .have:b=S.bx.length:=by omega
    subst this
    rw[hφn]
    have hl0:S.at l=some (.lent d S.ep e z xs):=q1
    have hv0:z8_ F g w a l=some v:=by
     rw[<-hv]
     exact(y3_ (S:=S) hl0 (fun _ _=>rfl) (fun b hb=>hblk _ (zU_ h hb).1)).symm
    have:=yL_ (h.lentr l d e z xs v hl0 hv0).1 hk
    omega
  .have:=hst _ (zzd_ q1)
   simp[ze_]at this
 .intro b cs' hb
  rcases yym_ b S.bx.length with hb'|hb'
  .rw[zzo_ hb']at hb
   rw[hφ b hb']
   exact h1.box b cs' hb
  .have hbl:b<(S.bx++[cs]).length:=(zzc_.1 hb).1
   simp only[zzr_,List.length_cons,List.length_nil]at hbl
   have:b=S.bx.length:=by omega
   subst this
   simp at hb
   subst hb
   rw[hφn]
   refine⟨vs.toArray,ty,hnew,by simp[hf.len],?_⟩
   rcases yyo_ (g.I w.heap.size) with q|q
   .exact q
   .have:=h.Ilt _ q;omega
 .intro b b' hb hb' he
  simp only[zzr_,List.length_cons,List.length_nil]at hb hb'
  rcases yym_ b S.bx.length with q|q<;>rcases yym_ b' S.bx.length with q'|q'
  .rw[hφ b q,hφ b' q']at he;exact h.inj b b' q q' he
  .have:b'=S.bx.length:=by omega
   subst this
   rw[hφ b q,hφn]at he
   have:=(zU_ h q).1
   omega
  .have:b=S.bx.length:=by omega
   subst this
   rw[hφ b' q',hφn]at he
   have:=(zU_ h q').1
   omega
  .omega
 .intro r x v p b o hh hs
  simp only[zzr_,List.length_cons,List.length_nil]
  cases r with
  |t t=>have:=h1.ptr (.t t) x v p b o hh hs;simp only at this;omega
  | l l =>
    rcases hcase l x hh.1 with ⟨q1,q2⟩|⟨o',rfl,q1,q2⟩
    .have:=h1.ptr (.l l) x v p b o ⟨(hat0 l).trans q1,q2 ▸ hh.2⟩ hs
     simp only at this
     omega
    .obtain⟨_,q⟩:=zT_ (hst x (zzd_ q1)) hs
     have:=(hf.cell o' x v q1 (by rw[<-q2];exact hh.2)).2.2.2 b o q.symm
     omega
 .intro r p k ho
  have hlen:({ S with tm:=tm1,bx:=S.bx++[cs] }:St).bx.length=S.bx.length+1:=by simp
  rcases hown1 r p k ho with ⟨o,e,z,xs,u,_,_,q1,q2,q3⟩|q
  .obtain⟨⟨r',q',k5⟩,_⟩:=hf.own o e z xs u k q1 q2 q3
   obtain⟨k1,k2,k3⟩:=h.ownI _ _ _ k5.own
   refine⟨k1,by simp;omega,fun b hb=>?_⟩
   rw[hlen]at hb
   rcases yym_ b S.bx.length with hb'|hb'
   .rw[hφ b hb'];exact k3 b hb'
   .have:b=S.bx.length:=by omega
    subst this
    rw[hφn];omega
  .obtain⟨k1,k2,k3⟩:=h1.ownI r p k q
   have k4:=((h.less hless htv).ownI r p k (hownS r p k q)).2.1
   refine⟨k1,k2,fun b hb=>?_⟩
   rw[hlen]at hb
   rcases yym_ b S.bx.length with hb'|hb'
   .rw[hφ b hb'];exact k3 b hb'
   .have:b=S.bx.length:=by omega
    subst this
    rw[hφn];omega
 .intro r p r' p' k ho ho'
  rcases hown1 r p k ho with ⟨o,e,z,xs,u,rfl,rfl,q1,q2,q3⟩|q<;>rcases hown1 r' p' k ho' with ⟨o',e',z',xs',u',rfl,rfl,q1',q2',q3'⟩|q'
  .rw[hf.inj o o' e z e' z' xs xs' u u' k q1 q2 q3 q1' q2' q3'];exact⟨rfl,rfl⟩
  .exact absurd (hownS _ _ _ q') ((hf.own o e z xs u k q1 q2 q3).2 _ _)
  .exact absurd (hownS _ _ _ q) ((hf.own o' e' z' xs' u' k q1' q2' q3').2 _ _)
  .exact h1.uniq r p r' p' k q q'
 .intro t p x v hx hv
  have h0:=h1.link t p x v hx hv
  have hrow:∀l z xs,({ S with tm:=tm1,bx:=S.bx++[cs] }:St).row l=some (z,xs)->({ S with tm:=tm1 }:St).locky l->({ S with tm:=tm1 }:St).row l=some (z,xs)/\z8_ F (g.box S.bx.length w.heap.size) (w.alloc (.cells vs.toArray ty)) a l=z8_ F g (w.alloc (.cells vs.toArray ty)) a l:=by
   intro l z xs hr ⟨y,hy,_⟩
   have hy':S.at l=some y:=(hat0 l) ▸ hy
   have hl:({ S with tm:=tm1,bx:=S.bx++[cs] }:St).at l=S.at l:=by
    cases l with
    |var i=>rfl
    | cell b o =>
      refine hato b o ?_
      simp only[St.at,zza_]at hy'
      obtain⟨c,hc,_⟩:=hy'
      exact(zzc_.1 hc).1
   refine⟨by simp only[St.row,hl,hat0]at hr ⊢;exact hr,?_⟩
   rcases hcase l y (hl.trans hy') with ⟨_,q2⟩|⟨o,rfl,_,_⟩
   .exact q2
   .simp[St.at]at hy'
  have hlk:∀l,({ S with tm:=tm1 }:St).locky l->({ S with tm:=tm1,bx:=S.bx++[cs] }:St).locky l:=by
   intro l ⟨y,hy,hly⟩
   have hy':S.at l=some y:=(hat0 l) ▸ hy
   refine⟨y,?_,hly⟩
   cases l with
   |var i=>exact hy'
   | cell b o =>
     rw[hato b o ?_]
     .exact hy'
     .simp only[St.at,zza_]at hy'
      obtain⟨c,hc,_⟩:=hy'
      exact(zzc_.1 hc).1
  cases x<;>simp only[Link]at h0 ⊢
  all_goals
   intro he
   obtain⟨q1,q2⟩:=h0 he
   refine⟨hlk _ q1,fun z xs hr=>?_⟩
   obtain⟨r1,r2⟩:=hrow _ z xs hr q1
   rw[r2]
   exact q2 z xs r1
 .intro l x hl
  rcases hcase l x hl with ⟨q1,_⟩|⟨o,rfl,q1,_⟩
  .exact h1.novw l x ((hat0 l).trans q1)
  .have hsx:=hst x (zzd_ q1)
   intro p
   refine⟨?_,?_,?_,?_⟩<;>intros<;>intro hs<;>obtain⟨_,q⟩:=zT_ hsx hs<;>subst q<;>simp[ze_]at hsx
 .intro k hk
  exact h1.Ilt k hk
 .intro l x hl
  rcases hcase l x hl with ⟨q1,_⟩|⟨o,rfl,q1,_⟩
  .exact h1.epl l x ((hat0 l).trans q1)
  .have hsx:=hst x (zzd_ q1)
   cases x<;>simp[ze_]at hsx<;>exact zzn_ _
 .intro l d e z xs v k hl hv hk r p m ⟨x,u,hh,ho⟩
  rcases hcase l _ hl with ⟨q1,q2⟩|⟨o,rfl,q1,q2⟩
  .rw[q2]at hv
   have hl0:({ S with tm:=tm1 }:St).at l=some (.lent d S.ep e z xs):=(hat0 l).trans q1
   cases r with
   |t t=>exact h1.lentl l d e z xs v k hl0 hv hk (.t t) p m ⟨x,u,hh,ho⟩
   | l l2 =>
     rcases hcase l2 x hh.1 with ⟨s1,s2⟩|⟨o2,rfl,s1,s2⟩
     .exact h1.lentl l d e z xs v k hl0 hv hk (.l l2) p m ⟨x,u,⟨(hat0 l2).trans s1,s2 ▸ hh.2⟩,ho⟩
     .have hsx:=hst x (zzd_ s1)
      have hu2:vs[o2]?=some u:=by rw[<-s2];exact hh.2
      rcases ho with ⟨e2,z2,xs2,u2,t1,t2,t3,t4⟩|⟨_,d2,e2,z2,xs2,t1,_⟩
      .obtain⟨rfl,t5⟩:=zT_ hsx t1
       simp[vsub]at t2
       subst t2
       subst t5
       obtain⟨⟨r',q',k5⟩,_⟩:=hf.own o2 e2 z2 xs2 u k s1 hu2 t3
       rw[t4]
       have hv0:z8_ F g w a l=some v:=by
        rw[<-hv]
        exact(y3_ (S:=S) q1 (fun _ _=>rfl) (fun b hb=>hblk _ (zU_ h hb).1)).symm
       exact h.lentl l d e z xs v k q1 hv0 hk r' q' _ k5
      .subst t1
       simp[ze_]at hsx
  .have:=hst _ (zzd_ q1)
   simp[ze_]at this
 .refine⟨rfl,rfl,rfl,by simp,fun k hk _=>⟨hblk k hk,rfl⟩,fun k ho=>?_⟩
  rcases ho with ⟨r,p,ho⟩|⟨b,hb,e⟩
  .rcases hown1 r p k ho with ⟨o,e,z,xs,u,_,_,q1,q2,q3⟩|q
   .obtain⟨⟨r',q',k5⟩,_⟩:=hf.own o e z xs u k q1 q2 q3
    exact .inl (.inl ⟨r',q',k5.own⟩)
   .exact .inl (.inl ⟨r,p,zf_ hless h.notl (hownS r p k q)⟩)
  .simp only[zzr_,List.length_cons,List.length_nil]at hb
   rcases yym_ b S.bx.length with hb'|hb'
   .rw[hφ b hb']at e
    exact .inl (.inr ⟨b,hb',e⟩)
   .have:b=S.bx.length:=by omega
    subst this
    rw[hφn]at e
    exact .inr (by omega)
end
end
section
section
variable{P:Program}{F:Fr}{g:Gh}{w:World}{S S':St}{a:Act}
theorem r5_(h:Rel F g w S a){tm1:Nat->V}(hless:∀t,Less (tm1 t) (S.tm t))(htv:∀t∈F.sv,tm1 t=S.tm t){cs:List V}{vs:List Value}(hf:Filled F g w S a tm1 cs vs)(hst:∀x∈cs,ze_ x=true)(ty:TypeId){d:Nat}(hd:d<F.N)(hdv:d∉F.sv) :
 Ends F g w S a { S with tm:=upd tm1 d (.ptr S.bx.length 0),bx:=S.bx++[cs] } (a.put (some d) (.pointer (some ⟨w.heap.size,0,none⟩))) (w.alloc (.cells vs.toArray ty)):=by
 obtain⟨h1,h2⟩:=h.addbox hless htv hf hst ty
 have hrep:Rep (g.box S.bx.length w.heap.size) (w.alloc (.cells vs.toArray ty)) (.ptr S.bx.length 0) (.pointer (some ⟨w.heap.size,0,none⟩)):=by
  have:(g.box S.bx.length w.heap.size).φ S.bx.length=w.heap.size:=by simp[Gh.box]
  have hr:=Rep.ptr (g:=g.box S.bx.length w.heap.size) (w:=w.alloc (.cells vs.toArray ty)) (b:=S.bx.length) (o:=0)
  rw[this]at hr
  exact hr
 have:=zl_ h1 hd hdv hrep rfl (fun b o e=>by injection e with e;subst e;simp) (zzn_ _) trivial
 refine Ends.of h2 (fun b hb=>?_) (by simp) this
 simp only[Gh.box]
 rw[if_neg (by omega)]
theorem ml_(h:Rel F g w S a){o:Oper}{e:TypeId}{z:Value}{d:Nat}(ho:o.op=.alloc e)(hdst:o.dst=some d)(hz:wX_ P e=some z)(hd:d<F.N)(hdv:d∉F.sv):sn_ P F g w S a o { S with tm:=upd S.tm d (.ptr S.bx.length 0),bx:=S.bx++[z.cells.toList.map .s] }:=by
 obtain⟨i,hi,hz',hs,h1⟩:=yn_ hz
 have hst:∀x∈z.cells.toList.map V.s,ze_ x=true:=by
  intro x hx
  simp only[List.mem_map]at hx
  obtain⟨c,_,rfl⟩:=hx
  rfl
 have he:=r5_ h (fun t=>Less.refl _) (fun _ _=>rfl) (Filled.zero S.tm h1) hst e hd hdv
 simp only[Array.toArray_toList]at he
 refine⟨.value (.pointer (some ⟨w.heap.size,0,none⟩)),_,_,?_,.inl rfl,by rw[hdst];exact he⟩
 simp[execOp,ho,Instr.alloc,zeroValue,typeInfo,hi,hz',newVar,newRow]
theorem l4_(h:Rel F g w S a){o:Oper}{e:TypeId}{x:Operand}{q:Opd}{d:Nat}(ho:o.op=.box e x)(hdst:o.dst=some d)(hx:opd F x=some q)(hd:d<F.N)(hdv:d∉F.sv){y:V}{tm1:Nat->V}(hk:ym_ S S.tm q=some (y,tm1))(hst:(cellsOf y).all ze_=true) :
 sn_ P F g w S a o { S with tm:=upd tm1 d (.ptr S.bx.length 0),bx:=S.bx++[cellsOf y] }:=by
 have ht:=rh_ h hx hk
 have he:=r5_ h ht.less ht.tv (w2_ ht) (fun x hx=>zzh_.1 hst x hx) e hd hdv
 simp only[Array.toArray_toList]at he
 refine⟨.value (.pointer (some ⟨w.heap.size,0,none⟩)),_,_,?_,.inl rfl,by rw[hdst];exact he⟩
 simp[execOp,ho,Instr.box,newVar,newRow]
theorem s_st(h:Rel F g w S a){o:Oper}{t:TypeId}{p x:Operand}{pq q:Opd}{n b off:Nat}(ho:o.op=.store t p x)(hdst:o.dst=none)(hn:sizeT P t=some n)(hp:opd F p=some pq)(hx:opd F x=some q)(hlk:z7_ S pq=.ptr b off)(hlt:off<1000000000){y:V}{tm1:Nat->V}(hk:ym_ S S.tm q=some (y,tm1))(hl:(cellsOf y).length=n)
 (hpl:({ S with tm:=tm1 }:St).places b off (cellsOf y)=some S'):sn_ P F g w S a o S':=by
 have ht:=rh_ h hx hk
 have h1:=h.less ht.less ht.tv
 have hf:=w2_ ht
 have hpr:=vw_ h hp
 rw[hlk]at hpr
 have hpv:=hpr.ptrv hlt
 have hbl:b<S.bx.length:=(y5_ h hp).ptr b off hlk
 have hfr:∀(c:Nat) (z:V) (u:Value),(cellsOf y)[c]?=some z->(a.eval x).cells.toList[c]?=some u->ze_ z=true->Free F g w { S with tm:=tm1 } a z u:=by
  intro c z u hz hu hst
  obtain⟨k1,k2,k3,k4⟩:=hf.cell c z u hz hu
  have hat:∀l,({ S with tm:=tm1 }:St).at l=S.at l:=fun l=>by cases l<;>rfl
  refine⟨k1,hst,k2,k4,fun k m ⟨e,z',xs,hy,hm⟩ hk=>?_⟩
  subst hy
  obtain⟨⟨r,q,k5⟩,k6⟩:=hf.own c e z' xs u k hz hu hk
  obtain⟨k7,k8,k9⟩:=h.ownI _ _ _ k5.own
  exact⟨k7,k8,k9,k6,fun l d e z xs v' h1 h2 h3=>by rw[hm];exact h.lentl l d e z xs v' k ((hat l) ▸ h1) h2 h3 r q _ k5⟩
 obtain⟨w',r1,r2,r3,r4,r5,r6,r7,r8,r9⟩:=tg_ (P:=P) (cellsOf y) (a.eval x).cells.toList b off 0 w _ S' h1 hf.len.symm hfr hf.inj (by simpa using hpl)
 unfold sizeT at hn
 obtain⟨i,hi,hin⟩:=zzb_.1 hn
 have hcs:(a.eval x).cells.size=i.size:=by have:=hf.len;simp at this;omega
 refine⟨.skip,undef,w',?_,.inr ⟨rfl,rfl⟩,g,by rw[hdst];exact r2,⟨r3,r4,r5,by omega,fun k hk ho'=>⟨r7 k (fun e=>ho' (.inr ⟨b,hbl,e.symm⟩)),rfl⟩,fun k ho'=>.inl ?_⟩,fun _ _=>rfl⟩
 .simp only[execOp,ho,hpv]
  simp[Instr.storeAt,Instr.sureAddr,storeVar,sizeOf,typeInfo,hi,hcs,r1]
 .rw[hdst]at ho'
  rcases ho' with ⟨r,p',ho'⟩|⟨b',hb',e⟩
  .rcases r9 r p' k ho' with ⟨c,e,z,xs,u,q1,q2,q3⟩|q'
   .obtain⟨⟨r',q'',k5⟩,_⟩:=hf.own c e z xs u k q1 q2 q3
    exact .inl ⟨r',q'',k5.own⟩
   .exact .inl ⟨r,p',zf_ ht.less h.notl q'⟩
  .rw[r8]at hb'
   exact .inr ⟨b',hb',e⟩
end
end
section
theorem ru_{old y:V}{q:Nat}{new:List V}(h:qA_ old q new=some y)(hi:∀x∈new,immC x=true):cellsOf y=x3_ (cellsOf old) q new/\q+new.length<=(cellsOf old).length:=by
 unfold qA_ at h
 split at h
 .next hq =>
  refine⟨?_,hq⟩
  split at h
  .next cs=>cases h;rfl
  .next hna =>
   have hc:cellsOf old=[old]:=by cases old<;>first|rfl|exact absurd rfl (hna _)
   rw[hc]at hq ⊢
   split at h
   .next y' hy' =>
    cases h
    rw[hy']
    -- the one cell is old or new
    have hy:y=old\/y∈new:=by
     have:y∈x3_ [old] q new:=by rw[hy'];simp
     simp only[x3_,zzw_]at this
     rcases this with (h1|h1)|h1
     .exact .inl (by simpa using List.mem_of_mem_take h1)
     .exact .inr h1
     .exact .inl (by simpa using yyl_ h1)
    rcases hy with rfl|hy
    .exact hc
    .have:=hi y hy
     cases y<;>simp[immC]at this<;>rfl
   .cases h
 .cases h
theorem tD_{cs new:List V}{off j:Nat}(h:off+new.length<=cs.length):(x3_ cs off new)[j]?=if off<=j/\j<off+new.length then new[j-off]? else cs[j]?:=by
 unfold x3_
 have l1:(cs.take off).length=off:=by simp;omega
 rcases yym_ j off with hj|hj
 .rw[zzq_,zzo_ (by omega),zzu_,if_pos hj,if_neg (by omega)]
 .rcases yym_ j (off+new.length) with hj2|hj2
  .rw[if_pos ⟨hj,hj2⟩,zzq_,zzv_ (by omega),l1,zzo_ (by omega)]
  .rw[if_neg (by omega),zzv_ (by rw[zzr_,l1];omega),zzA_]
   congr 1
   rw[zzr_,l1]
   omega
theorem wS_{cs new:List V}{off:Nat}(h:off+new.length<=cs.length):(x3_ cs off new).length=cs.length:=by
 unfold x3_
 simp
 omega
section
variable{P:Program}{F:Fr}{g:Gh}{w:World}{S S':St}{a:Act}
theorem to_{S:St}(h:zF_ S=true){l:Loc}{x:V}(hx:S.at l=some x):yG_ x=true:=by
 simp only[zF_,zzg_,zzh_]at h
 cases l with
 |var i=>exact h.1 x (zzd_ hx)
 | cell b o =>
   simp only[St.at,zza_]at hx
   obtain⟨cs,h1,h2⟩:=hx
   exact h.2 cs (zzd_ h1) x (zzd_ h2)
theorem qp_(S S':St):(reep S S').tm=S'.tm:=by unfold reep;split<;>rfl
theorem qo_(S S':St):(reep S S').vs=S'.vs:=by unfold reep;split<;>rfl
theorem qq_(S S':St):(reep S S').bx=S'.bx:=by unfold reep;split<;>rfl
theorem Rel.reep{w':World}(h1:Rel F g w S a)(c1:Rel F g w' S' a)(hno:zF_ S=true){l:Loc}{e z:Nat}{xs xs':List V}(hat:S.at l=some (.own true e z xs))(htm:S'.tm=S.tm)(hlx:xs'.length=xs.length)
 (hatS:∀l',S'.at l'=if l'=l then some (.own true e z xs') else S.at l') (hval:∀l' x,S.at l'=some x->z8_ F g w' a l'=z8_ F g w a l'):Rel F g w' { S' with ep:=S.ep } a/\∀r p k,Own F g w' { S' with ep:=S.ep } a r p k->Own F g w' S' a r p k:=by
 have nl:∀l' x,S'.at l'=some x->yG_ x=true:=by
  intro l' x hx
  rw[hatS]at hx
  split at hx
  .cases hx;rfl
  .exact to_ hno hx
 have hown:∀r p k,Own F g w' { S' with ep:=S.ep } a r p k->Own F g w' S' a r p k:=by
  rintro r p k ⟨x,v,hh,hk⟩
  refine⟨x,v,(by cases r<;>exact hh),?_⟩
  rcases hk with hk|⟨_,hl,_⟩
  .exact .inl hk
  .exfalso
   cases r with
   | t t =>
     obtain⟨rfl,_⟩:=hh
     cases hx:S'.tm t<;>simp only[hx,zi_]at hl<;>first|cases hl|exact c1.notl t [] _ _ _ _ _ (by rw[hx];rfl)
   | l l' =>
     have:=nl l' x hh.1
     cases x<;>simp[zi_,yG_]at hl this
 have hlo:∀l',S.locky l'->St.locky { S' with ep:=S.ep } l':=by
  rintro l' ⟨x,hx,hy⟩
  by_cases hll:l'=l
  .subst hll;exact⟨_,(hatS l').trans (if_pos rfl),rfl⟩
  .exact⟨x,(hatS l').trans ((if_neg hll).trans hx),hy⟩
 have hro:∀l' z' ys,St.row { S' with ep:=S.ep } l'=some (z',ys)->∃ys0,S.row l'=some (z',ys0)/\(∃x,S.at l'=some x)/\ys.length=ys0.length:=by
  intro l' z' ys hr
  have e1:St.at { S' with ep:=S.ep } l'=S'.at l':=by cases l'<;>rfl
  simp only[St.row,e1,hatS]at hr
  by_cases hll:l'=l
  .subst hll
   rw[if_pos rfl]at hr
   cases hr
   exact⟨xs,by simp[St.row,hat],⟨_,hat⟩,hlx⟩
  .rw[if_neg hll]at hr
   refine⟨ys,by simpa only[St.row] using hr,?_,rfl⟩
   cases hx:S.at l' with
   |none=>rw[hx]at hr;cases hr
   |some x=>exact⟨x,rfl⟩
 refine⟨?_,hown⟩
 refine { sz:=c1.sz,dfr:=c1.dfr,rep:=fun r x v hh=>c1.rep r x v (by cases r<;>exact hh),lookv:=fun l' x hx=>c1.lookv l' x (by cases l'<;>exact hx),lentr:=fun l' d e z xs v hx=>?_,box:=c1.box,inj:=c1.inj,ptr:=fun r x v p b o hh=>c1.ptr r x v p b o (by cases r<;>exact hh),ownI:=fun r p k ho=>c1.ownI r p k (hown r p k ho),uniq:=fun r p r' p' k ho ho'=>c1.uniq r p r' p' k (hown _ _ _ ho) (hown _ _ _ ho'),link:=fun t p x v hx hv=>?_,novw:=fun l' x hx=>c1.novw l' x (by cases l'<;>exact hx),notl:=c1.notl,Ilt:=c1.Ilt,tmv:=c1.tmv,ept:=fun t p x hx=>?_,epl:=fun l' x hx=>?_,lentl:=fun l' d e z xs v k hx=>?_ }
 .have:=nl l' _ (by cases l'<;>exact hx)
  simp[yG_]at this
 .have hlk:=h1.link t p x v (by rw[<-htm];exact hx) hv
  cases x with
  | view l' e' =>
    intro he
    obtain⟨q1,q2⟩:=hlk he
    refine⟨hlo l' q1,fun z' ys hr=>?_⟩
    obtain⟨ys0,r1,⟨x0,r2⟩,_⟩:=hro l' z' ys hr
    rw[hval l' x0 r2]
    exact q2 z' ys0 r1
  | sview l' e' lo n =>
    intro he
    obtain⟨q1,q2⟩:=hlk he
    refine⟨hlo l' q1,fun z' ys hr=>?_⟩
    obtain⟨ys0,r1,⟨x0,r2⟩,_⟩:=hro l' z' ys hr
    rw[hval l' x0 r2]
    exact q2 z' ys0 r1
  | vp l' e' i q =>
    intro he
    obtain⟨q1,q2⟩:=hlk he
    refine⟨hlo l' q1,fun z' ys hr=>?_⟩
    obtain⟨ys0,r1,⟨x0,r2⟩,r3⟩:=hro l' z' ys hr
    obtain⟨b,N,cap,x1,s1,s2,s3⟩:=q2 z' ys0 r1
    rw[hval l' x0 r2]
    have hi:i<ys.length:=by rw[r3];exact(zzc_.1 s2).1
    exact⟨b,N,cap,ys[i],s1,zzf_ hi,s3⟩
  |_=>trivial
 .exact h1.ept t p x (by rw[<-htm];exact hx)
 .have hx':S'.at l'=some x:=by cases l'<;>exact hx
  rw[hatS]at hx'
  split at hx'
  .cases hx';exact zzn_ _
  .exact h1.epl l' x hx'
 .have:=nl l' _ (by cases l'<;>exact hx)
  simp[yG_]at this
theorem mb_(h:Rel F g w S a){o:Oper}{t:TypeId}{p x:Operand}{pq q:Opd}{n i c:Nat}{l:Loc}{e z:Nat}{xs:List V}{old y':V}(ho:o.op=.store t p x)(hdst:o.dst=none)(hn:sizeT P t=some n)(hp:opd F p=some pq)(hx:opd F x=some q)(hlk:z7_ S pq=.vp l S.ep i c){y:V}{tm1:Nat->V}(hk:ym_ S S.tm q=some (y,tm1))(hl:(cellsOf y).length=n)
 (hat:S.at l=some (.own true e z xs)) (hxi:xs[i]?=some old) (hpk:qA_ old c ((cellsOf y).map immL)=some y') (him:((cellsOf y).map immL).all immC=true) (hpl:({ S with tm:=tm1 }:St).place l (.own true e z (xs.set i y'))=some S'):sn_ P F g w S a o (reep S S'):=by
 have ht:=rh_ h hx hk
 have hf:=w2_ ht
 obtain⟨g1,h1,f1,f2,f3⟩:=Filled.freeze h ht.less ht.tv hf
 have him':∀u∈(cellsOf y).map immL,immC u=true:=fun u hu=>zzh_.1 him u hu
 obtain⟨hpc,hpq⟩:=ru_ hpk him'
 simp only[List.length_map]at hpq
 have hat1:({ S with tm:=tm1 }:St).at l=some (.own true e z xs):=by rw[<-hat];cases l<;>rfl
 obtain⟨vl,hvl,hone⟩:=h1.lookv l _ hat1
 have hrow:=h1.rep (.l l) _ _ ⟨hat1,hvl⟩
 -- the pointer
 have hrow0:S.row l=some (z,xs):=by simp[St.row,hat]
 have hlnk:=(y5_ h hp).link
 rw[hlk]at hlnk
 obtain⟨_,hlnk⟩:=hlnk rfl
 obtain⟨b,N,cap0,x0,hv0,hx0,hpv⟩:=hlnk z xs hrow0
 have hvl0:z8_ F g w a l=some vl:=by
  rw[<-hvl]
  cases l with
  |var i=>rfl
  |cell b o=>simp only[z8_,f2]
 rw[hv0]at hvl0
 injection hvl0 with hvl0
 have hown0:∀k,rb vl=some k->Own F g1 w { S with tm:=tm1 } a (.l l) [] k:=fun k hk=>⟨_,_,⟨hat1,hvl⟩,.inl ⟨e,z,xs,vl,rfl,rfl,hk⟩⟩
 cases hrow with
 |own0=>simp at hxi
 | own vals h0 hc hm hh hs hz hi hcell hrep =>
   rename_i k cap cur
   simp only[Value.slice.injEq,yya_,Addr.mk.injEq]at hvl0
   obtain⟨⟨rfl,_,_⟩,_,_⟩:=hvl0
   have hrbk:rb (.slice (some ⟨b,0,none⟩) xs.length cap)=some b:=by simp[rb];omega
   have hown:=hown0 b hrbk
   obtain⟨o1,o2,o3⟩:=h1.ownI _ _ _ hown
   have hil:i<xs.length:=(zzc_.1 hxi).1
   have hoz:(cellsOf old).length=z:=hz old (zzd_ hxi)
   have hfl:=zd_ hz
   have hiz:i*z+z<=xs.length*z:=by
    have:=yyg_ z (show i+1<=xs.length by omega)
    rw[yyn_]at this
    omega
   have hcz:xs.length*z<=cap*z:=yyg_ z hc
   have hvn:(a.eval x).cells.toList.length=n:=by have:=hf.len;omega
   have hvone:∀u∈(a.eval x).cells.toList,u.oneCell'=true:=by
    intro u hu
    obtain⟨j,hj,rfl⟩:=List.getElem_of_mem hu
    exact(hf.cell j ((cellsOf y)[j]'(by omega)) _ (zzf_ (by omega)) (zzf_ hj)).2.1
   have hst:=run_storeCells_at (P:=P) b (i*z+c) e (a.eval x).cells.toList 0 cur w hh (by omega) hvone
   generalize hnc:(cur.toList.take (i*z+c+0)++(a.eval x).cells.toList++cur.toList.drop (i*z+c+0+(a.eval x).cells.toList.length)).toArray=cur' at hst
   have hcs':cur'.size=cur.size:=by
    rw[<-hnc]
    simp only[List.size_toArray,zzr_,List.length_take,List.length_drop,Array.length_toList] at *
    omega
   have hget:∀j,cur'[j]?=if i*z+c<=j/\j<i*z+c+n then (a.eval x).cells.toList[j-(i*z+c)]? else cur[j]?:=by
    intro j
    rw[<-hnc]
    simp only[Nat.add_zero,List.getElem?_toArray]
    have l1:(cur.toList.take (i*z+c)).length=i*z+c:=by simp;omega
    rcases yym_ j (i*z+c) with hj|hj
    .rw[zzq_,zzo_ (by omega),zzu_,if_pos hj,if_neg (by omega)]
     simp
    .rcases yym_ j (i*z+c+n) with hj2|hj2
     .rw[if_pos ⟨hj,hj2⟩,zzq_,zzv_ (by omega),l1,zzo_ (by omega)]
     .rw[if_neg (by omega),zzv_ (by rw[zzr_,l1];omega),zzA_]
      simp only[zzr_,l1,hvn]
      have:i*z+c+n+(j-(i*z+c+n))=j:=by omega
      rw[this]
      simp
   have hw':(w.setRow b cur').heap[b]?=some (.cells cur' e (0,0)):=setRow_heap w b cur _ e (0,0) hh
   have hoth:∀k,k≠b->(w.setRow b cur').heap[k]?=w.heap[k]?:=fun k hk=>setRow_other w b k _ hk
   -- the new row
   have hz':∀x∈xs.set i y',(cellsOf x).length=z:=by
    intro x hx
    rcases List.mem_or_eq_of_mem_set hx with q|q
    .exact hz x q
    .rw[q,hpc,wS_ (by simpa using hpq)];exact hoz
   have hy'z:(cellsOf y').length=z:=by rw[hpc,wS_ (by simpa using hpq)];exact hoz
   have hfs:=r2_ hz hil hy'z
   have hfget:∀j u,(flat (xs.set i y'))[j]?=some u->(∃j',j=i*z+c+j'/\j'<n/\((cellsOf y).map immL)[j']?=some u)\/((j<i*z+c\/i*z+c+n<=j)/\(flat xs)[j]?=some u):=by
    intro j u hu
    rw[hfs,tD_ (by omega)]at hu
    split at hu
    .next hjj =>
     rw[hpc,tD_ (by simpa using hpq)]at hu
     simp only[List.length_map,hl]at hu
     split at hu
     .next hj2=>exact .inl ⟨j-i*z-c,by omega,by omega,hu⟩
     .next hj2 =>
      refine .inr ⟨by omega,?_⟩
      have:=xU_ hz hxi (show j-i*z<z by omega)
      rw[show i*z+(j-i*z)=j by omega]at this
      rw[this]
      exact hu
    .next hjj=>exact .inr ⟨by omega,hu⟩
   have hI:∀b' o',o'<g1.I b'->o'<g1.I b'/\(w.setRow b cur').cell? ⟨b',o',none⟩=w.cell? ⟨b',o',none⟩:=fun b' o' hI=>⟨hI,yyb_ (a:=⟨b',o',none⟩) (hoth b' (fun e=>by subst e;omega))⟩
   have hkeep:∀ {x:V} {u:Value},immC x=true->Rep g1 w x u->Rep g1 (w.setRow b cur') x u:=by
    intro x u hx hr
    refine hr.keep hI (fun p k ho=>?_) (fun _ _ _ _=>rfl)
    obtain⟨_,_,_,_,q1,_⟩:=ho
    cases p with
    |nil=>simp[V.sub]at q1;subst q1;simp[immC]at hx
    |cons i p=>cases x<;>simp[V.sub]at q1<;>simp[immC]at hx
   have hi':∀u∈flat (xs.set i y'),immC u=true:=by
    intro u hu
    obtain⟨j,hj,rfl⟩:=List.getElem_of_mem hu
    rcases hfget j _ (zzf_ hj) with ⟨j',_,_,q⟩|⟨_,q⟩
    .exact him' _ (zzd_ q)
    .exact hi _ (zzd_ q)
   have hrep':Rep g1 (w.setRow b cur') (.own true e z (xs.set i y')) (.slice (some ⟨b,0,none⟩) (xs.set i y').length cap):=by
    refine .own (fun j=>cur'.getD j undef) h0 (by simpa using hc) hm hw' (by omega) hz' hi' (fun j hj=>?_) (fun j u hu=>?_)
    ·have hjl:j<cur'.size:=by
      rw[zd_ hz',List.length_set]at hj
      omega
     simp[hjl]
    .have hum:=hi' u (zzd_ hu)
     rcases hfget j u hu with ⟨j',rfl,hj',q⟩|⟨hj',q⟩
     .rw[zzs_]at q
      cases hcy:(cellsOf y)[j']? with
      |none=>rw[hcy]at q;cases q
      | some yc =>
        rw[hcy]at q
        simp at q
        subst q
        have hvj:(a.eval x).cells.toList[j']?=some ((a.eval x).cells.toList[j']'(by omega)):=zzf_ (by omega)
        have hc':cur'[i*z+c+j']?=some ((a.eval x).cells.toList[j']'(by omega)):=by
         rw[hget,if_pos ⟨by omega,by omega⟩,show i*z+c+j'-(i*z+c)=j' by omega]
         exact hvj
        have:cur'.getD (i*z+c+j') undef=(a.eval x).cells.toList[j']'(by omega):=by
         rw[Array.getD_eq_getD_getElem?,hc'];rfl
        rw[this]
        exact hkeep hum (f3 j' yc _ hcy hvj)
     .have hjf:j<(flat xs).length:=(zzc_.1 q).1
      have hc':cur'[j]?=some (vals j):=by rw[hget,if_neg (by omega)];exact hcell j hjf
      have:cur'.getD j undef=vals j:=by rw[Array.getD_eq_getD_getElem?,hc'];rfl
      rw[this]
      exact hkeep hum (hrep j u q)
   obtain⟨_,old',hold',htm,hep,hlen,hatS,hbx⟩:=yi_ hpl
   rw[hat1]at hold'
   injection hold' with hold'
   subst hold'
   simp only[List.length_set]at hrep'
   have hcore:=h1.place_core (w':=w.setRow b cur') (a':=a) (S':=S') (fun k=>k=b) (tm1:=tm1) (fun t=>Less.refl _) (fun _ _=>rfl) (l:=l) (y:=.own true e z (xs.set i y')) (v:=.slice (some ⟨b,0,none⟩) xs.length cap) hat1 hrep' rfl (fun _ _ e=>by cases e)
    (fun k _ hk=>by
     rw[hrbk]at hk
     cases hk
     refine⟨o1,o2,o3,fun r p' hr ho'=>hr ((h1.uniq _ _ _ _ _ ho' hown).1)⟩)
    (fun k m ⟨e',z',xs',hy,hm⟩ hk l' d' e2 z2 xs2 v' h1' h2' h3'=>by
     rw[hrbk]at hk
     cases hk
     injection hy with _ _ hz2 hxs
     subst hz2
     subst hxs
     rw[hm,List.length_set]
     exact h1.lentl l' d' e2 z2 xs2 v' b h1' h2' h3' (.l l) [] _ ⟨_,_,⟨hat1,hvl⟩,.inl ⟨e,z,xs,_,rfl,rfl,hrbk,rfl⟩⟩)
    htm hep hlen hatS (fun l' x' hx'=>by
     by_cases hll:l'=l
     .subst hll
      rw[if_pos rfl,<-hvl]
      cases l' with
      |var j=>rfl
      | cell b' o' =>
        simp only[z8_]
        have hb':b'<S.bx.length:=by
         simp only[St.at,zza_]at hat1
         obtain⟨cc,hcc,_⟩:=hat1
         exact(zzc_.1 hcc).1
        exact yyb_ (a:=⟨g1.φ b',o',none⟩) (hoth _ (fun e=>o3 b' hb' e))
     .rw[if_neg hll]
      rw[hatS,if_neg hll]at hx'
      cases l' with
      |var j=>rfl
      | cell b' o' =>
        simp only[z8_]
        have hb':b'<S.bx.length:=by
         simp only[St.at,zza_]at hx'
         obtain⟨cc,hcc,_⟩:=hx'
         exact(zzc_.1 hcc).1
        exact yyb_ (a:=⟨g1.φ b',o',none⟩) (hoth _ (fun e=>o3 b' hb' e)))
    (fun _=>rfl) (fun _ _=>rfl) rfl rfl (fun b' o' hI'=>(hI b' o' hI').2) (fun k _ hk=>hoth k hk)
    (fun k hk=>⟨rfl,fun r p' hr ho'=>by
     subst hk
     exact hr ((h1.uniq _ _ _ _ _ ho' hown).1)⟩)
    (by simp) (fun b' cs hb'=>by
     obtain⟨cs0,q1,q2⟩:=hbx b' cs hb'
     obtain⟨vs,ty,q3,q4,q5⟩:=h1.box b' cs0 q1
     have hbl:=(zzc_.1 q1).1
     exact⟨vs,ty,(hoth _ (fun e=>o3 b' hbl e)).trans q3,by omega,q5⟩)
   have hcr:Rel F g1 (w.setRow b cur') (reep S S') a/\∀r p k,Own F g1 (w.setRow b cur') (reep S S') a r p k->Own F g1 (w.setRow b cur') S' a r p k:=by
    unfold reep
    split
    .next hno =>
     refine Rel.reep (S:={ S with tm:=tm1 }) h1 hcore.1 hno hat1 (xs':=xs.set i y') htm (by simp) hatS (fun l' x' hx'=>?_)
     cases l' with
     |var j=>rfl
     | cell b' o' =>
       simp only[z8_]
       have hb':b'<S.bx.length:=by
        simp only[St.at,zza_]at hx'
        obtain⟨cc,hcc,_⟩:=hx'
        exact(zzc_.1 hcc).1
       exact yyb_ (a:=⟨g1.φ b',o',none⟩) (hoth _ (fun e=>o3 b' hb' e))
    .exact⟨hcore.1,fun _ _ _ h=>h⟩
   have hlen':(reep S S').bx.length=S.bx.length:=by rw[qq_];exact hlen
   obtain⟨c1,c2⟩:=hcore
   obtain⟨c1',c1o⟩:=hcr
   unfold sizeT at hn
   obtain⟨ti,hti,htin⟩:=zzb_.1 hn
   have hcsz:(a.eval x).cells.size=ti.size:=by simp at hvn;omega
   have hownS:wN_ F g w S a b:=by
    refine .inl ⟨.l l,[],_,_,⟨hat,hv0⟩,.inl ⟨e,z,xs,_,rfl,rfl,?_⟩⟩
    simp[rb]
    have:z8_ F g1 w a l=z8_ F g w a l:=by
     cases l with
     |var i=>rfl
     |cell b o=>simp only[z8_,f2]
    rw[this,hv0]at hvl
    injection hvl with hvl
    simp only[Value.slice.injEq]at hvl
    omega
   refine⟨.skip,undef,w.setRow b cur',?_,.inr ⟨rfl,rfl⟩,g1,by rw[hdst];exact c1',⟨rfl,rfl,rfl,by simp,fun k hk ho'=>⟨hoth k (fun e=>ho' (e ▸ hownS)),(f1.same k hk ho').2⟩,fun k ho'=>?_⟩,fun b _=>by rw[f2]⟩
   .simp only[execOp,ho,hpv]
    simp[Instr.storeAt,Instr.sureAddr,storeVar,sizeOf,typeInfo,hti,hcsz,hst]
   .rw[hdst]at ho'
    rcases ho' with ⟨r,p',ho'⟩|⟨b',hb',e'⟩
    .rcases c2 r p' k (c1o r p' k ho') with ⟨_,q2⟩|q'
     .rw[hrbk]at q2
      cases q2
      exact .inl hownS
     .exact f1.owned k (.inl ⟨r,p',q'⟩)
    .rw[hlen']at hb'
     exact f1.owned k (.inr ⟨b',hb',e'⟩)
end
end
section
section
variable{P:Program}{F:Fr}{g:Gh}{w:World}{S:St}{a:Act}
theorem oj_{w:World}{k n:Nat}:(∀k',k'≠k->(w.freeze ⟨k,n,none⟩ 1).heap[k']?=w.heap[k']?)/\(w.freeze ⟨k,n,none⟩ 1).heap.size=w.heap.size/\∀ad,(w.freeze ⟨k,n,none⟩ 1).cell? ad=w.cell? ad:=by
 have e1:∀k',k'≠k->(w.freeze ⟨k,n,none⟩ 1).heap[k']?=w.heap[k']?:=by
  intro k' hk
  simp only[World.freeze]
  rw[if_neg (by omega)]
  rw[yyu_,if_neg (Ne.symm hk)]
 refine⟨e1,by simp[World.freeze],fun ad=>?_⟩
 by_cases hk:ad.block=k
 .simp only[World.cell?,World.freeze]
  rw[if_neg (by omega)]
  simp only
  rw[yyu_,if_pos hk.symm,hk]
  cases w.heap[k]? with
  |none=>rfl
  |some o=>cases o<;>rfl
 .simp only[World.cell?,e1 _ hk]
theorem lh_(h:Rel F g w S a){o:Oper}{s e:TypeId}{x:Operand}{t d:Nat}(ho:o.op=.convert s s x)(hs:P.underlying s=some (.slice e))(he:P.underlying e=some (.int .u8))(hx:opd F x=some (.t t))(hd:d<F.N)(hdv:d∉F.sv)
 {e' z:Nat} {xs:List V} (hnl:zF_ S=true) (hlk:S.tm t=.own true e' z xs) (hz:0<z) (hne:xs≠[]):QEnds P F g w S a o d (.list z xs) (upd S.tm t .gone):=by
 obtain⟨rfl,ht⟩:=xo_ hx
 obtain⟨g',h1,h2,h3,h4⟩:=w7_ h ht hlk (x:=.gone) zz_ (fun p e z xs hs=>by cases p<;>simp[V.sub]at hs)
 have hr:=h.rep (.t t) _ _ ⟨rfl,rfl⟩
 rw[hlk]at hr
 generalize hv:Act.tv a t=v at hr h4
 have hev:a.eval (.tmp t)=v:=hv
 cases hr with
 |own0=>exact absurd rfl hne
 | own vals h0 hc hm hh hsz hzs hi hcell hrep =>
   rename_i k cap cur
   have hown:Own F g w S a (.t t) [] k:=⟨_,_,⟨rfl,rfl⟩,.inl ⟨e',z,xs,_,by rw[hlk];rfl,rfl,by rw[hv];simp[rb];omega⟩⟩
   obtain⟨f1,f2,f3⟩:=oj_ (w:=w) (k:=k) (n:=cur.size)
   have hIk:0<g'.I k:=by
    cases h4 with
    | list vals' hc' hm' hA' hz' hi' hcell' hrep' =>
      have hfl:=zd_ hz'
      have hpos:0<(flat xs).length:=by
       rw[hfl]
       exact Nat.mul_pos (List.length_pos_iff.2 hne) hz
      obtain⟨b,q,e1,e2,_⟩:=hcell' 0 hpos
      injection e1 with e1
      injection e1 with e1 _
      subst e1
      omega
   have hlt:k<w.heap.size:=(zzm_.1 hh).1
   have h5:Rel F g' (w.freeze ⟨k,cur.size,none⟩ 1) { S with tm:=upd S.tm t .gone } a:=by
    refine h1.grow (fun b o' hb=>⟨hb,f3 _⟩) (fun _ _=>rfl) (fun b hb=>?_) (fun r p k' hk'=>?_) (fun l d' e0 z0 xs0 v0 hl hv0=>?_) (by rw[f2];exact zzl_ _) (fun k' hk'=>by rw[f2];exact h1.Ilt k' hk')
    .obtain⟨q1,q2⟩:=zU_ h1 hb
     exact⟨f1 _ (fun e=>by rw[e]at q2;omega),q2⟩
    .obtain⟨q1,q2,_⟩:=h1.ownI r p k' hk'
     exact⟨f1 _ (fun e=>by rw[e]at q1;omega),q1⟩
    .exfalso
     simp only[zF_,zzg_,zzh_]at hnl
     cases l with
     | var i =>
       have:=hnl.1 _ (zzd_ (show S.vs[i]?=some _ from hl))
       simp[yG_]at this
     | cell b o' =>
       simp only[St.at,zza_]at hl
       obtain⟨cs,k1,k2⟩:=hl
       have:=hnl.2 cs (zzd_ k1) _ (zzd_ k2)
       simp[yG_]at this
   refine⟨_,w.freeze ⟨k,cur.size,none⟩ 1,?_,Ends.of (g1:=g') (w1:=w.freeze ⟨k,cur.size,none⟩ 1) (S1:={ S with tm:=upd S.tm t .gone }) (a1:=a) ?_ (fun b _=>by rw[h3]) (zzl_ _) (zl_ h5 hd hdv (h4.keep (fun b o' hb=>⟨hb,f3 _⟩) (fun p k' ⟨_,_,_,_,q1,_⟩=>by cases p<;>simp[V.sub]at q1) (fun p b o' hs'=>by cases p<;>simp[V.sub]at hs')) rfl (fun b o he=>by cases he) (zzn_ _) trivial)⟩
   .simp[execOp,ho,convert,run_underlying hs,run_underlying he,hev,markStringish,World.shape?,hh]
   ·exact⟨by simp[World.freeze],by simp[World.freeze],by simp[World.freeze],by rw[f2];exact zzl_ _,fun k' hk' hno=>⟨f1 _ (fun e=>hno (.inl ⟨_,_,e ▸ hown⟩)),(h2.same k' hk' hno).2⟩,fun k' hk'=>by
     refine h2.owned k' ?_
     rcases hk' with ⟨r,p,x,u,hh',ho'⟩|q
     .refine .inl ⟨r,p,x,u,?_,ho'⟩
      cases r with
      |t t'=>exact hh'
      | l l =>
        refine⟨hh'.1,?_⟩
        rw[<-hh'.2]
        cases l with
        |var i=>rfl
        |cell b o'=>simp only[z8_,f3]
     .exact .inr q⟩
end
end
section
theorem on_{k:LK}{x y:V}{b:Bool}(h:eqC k x y=some b):∃u v,x=.s u/\y=.s v:=by
 unfold eqC at h
 split at h
 .exact⟨_,_,rfl,rfl⟩
 .exact⟨_,_,rfl,rfl⟩
 .exact⟨_,_,rfl,rfl⟩
 .cases h
theorem ws_:∀ {ks:List LK} {xs ys:List V} {b:Bool},eqCs ks xs ys=some b->xs.length=ks.length/\ys.length=ks.length/\(∀x∈xs,∃u,x=.s u)/\∀y∈ys,∃u,y=.s u
 |[],[],[],_,_=>⟨rfl,rfl,by simp,by simp⟩
 |[],[],_::_,_,h=>by simp[eqCs]at h
 |[],_::_,_,_,h=>by simp[eqCs]at h
 |_::_,[],_,_,h=>by simp[eqCs]at h
 |_::_,_::_,[],_,h=>by simp[eqCs]at h
 | k :: ks, x :: xs, y :: ys, b, h => by
   simp only[eqCs,zza_,zzb_]at h
   obtain⟨a,h1,c,h2,rfl⟩:=h
   obtain⟨u,v,rfl,rfl⟩:=on_ h1
   obtain⟨e1,e2,e3,e4⟩:=ws_ h2
   refine⟨by simp[e1],by simp[e2],fun x hx=>?_,fun y hy=>?_⟩
   .rcases List.mem_cons.1 hx with rfl|hx
    .exact⟨_,rfl⟩
    .exact e3 x hx
   .rcases List.mem_cons.1 hy with rfl|hy
    .exact⟨_,rfl⟩
    .exact e4 y hy
theorem vB_:∀(k1:List LK) {k2:List LK} {x1 x2 y1 y2:List V},x1.length=k1.length->y1.length=k1.length->eqCs (k1++k2) (x1++x2) (y1++y2)=(eqCs k1 x1 y1).bind fun a=>(eqCs k2 x2 y2).map fun b=>a&&b
 |[],k2,[],x2,[],y2,_,_=>by simp[eqCs]
 |[],_,_::_,_,_,_,h,_=>by simp at h
 |[],_,[],_,_::_,_,_,h=>by simp at h
 |_::_,_,[],_,_,_,h,_=>by simp at h
 |_::_,_,_::_,_,[],_,_,h=>by simp at h
 | k :: k1, k2, x :: x1, x2, y :: y1, y2, h1, h2 => by
   simp only[List.cons_append,eqCs,vB_ k1 (k2:=k2) (x1:=x1) (x2:=x2) (y1:=y1) (y2:=y2) (by simpa using h1) (by simpa using h2)]
   cases eqC k x y with
   |none=>rfl
   | some a =>
     simp only[zzt_]
     cases eqCs k1 x1 y1 with
     |none=>rfl
     | some b =>
       simp only[zzt_,zzz_]
       cases eqCs k2 x2 y2 with
       |none=>rfl
       |some c=>simp[Bool.and_assoc]
section
variable{P:Program}{F:Fr}{g:Gh}{w:World}{S:St}{a:Act}
theorem tu_{t:TypeId}{ag:Bool}(h:aggT P t=some ag)(w:World):(isAgg t).run P w=.ok ag w:=by
 unfold aggT at h
 obtain⟨td,htd,htag⟩:=zzb_.1 h
 simp only[isAgg,run_underlying htd,Sem.run_bind,Result.andThen_ok]
 rw[<-htag]
 cases td<;>simp
theorem vV_{t:TypeId}{n:Nat}(h:sizeT P t=some n)(w:World):(sizeOf t).run P w=.ok n w:=by
 unfold sizeT at h
 obtain⟨i,hi,hin⟩:=zzb_.1 h
 simp[sizeOf,typeInfo,hi,hin]
theorem wl_{t:TypeId}{n:Nat}(ha:aggT P t=some true)(hn:sizeT P t=some n)(cs:Array Value)(off:Nat)(w:World):(part t cs off).run P w=.ok (.agg (cs.extract off (off+n))) w:=by
 simp[part,tu_ ha,vV_ hn]
theorem vt_{t:TypeId}(ha:aggT P t=some false){cs:Array Value}{off:Nat}{v:Value}(hv:cs[off]?=some v)(w:World):(part t cs off).run P w=.ok v w:=by
 simp[part,tu_ ha,hv]
theorem wu_(l:List Value)(off:Nat)(h:((l.drop off).take 1).length=1):∃v,l[off]?=some v/\(l.drop off).take 1=[v]:=by
 have hl:off<l.length:=by simp at h;omega
 refine⟨l[off],zzf_ hl,?_⟩
 rw[List.drop_eq_getElem_cons hl,List.take_succ_cons,List.take_zero]
theorem uD_:∀(d:Nat) (t:TypeId) (ks:List LK),eqLs P d t=some ks->∀(D:Nat),d<=D->∀(us vs:Array Value) (off:Nat) (b:Bool) (w:World),eqCs ks (((us.toList.drop off).take ks.length).map V.s) (((vs.toList.drop off).take ks.length).map V.s)=some b ->
 ∃x y,(part t us off).run P w=.ok x w/\(part t vs off).run P w=.ok y w/\(Op.equalIn D t x y).run P w=.ok b w
 |0,_,_,h,_,_,_,_,_,_,_,_=>by simp[eqLs]at h
 | d + 1, t, ks, h, D, hD, us, vs, off, b, w, hb => by
   obtain⟨D,rfl⟩:∃D',D=D'+1:=⟨D-1,by omega⟩
   have hleaf:∀k,od_ P t=some k->ks=[k]->∃x y,(part t us off).run P w=.ok x w/\(part t vs off).run P w=.ok y w/\(Op.equalIn (D+1) t x y).run P w=.ok b w:=by
    rintro k hk rfl
    obtain⟨l1,l2,_,_⟩:=ws_ hb
    simp only[List.length_map,List.length_cons,List.length_nil,Nat.zero_add]at l1 l2
    obtain⟨u,q1,q2⟩:=wu_ _ _ l1
    obtain⟨v,r1,r2⟩:=wu_ _ _ l2
    simp only[List.length_cons,List.length_nil,Nat.zero_add,q2,r2,List.map_cons,List.map_nil,eqCs]at hb
    have hag:aggT P t=some false:=by
     unfold od_ at hk
     unfold aggT
     split at hk<;>first|(rename_i e;rw[e];rfl)|cases hk
    refine⟨u,v,vt_ hag (by simpa using q1) w,vt_ hag (by simpa using r1) w,?_⟩
    simp only[zza_,zzz_,yya_,Bool.and_true,exists_eq_right]at hb
    have ht:(∃kk,P.underlying t=some (.int kk)/\k=.int)\/(P.underlying t=some .bool/\k=.bool)\/(P.underlying t=some .string/\k=.str):=by
     unfold od_ at hk
     split at hk
     .rename_i q;cases hk;exact .inl ⟨_,q,rfl⟩
     .rename_i q;cases hk;exact .inr (.inl ⟨q,rfl⟩)
     .rename_i q;cases hk;exact .inr (.inr ⟨q,rfl⟩)
     .cases hk
    rcases ht with ⟨kk,ht,rfl⟩|⟨ht,rfl⟩|⟨ht,rfl⟩
    .cases u<;>cases v<;>first|(simp[eqC]at hb;done)|skip
     simp only[eqC]at hb
     split at hb
     .rename_i hkk
      subst hkk
      cases hb
      exact run_equalIn_int w D t _ _ _ _ ht
     .cases hb
    .cases u<;>cases v<;>first|(simp[eqC]at hb;done)|skip
     simp only[eqC]at hb
     cases hb
     exact run_equalIn_bool' w D t _ _ ht
    .cases u<;>cases v<;>first|(simp[eqC]at hb;done)|skip
     simp only[eqC]at hb
     cases hb
     rw[run_equalIn_string w D t _ _ ht,beq_toListBytes]
   unfold eqLs at h
   split at h
   .next fs hfs =>
    simp only[zza_]at h
    obtain⟨ks',hfold,h⟩:=h
    split at h
    case isFalse=>cases h
    case isTrue hcond =>
    cases h
    obtain⟨hst,hsz⟩:=hcond
    have hag:aggT P t=some true:=by unfold aggT;rw[hfs];rfl
    have hff:P.fieldsOf t=fs:=by simp[Program.fieldsOf,hfs]
    refine⟨_,_,wl_ hag hsz us off w,wl_ hag hsz vs off w,?_⟩
    rw[run_equalIn_agg w D t _ _ (by rw[hff];exact hfs) hst,hff]
    have key : ∀ (fl : List Field) (k0 k2 : List LK), fl.foldlM (fun ks f => if f.name = "_" ∨ f.offset ≠ ks.length then none else (eqLs P d f.type).map fun r => ks ++ r) k0 = some k2 → ∃ k1, k2 = k0 ++ k1 ∧ ∀ (us vs : Array Value) (b : Bool), eqCs k1 (((us.toList.drop k0.length).take k1.length).map V.s) (((vs.toList.drop k0.length).take k1.length).map V.s) = some b → (Op.eqFields D us vs fl).run P w = .ok b w := by
     intro fl
     induction fl with
     | nil =>
       intro k0 k2 hk
       simp only[List.foldlM_nil,Option.pure_def,yya_]at hk
       subst hk
       refine⟨[],by simp,fun us vs b hb=>?_⟩
       simp[eqCs]at hb
       subst hb
       simp[Op.eqFields]
     | cons f fl ih =>
       intro k0 k2 hk
       simp only[List.foldlM_cons,Option.bind_eq_bind,zza_]at hk
       obtain⟨k01,hk1,hk2⟩:=hk
       split at hk1
       .cases hk1
       .next hn =>
        simp only[not_or,Decidable.not_not]at hn
        obtain⟨r,hr,rfl⟩:=zzb_.1 hk1
        obtain⟨k1,rfl,ih⟩:=ih _ _ hk2
        refine⟨r++k1,by simp,fun us vs b hb=>?_⟩
        obtain⟨l1,l2,_,_⟩:=ws_ hb
        simp only[List.length_map,zzr_,List.length_take,List.length_drop]at l1 l2
        have hsp:∀(l:List Value),l.length>=k0.length+(r.length+k1.length)->((l.drop k0.length).take (r++k1).length).map V.s=(((l.drop k0.length).take r.length).map V.s)++(((l.drop (k0++r).length).take k1.length).map V.s):=by
         intro l hl
         rw[zzr_,List.take_add,List.drop_drop,List.map_append,zzr_]
        by_cases h0:r.length+k1.length=0
        .have hr0:r=[]:=List.length_eq_zero_iff.1 (by omega)
         have hk0:k1=[]:=List.length_eq_zero_iff.1 (by omega)
         subst hr0;subst hk0
         simp[eqCs]at hb
         subst hb
         have hz:=ih us vs true (by simp[eqCs])
         obtain⟨x,y,e1,e2,e3⟩:=uD_ d f.type [] hr D (by omega) us vs k0.length true w (by simp[eqCs])
         simp only[Op.eqFields]
         rw[if_pos hn.1,hn.2]
         simp[e1,e2,e3,hz]
        .rw[hsp _ (by have:=us.size;simp only[Array.length_toList]at l1 ⊢;omega),hsp _ (by simp only[Array.length_toList]at l2 ⊢;omega),vB_ r (by simp;simp at l1;omega) (by simp;simp at l2;omega)]at hb
         simp only[zza_,zzb_]at hb
         obtain⟨b1,hb1,b2,hb2,rfl⟩:=hb
         obtain⟨x,y,e1,e2,e3⟩:=uD_ d f.type r hr D (by omega) us vs k0.length b1 w hb1
         have hz:=ih us vs b2 hb2
         simp only[Op.eqFields]
         rw[if_pos hn.1,hn.2]
         cases b1<;>simp[e1,e2,e3,hz]
    obtain⟨k1,e1,hk⟩:=key fs.toList [] ks hfold
    simp only[List.nil_append]at e1
    subst e1
    refine hk _ _ b ?_
    have hx:∀(us:Array Value),((us.extract off (off+ks.length)).toList.drop ([]:List LK).length).take ks.length=(us.toList.drop off).take ks.length:=by
     intro us
     simp only[Array.toList_extract,List.extract_eq_take_drop,List.length_nil,List.drop_zero]
     rw[show off+ks.length-off=ks.length by omega,List.take_take,Nat.min_self]
    rw[hx,hx]
    exact hb
   .obtain⟨k,hk,e⟩:=zzb_.1 h
    exact hleaf k hk e.symm
theorem un_{cs:List V}{v:Value}(h:Rep g w (.agg cs) v):∃vs:Array Value,v=.agg vs/\cs.length=vs.size/\∀(j:Nat) (u:V) (c:Value),cs[j]?=some u->vs[j]?=some c->Rep g w u c:=by
 cases h with
 |agg hl h1 h=>exact⟨_,rfl,hl,h⟩
theorem oM_{cs:List V}{vs:Array Value}(hl:cs.length=vs.size)(h:∀(j:Nat) (u:V) (c:Value),cs[j]?=some u->vs[j]?=some c->Rep g w u c)(hs:∀x∈cs,∃u,x=.s u):cs=vs.toList.map V.s:=by
 refine List.ext_getElem? fun j=>?_
 rw[zzs_]
 by_cases hj:j<cs.length
 .have h1:=zzf_ hj
  have h2:vs[j]?=some (vs[j]'(by omega)):=Array.getElem?_eq_getElem (by omega)
  obtain⟨u,hu⟩:=hs _ (yyp_ hj)
  have:=h j _ _ h1 h2
  rw[hu]at this
  rw[h1,Array.getElem?_toList,h2,zzz_,hu]
  cases this
  rfl
 .rw[List.getElem?_eq_none (by omega),List.getElem?_eq_none (by simp;omega)]
  rfl
theorem lg_(h:Rel F g w S a){o:Oper}{ne:Bool}{t t':TypeId}{x y:Operand}{p q:Opd}{ks:List LK}{d:Nat}(ho:o.op=.binOp (if ne then .neq else .eql) t x y t')(hg:P.eqGuardType P.depth t=false)(hks:eqLs P 4 t=some ks)
 (hx:opd F x=some p) (hy:opd F y=some q) (hd:d<F.N) (hdv:d∉F.sv) {fs:Array Field} (hfs:P.underlying t=some (.struct fs)) {r:V} (hr:exV (.eqA ne ks) (z7_ S p) (z7_ S q)=some r):QEnds P F g w S a o d r S.tm:=by
 have h1:=(y5_ h hx).rep
 have h2:=(y5_ h hy).rep
 generalize hp:z7_ S p=xp at hr h1
 generalize hq:z7_ S q=xq at hr h2
 cases xp<;>first|(simp[exV]at hr;done)|skip
 cases xq<;>first|(simp[exV]at hr;done)|skip
 rename_i xs ys
 simp only[exV,zzb_]at hr
 obtain⟨b,hb,rfl⟩:=hr
 obtain⟨us,e1,l1,k1⟩:=un_ h1
 obtain⟨vs,e2,l2,k2⟩:=un_ h2
 obtain⟨m1,m2,m3,m4⟩:=ws_ hb
 have s1:=oM_ l1 k1 m3
 have s2:=oM_ l2 k2 m4
 have n1:us.size=ks.length:=by omega
 have n2:vs.size=ks.length:=by omega
 have hb':eqCs ks (((us.toList.drop 0).take ks.length).map V.s) (((vs.toList.drop 0).take ks.length).map V.s)=some b:=by
  rw[List.drop_zero,List.drop_zero,zzx_ (by simp;omega),zzx_ (by simp;omega),<-s1,<-s2]
  exact hb
 have hag:aggT P t=some true:=by unfold aggT;rw[hfs];rfl
 have hsz:sizeT P t=some ks.length:=by
  have h4:=hks
  unfold eqLs at h4
  rw[hfs]at h4
  simp only[zza_]at h4
  obtain⟨ks',_,h4⟩:=h4
  split at h4
  .next hc=>cases h4;exact hc.2
  .cases h4
 obtain⟨x',y',q1,q2,q3⟩:=uD_ 4 t ks hks 10000 (by omega) us vs 0 b w hb'
 have f1:us.extract 0 (0+ks.length)=us:=by rw[Nat.zero_add,<-n1];simp
 have f2:vs.extract 0 (0+ks.length)=vs:=by rw[Nat.zero_add,<-n2];simp
 rw[wl_ hag hsz,f1]at q1
 rw[wl_ hag hsz,f2]at q2
 cases q1
 cases q2
 refine q_s h hd hdv rfl ?_
 cases ne
 .simp only[yyi_,if_false]at ho
  simp only[execOp,ho,e1,e2]
  simp[Sem.run_bind,run_eqGuard_agg w .eql t x y us vs hg,run_eql_struct,q3]
 .simp only[if_true]at ho
  simp only[execOp,ho,e1,e2]
  simp[Sem.run_bind,run_eqGuard_agg w .neq t x y us vs hg,run_neq_struct,q3]
theorem ti_(h:Rel F g w S a){cs:List V}{vs:Array Value}{t:TypeId}{n off:Nat}{ag:Bool}{r:V}{d:Nat}(hl:cs.length=vs.size)(hrep:∀(j:Nat) (u:V) (c:Value),cs[j]?=some u->vs[j]?=some c->Rep g w u c)(hn:sb_ P t=some (n,ag))
 (hr:qD_ off n ag cs=some r) (hd:d<F.N) (hdv:d∉F.sv):∃v,(part t vs off).run P w=.ok v w/\Ends F g w S a { S with tm:=upd S.tm d r } (a.put (some d) v) w:=by
 simp only[sb_,zza_]at hn
 obtain⟨n',hn1,ag',ha,hn⟩:=hn
 split at hn
 .cases hn
 .next hcond =>
  cases hn
  unfold qD_ at hr
  split at hr
  .next hc =>
   obtain⟨hc1,hc2⟩:=hc
   have hok:∀(j:Nat) (x:V) (v:Value),((cs.drop off).take n)[j]?=some x->((vs.toList.drop off).take n)[j]?=some v->LeafOk F g w S a x v:=by
    intro j x v hx hv
    have hi:immC x=true:=zzh_.1 hc2 x (zzd_ hx)
    have hj:j<n:=by have:=(zzc_.1 hx).1;simp at this;omega
    rw[zzu_,if_pos hj,zzA_]at hx hv
    exact sh_ (hrep _ x v hx (by simpa using hv)) hi
   cases ag with
   | true =>
     simp only[x4_,if_true,yya_]at hr
     subst hr
     refine⟨_,wl_ ha hn1 vs off w,?_⟩
     have e:vs.extract off (off+n)=((vs.toList.drop off).take n).toArray:=by
      apply Array.toList_inj.1
      simp only[Array.toList_extract,List.extract_eq_take_drop]
      rw[show off+n-off=n by omega]
     rw[e]
     exact ua_ h hd hdv (by simp;omega) hok
   | false =>
     have hn1':n=1:=by
      by_cases q:n=1
      .exact q
      .exact absurd ⟨rfl,q⟩ hcond
     subst hn1'
     have hoff:off<cs.length:=by omega
     have e:(cs.drop off).take 1=[cs[off]]:=by rw[List.drop_eq_getElem_cons hoff,List.take_succ_cons,List.take_zero]
     rw[e]at hr
     simp[x4_]at hr
     subst hr
     have hv:vs[off]?=some (vs[off]'(by omega)):=Array.getElem?_eq_getElem (by omega)
     refine⟨_,vt_ ha hv w,r3_ h hd hdv (hok 0 _ _ ?_ ?_)⟩
     .simp[zzA_,hoff]
     .simp[zzA_,show off<vs.size by omega]
  .cases hr
theorem l7_(h:Rel F g w S a){o:Oper}{s:TypeId}{x:Operand}{f:Nat}{fs:Array Field}{fl:Field}{p:Opd}{y:V}{n:Nat}{ag:Bool}{d:Nat}(ho:o.op=.field s x f)(hs:P.underlying s=some (.struct fs))(hf:fs[f]?=some fl)(hn:sb_ P fl.type=some (n,ag))
 (hx:opd F x=some p) (hd:d<F.N) (hdv:d∉F.sv) {r:V} (hr:exV (.prt fl.offset n ag) (z7_ S p) y=some r):QEnds P F g w S a o d r S.tm:=by
 have h1:=(y5_ h hx).rep
 generalize hp:z7_ S p=xp at hr h1
 cases xp<;>first|(simp[exV]at hr;done)|skip
 simp only[exV]at hr
 obtain⟨us,e1,l1,k1⟩:=un_ h1
 obtain⟨v,q1,q2⟩:=ti_ h l1 k1 hn hr hd hdv
 refine⟨v,w,?_,q2⟩
 simp[execOp,ho,e1,Instr.field,asAgg,run_underlying hs,hf,q1]
theorem ld_(h:Rel F g w S a){o:Oper}{s e:TypeId}{x i:Operand}{p q:Opd}{len n:Nat}{ag:Bool}{d:Nat}(ho:o.op=.index s x i)(hs:P.underlying s=some (.array len e))(hn:sb_ P e=some (n,ag))
 (hx:opd F x=some p) (hi:opd F i=some q) (hd:d<F.N) (hdv:d∉F.sv) {r:V} (hr:exV (.idx len n ag) (z7_ S p) (z7_ S q)=some r):QEnds P F g w S a o d r S.tm:=by
 have h1:=(y5_ h hx).rep
 generalize hp:z7_ S p=xp at hr h1
 cases xp<;>first|(simp[exV]at hr;done)|skip
 simp only[exV]at hr
 split at hr
 .next m hm =>
  split at hr
  .next hc =>
   obtain⟨us,e1,l1,k1⟩:=un_ h1
   obtain⟨v,q1,q2⟩:=ti_ h l1 k1 hn hr hd hdv
   have hq:∃k,z7_ S q=.s (.int k m):=by
    unfold yI_ at hm
    split at hm
    .rename_i e;cases hm;exact⟨_,e⟩
    .cases hm
   obtain⟨k,hq⟩:=hq
   obtain⟨e2,_⟩:=yA_ h hi hq
   have hsz:sizeT P e=some n:=by
    simp only[sb_,zza_]at hn
    obtain⟨n',hn1,ag',_,hn⟩:=hn
    split at hn
    .cases hn
    .cases hn;exact hn1
   refine⟨v,w,?_,q2⟩
   simp[execOp,ho,e1,e2,Instr.index,asIntOf,run_underlying hs,hc,vV_ hsz,q1]
  .cases hr
 .cases hr
theorem md_(h:Rel F g w S a){o:Oper}{s:TypeId}{x i:Operand}{p q:Opd}{d:Nat}(ho:o.op=.index s x i)(hs:P.underlying s=some .string)
 (hx:opd F x=some p) (hi:opd F i=some q) (hd:d<F.N) (hdv:d∉F.sv) {r:V} (hr:exV .sidx (z7_ S p) (z7_ S q)=some r):QEnds P F g w S a o d r S.tm:=by
 have key:∃s,z7_ S p=.s (.string s)/\(match yI_ (z7_ S q) with
  |some m=>if 0<=m then (s[m.toNat]?).map fun b=>V.s (.int .u8 b.toNat) else none
  |none=>none)=some r:=by
  generalize z7_ S p=xp at hr
  cases xp<;>first|(simp[exV]at hr;done)|skip
  rename_i v
  cases v<;>first|(simp[exV]at hr;done)|exact⟨_,rfl,hr⟩
 obtain⟨s',hp,hr⟩:=key
 split at hr
 .next m hm =>
  split at hr
  .next hc =>
   obtain⟨b,hb,rfl⟩:=zzb_.1 hr
   obtain⟨e1,_⟩:=yA_ h hx hp
   have hq:∃k,z7_ S q=.s (.int k m):=by
    unfold yI_ at hm
    split at hm
    .rename_i e;cases hm;exact⟨_,e⟩
    .cases hm
   obtain⟨k,hq⟩:=hq
   obtain⟨e2,_⟩:=yA_ h hi hq
   refine q_s h hd hdv rfl ?_
   simp[execOp,ho,e1,e2,Instr.index,asIntOf,run_underlying hs,hc,hb]
  .cases hr
 .cases hr
theorem vY_{d:Nat}{t e:TypeId}(hs:P.underlying t=some (.slice e))(A:Option Addr)(n c:Nat)(w:World):(Op.equalIn (d+1) t (.slice A n c) (.slice none 0 0)).run P w=.ok A.isNone w:=by
 cases A<;>simp[Op.equalIn,run_underlying hs]
theorem s4_{t e:TypeId}(hs:P.underlying t=some (.slice e))(A:Option Addr)(n c:Nat)(w:World):(binOp .eql t (.slice A n c) (.slice none 0 0)).run P w=.ok (.bool A.isNone) w:=by
 simp only[binOp]
 simp[Op.equal,Op.maxDepth,vY_ hs]
theorem s3_{t e:TypeId}(hs:P.underlying t=some (.slice e))(A:Option Addr)(n c:Nat)(w:World):(binOp .neq t (.slice A n c) (.slice none 0 0)).run P w=.ok (.bool (!A.isNone)) w:=by
 simp only[binOp]
 simp[Op.equal,Op.maxDepth,vY_ hs]
theorem lc_(h:Rel F g w S a){o:Oper}{ne:Bool}{t e t':TypeId}{x y:Operand}{p:Opd}{d:Nat}(ho:o.op=.binOp (if ne then .neq else .eql) t x y t')(hs:P.underlying t=some (.slice e))(hx:opd F x=some p)(hy:opd F y=some (.c (.slice none 0 0)))(hd:d<F.N)(hdv:d∉F.sv)
 {r:Nat×List V} (hc:cont S (z7_ S p)=some r):∃b:Bool,(r.2≠[]->b=ne)/\QEnds P F g w S a o d (.s (.bool b)) S.tm:=by
 obtain⟨z,xs⟩:=r
 obtain⟨A,c,vals,hv,h1,h2,h3,_⟩:=yQ_ h (y5_ h hx) hc
 have hev:a.eval y=.slice none 0 0:=by
  obtain⟨rfl,_⟩:=qI_ hy
  rfl
 refine⟨A.isNone != ne,fun hne=>?_,q_s h hd hdv rfl ?_⟩
 .cases A with
  | none =>
    have:=h3 rfl
    have:xs.length=0:=by omega
    exact absurd (List.length_eq_zero_iff.1 this) hne
  |some A=>simp
 .have hg:∀b,(Value.slice A xs.length c)≠.nilIface/\(Value.slice A xs.length c)≠.agg b:=by intro b;simp
  cases ne
  .simp only[yyi_,if_false]at ho
   simp only[execOp,ho,hv,hev]
   rw[Sem.run_bind,Sem.run_bind,yM_ hg,Result.andThen_ok,s4_ hs]
   simp
  .simp only[if_true]at ho
   simp only[execOp,ho,hv,hev]
   rw[Sem.run_bind,Sem.run_bind,yM_ hg,Result.andThen_ok,s3_ hs]
   simp
end
end
section
section
variable{P:Program}{F:Fr}{g:Gh}{w:World}{S S':St}{a:Act}
theorem QEnds.s{o:Oper}{d:Nat}{y:V}{tm1:Nat->V}(hd:o.dst=some d)(h:QEnds P F g w S a o d y tm1):sn_ P F g w S a o { S with tm:=upd tm1 d y }:=by
 obtain⟨v,w',h1,h2⟩:=h
 exact⟨.value v,v,w',h1,.inl rfl,by rw[hd];exact h2⟩
theorem zY_{o:Option Tmp}{op:AOp}{d:Nat}(h:xt_ F o op=some (.t d)):o=some d/\d<F.N/\d∉F.sv:=by
 unfold xt_ at h
 split at h
 .split at h<;>cases h
 .next d' =>
  split at h
  .split at h<;>cases h
  .next hv =>
   split at h
   .cases h
   .next hc =>
    cases h
    simp only[zzy_,zzp_,not_or]at hc
    exact⟨rfl,by omega,st_ hv⟩
theorem lo_{o:Option Tmp}{op:AOp}{i:Nat}(h:xt_ F o op=some (.v i)):∃t,o=some t/\F.sv[i]?=some t:=by
 unfold xt_ at h
 split at h
 .split at h<;>cases h
 .next d' =>
  split at h
  .next j hj =>
   split at h
   .cases h;exact⟨_,rfl,uj_ hj⟩
   .cases h
  .split at h<;>cases h
theorem mP_{o:Option Tmp}{op:AOp}{d:Dst}(h:xt_ F o op=some d)(hs:isSt op=true):o=none:=by
 unfold xt_ at h
 split at h
 .rfl
 .split at h
  .split at h
   .next ha=>cases op<;>simp[yB_]at ha<;>simp[isSt]at hs
   .cases h
  .split at h
   .cases h
   .next hc=>simp[hs]at hc
theorem zt_{d:Dst}{op:AOp}(hn:yB_ op=false/\isSt op=false)(hb:(∀zs,op≠.allo zs)/\(∀n x,op≠.box n x))(hs:step S d op=some S'):∃d' y tm1,d=.t d'/\za_ S d' op=some (y,tm1)/\S'={ S with tm:=upd tm1 d' y }:=by
 cases d with
 | t d' =>
   have key:(za_ S d' op).map (fun r=>({ S with tm:=upd r.2 d' r.1 }:St))=some S'->∃d'' y tm1,Dst.t d'=.t d''/\za_ S d'' op=some (y,tm1)/\S'={ S with tm:=upd tm1 d'' y }:=by
    intro h
    obtain⟨⟨y,tm1⟩,h1,h2⟩:=zzb_.1 h
    exact⟨d',y,tm1,rfl,h1,h2.symm⟩
   cases op<;>simp only[yB_,isSt]at hn<;>first|exact key hs|exact absurd rfl (hb.1 _)|exact absurd rfl (hb.2 _ _)|(simp at hn;done)|(simp[step]at hs)
 |none=>cases op<;>simp only[yB_,isSt]at hn<;>first|(simp at hn;done)|(simp[step]at hs)
 |v i=>cases op<;>simp only[yB_,isSt]at hn<;>first|(simp at hn;done)|(simp[step]at hs)
theorem tE_(h:Rel F g w S a){l:Loc}{d e z:Nat}{xs:List V}{v:Value}(hd:d<F.N)(hdv:d∉F.sv)(hl:S.at l=some (.lent d S.ep e z xs))(hno:S.tm d=.no)(hval:z8_ F g w a l=some v):Ends F g w S a { S with tm:=upd S.tm d (.own true e z xs) } (a.put (some d) v) w:=by
 have hrep:=(h.lentr l d e z xs _ hl hval).1
 have hlt:zi_ S (.lent d S.ep e z xs)=true:=by simp[zi_,hno]
 have hown:∀k,rb v=some k->Own F g w S a (.l l) [] k:=fun k hk=>⟨_,_,⟨hl,hval⟩,.inr ⟨rfl,hlt,hk⟩⟩
 have hls:∀t,Less (upd S.tm d .gone t) (S.tm t):=zz_
 obtain⟨q1,q2⟩:=uo_ h hls (vd_ hdv) hd hdv hrep (fun k hk=>by
  obtain⟨q1,q2,q3⟩:=h.ownI _ _ _ (hown k hk)
  refine⟨q1,q2,q3,fun r p _ ho'=>?_,fun l2 d2 e2 z2 xs2 v2 h1 h2 h3=>h.lentl l2 d2 e2 z2 xs2 v2 k h1 h2 h3 (.l l) [] _ ⟨_,_,⟨hl,hval⟩,.inr ⟨rfl,d,e,z,xs,rfl,hno,hk,rfl⟩⟩⟩
  obtain⟨rfl,rfl⟩:=h.uniq _ _ _ _ _ (zf_ hls h.notl ho') (hown k hk)
  obtain⟨y',v,⟨hy1,_⟩,ho'⟩:=ho'
  have hy2:S.at l=some y':=by rw[<-hy1];cases l<;>rfl
  rw[hl]at hy2
  injection hy2 with hy2
  subst hy2
  rcases ho' with ⟨_,_,_,_,q,_⟩|⟨_,q,_⟩
  .simp[V.sub]at q
  .obtain⟨d3,_,_,_,q5,q6⟩:=z4_ q
   injection q5 with q5
   subst q5
   simp only[zm_]at q6
   cases q6)
 rw[ul_]at q1 q2
 refine⟨g,q1,⟨rfl,rfl,rfl,zzl_ _,fun _ _ _=>⟨rfl,rfl⟩,fun k ho=>?_⟩,fun _ _=>rfl⟩
 rcases q2 k ho with q|q
 .exact .inl q
 .exact .inl (.inl ⟨_,_,hown k q⟩)
theorem l8_(h:Rel F g w S a){o:Oper}{x:Operand}{q:Opd}{d:Nat}(ho:o.op=.move x)(hx:opd F x=some q)(hd:d<F.N)(hdv:d∉F.sv){y:V}{tm1:Nat->V}(hq:mvD S d q=some (y,tm1)):QEnds P F g w S a o d y tm1:=by
 unfold mvD at hq
 split at hq
 .next i =>
  split at hq
  .next d' e0 e z xs hv =>
   split at hq
   .next hc =>
    obtain⟨rfl,rfl⟩:=hc
    split at hq
    .next hno =>
     cases hq
     obtain⟨t,rfl,hi⟩:=vv_ hx
     have hval:z8_ F g w a (.var i)=some (a.eval (.tmp t)):=by simp[z8_,hi,Act.tv,Act.eval]
     exact⟨_,w,sE_ ho w,tE_ h hd hdv (l:=.var i) hv hno hval⟩
    .cases hq
   .exact q_mv h ho hx hd hdv hq
  .exact q_mv h ho hx hd hdv hq
 .exact q_mv h ho hx hd hdv hq
theorem vc_{d ep:Nat}:∀ {xs ys:List V},wx_ d ep xs=some ys->ys.length=xs.length/\∀(j:Nat) (y:V),ys[j]?=some y->∃x,xs[j]?=some x/\vO_ d ep x=some y
 |[],ys,h=>by simp[wx_]at h;subst h;simp
 | x :: r, ys, h => by
   simp only[wx_,zza_]at h
   obtain⟨y,h1,q,h2,h3⟩:=h
   cases h3
   obtain⟨k1,k2⟩:=vc_ h2
   refine⟨by simp[k1],fun j y' hj=>?_⟩
   cases j with
   |zero=>simp at hj;subst hj;exact⟨x,rfl,h1⟩
   |succ j=>simp at hj ⊢;exact k2 j y' hj
theorem yv_{d ep:Nat}{x y:V}(h:vO_ d ep x=some y):(∃e z xs,x=.lent d ep e z xs/\y=.own true e z xs)\/(x=y/\yW_ y=true/\(∀e z xs,y≠.own true e z xs)/\y1_ y=true):=by
 cases x<;>simp[vO_]at h
 .subst h;exact .inr ⟨rfl,rfl,by simp,rfl⟩
 .subst h;exact .inr ⟨rfl,rfl,by simp,rfl⟩
 .obtain⟨⟨rfl,rfl⟩,rfl⟩:=h;exact .inl ⟨_,_,_,rfl,rfl⟩
 .subst h;exact .inr ⟨rfl,rfl,by simp,rfl⟩
theorem lb_(h:Rel F g w S a){o:Oper}{x:Operand}{p:Opd}{t:TypeId}{n:Nat}{d:Nat}(ho:o.op=.load t x)(hn:sizeT P t=some n)(hag:aggT P t=some true)(hx:opd F x=some p)(hd:d<F.N)(hdv:d∉F.sv)
 {b off:Nat} (hlk:z7_ S p=.ptr b off) (hlt:off<1000000000) {cs:List V} (hl:ldA S d n b off=some cs):QEnds P F g w S a o d (.agg cs) S.tm:=by
 unfold ldA at hl
 split at hl
 .next hno =>
  obtain⟨cells,hb,hl⟩:=zza_.1 hl
  split at hl
  .next hc =>
   obtain⟨k1,k2⟩:=vc_ hl
   have hkn:((cells.drop off).take n).all y1_=true:=by
    rw[zzh_]
    intro u hu
    obtain⟨j,hj⟩:=List.mem_iff_getElem?.1 hu
    have hjl:j<cs.length:=by rw[k1];exact(zzc_.1 hj).1
    obtain⟨x',q1,q2⟩:=k2 j _ (zzf_ hjl)
    rw[hj]at q1
    cases q1
    rcases yv_ q2 with ⟨_,_,_,rfl,_⟩|⟨rfl,_,_,q⟩
    .rfl
    .exact q
   have hld:ya_ S n (z7_ S p)=some (seens b S.ep off ((cells.drop off).take n)):=by
    rw[hlk]
    simp only[ya_,hb]
    rw[if_pos hlt,if_pos ⟨hc.1,hkn⟩]
   obtain⟨b',q,vs,e1,e2,e3,e4,e5⟩:=u5_ h (y5_ h hx) hld
   have hp:a.eval x=.pointer (some ⟨g.φ b,off,none⟩):=by
    have:=vw_ h hx
    rw[hlk]at this
    exact this.ptrv hlt
   rw[hp]at e1
   injection e1 with e1
   injection e1 with e1
   injection e1 with e1 e1'
   subst e1
   subst e1'
   have hlen:cs.length=n:=by rw[k1];simp;omega
   have hat:∀(j:Nat) (y:V) (u:Value),cs[j]?=some y->vs[j]?=some u->∃x,S.at (.cell b (off+j))=some x/\vO_ d S.ep x=some y/\z8_ F g w a (.cell b (off+j))=some u:=by
    intro j y u hy hu
    obtain⟨x',q1,q2⟩:=k2 j y hy
    refine⟨x',?_,q2,e4 j u hu⟩
    have hj:j<n:=by rw[<-hlen];exact(zzc_.1 hy).1
    rw[zzu_,if_pos hj,zzA_]at q1
    simp[St.at,hb,q1]
   have hlt:∀ {e z:Nat} {xs:List V},zi_ S (.lent d S.ep e z xs)=true:=by intros;simp[zi_,hno]
   have hownl:∀ {l:Loc} {e z:Nat} {xs:List V} {u:Value} {k:Nat},S.at l=some (.lent d S.ep e z xs)->z8_ F g w a l=some u->rb u=some k->Own F g w S a (.l l) [] k:=fun h1 h2 h3=>⟨_,_,⟨h1,h2⟩,.inr ⟨rfl,hlt,h3⟩⟩
   have hf:Filled F g w S a (upd S.tm d .gone) cs vs:=by
    refine⟨by omega,fun j y u hy hu=>?_,fun j e z xs u k hy hu hk=>?_,fun j j' e z e' z' xs xs' u u' k hy hu hk hy' hu' hk'=>?_⟩
    .obtain⟨x',q1,q2,q3⟩:=hat j y u hy hu
     obtain⟨v',m1,m2⟩:=h.lookv _ _ q1
     rw[q3]at m1
     cases m1
     rcases yv_ q2 with ⟨e,z,xs,rfl,rfl⟩|⟨rfl,q4,q5,_⟩
     .exact⟨(h.lentr _ _ _ _ _ _ q1 q3).1,m2 ⟨_,_,rfl⟩,rfl,fun b o e=>by cases e⟩
     .exact⟨h.rep (.l (.cell b (off+j))) _ _ ⟨q1,q3⟩,m2 ⟨_,_,rfl⟩,q4,fun b' o' e=>h.ptr (.l (.cell b (off+j))) _ _ [] b' o' ⟨q1,q3⟩ (by rw[e];rfl)⟩
    .obtain⟨x',q1,q2,q3⟩:=hat j _ u hy hu
     rcases yv_ q2 with ⟨e',z',xs',rfl,q4⟩|⟨rfl,_,q5,_⟩
     .cases q4
      refine⟨⟨.l (.cell b (off+j)),[],_,_,⟨q1,q3⟩,.inr ⟨rfl,d,e,z,xs,rfl,hno,hk,rfl⟩⟩,fun r q ho'=>?_⟩
      obtain⟨rfl,rfl⟩:=h.uniq _ _ _ _ _ (zf_ zz_ h.notl ho') (hownl q1 q3 hk)
      obtain⟨y',v,⟨hy1,_⟩,ho'⟩:=ho'
      have hy2:S.at (.cell b (off+j))=some y':=hy1
      rw[q1]at hy2
      injection hy2 with hy2
      subst hy2
      rcases ho' with ⟨_,_,_,_,q,_⟩|⟨_,q,_⟩
      .simp[V.sub]at q
      .obtain⟨d3,_,_,_,q5,q6⟩:=z4_ q
       injection q5 with q5
       subst q5
       simp only[zm_]at q6
       cases q6
     .exact absurd rfl (q5 _ _ _)
    .obtain⟨x',q1,q2,q3⟩:=hat j _ u hy hu
     obtain⟨x'',r1,r2,r3⟩:=hat j' _ u' hy' hu'
     rcases yv_ q2 with ⟨_,_,_,rfl,_⟩|⟨rfl,_,q5,_⟩
     .rcases yv_ r2 with ⟨_,_,_,rfl,_⟩|⟨rfl,_,r5,_⟩
      .have:=(h.uniq _ _ _ _ _ (hownl q1 q3 hk) (hownl r1 r3 hk')).1
       injection this with this
       injection this with _ this
       omega
      .exact absurd rfl (r5 _ _ _)
     .exact absurd rfl (q5 _ _ _)
   have hends:=vD_ h zz_ (vd_ hdv) hf hd hdv
   rw[ul_]at hends
   unfold sizeT at hn
   obtain⟨i,hi,hin⟩:=zzb_.1 hn
   unfold aggT at hag
   obtain⟨td,htd,htag⟩:=zzb_.1 hag
   have hisagg:(isAgg t).run P w=.ok true w:=by
    simp only[isAgg,run_underlying htd,Sem.run_bind,Result.andThen_ok]
    rw[<-htag]
    cases td<;>simp
   refine⟨.agg vs.toArray,w,?_,hends⟩
   have hl:(loadCells ⟨g.φ b,off,none⟩ n).run P w=.ok vs.toArray w:=by
    rw[<-e2]
    exact run_loadCells_list w _ vs (fun j u hj=>by rw[zJ_];exact e4 j u hj)
   simp[execOp,ho,hp,Instr.loadAt,Instr.sureAddr,loadVar,hisagg,sizeOf,typeInfo,hi,hin,hl]
  .cases hl
 .cases hl
theorem la_(h:Rel F g w S a){o:Oper}{x:Operand}{p:Opd}{t:TypeId}{n:Nat}{ag:Bool}{d:Nat}(ho:o.op=.load t x)(hn:sizeT P t=some n)(hag:aggT P t=some ag)(hx:opd F x=some p)(hd:d<F.N)(hdv:d∉F.sv)
 {y:V} {tm1:Nat->V} (hq:ldD S d n ag p=some (y,tm1)):QEnds P F g w S a o d y tm1:=by
 have old:∀ {r:V},z7_ S p=r->((ya_ S n r).bind fun cs=>(x4_ ag cs).map fun y=>(y,S.tm))=some (y,tm1)->QEnds P F g w S a o d y tm1:=by
  intro r hr hq
  obtain⟨cs,h1,h2⟩:=zza_.1 hq
  obtain⟨y',h3,h4⟩:=zzb_.1 h2
  cases h4
  exact q_ld h ho hn hag hx hd hdv (by rw[hr];exact h1) h3
 unfold ldD at hq
 split at hq
 .next b off hlk =>
  by_cases hlt:off<1000000000
  case neg=>rw[if_neg hlt]at hq;cases hq
  rw[if_pos hlt]at hq
  split at hq
  .next cs hcs =>
   cases hq
   split at hcs
   .next hag'=>subst hag';exact lb_ h ho hn hag hx hd hdv hlk hlt hcs
   .cases hcs
  split at hq
  .next d' e0 e z xs hat =>
   split at hq
   .next hc =>
    obtain⟨rfl,rfl,rfl,rfl⟩:=hc
    split at hq
    .next hno =>
     cases hq
     obtain⟨v,hv,_⟩:=h.lookv _ _ hat
     have hp:a.eval x=.pointer (some ⟨g.φ b,off,none⟩):=by
      have:=vw_ h hx
      rw[hlk]at this
      exact this.ptrv hlt
     unfold aggT at hag
     obtain⟨td,htd,htag⟩:=zzb_.1 hag
     have hisagg:(isAgg t).run P w=.ok false w:=by
      simp only[isAgg,run_underlying htd,Sem.run_bind,Result.andThen_ok]
      rw[<-htag]
      cases td<;>simp
     have h0:w.cell? ⟨g.φ b,off,none⟩=some v:=hv
     refine⟨v,w,?_,tE_ h hd hdv (l:=.cell b off) hat hno hv⟩
     simp[execOp,ho,hp,Instr.loadAt,Instr.sureAddr,loadVar,hisagg,h0]
    .cases hq
   .exact old hlk hq
  .exact old hlk hq
 .exact old rfl hq
theorem nd_(h:Rel F g w S a)(hF:F.ok){o:Oper}{op:AOp}{d:Dst}(hc:compOp P F o.op=some op)(hd:xt_ F o.dst op=some d)(hs:step S d op=some S'):sn_ P F g w S a o S':=by
 cases hop:o.op with
 | move x =>
   rw[hop]at hc
   obtain⟨q,hx,rfl⟩:=zzb_.1 hc
   obtain⟨d',y,tm1,rfl,hq,rfl⟩:=zt_ ⟨rfl,rfl⟩ ⟨by simp,by simp⟩ hs
   obtain⟨e1,e2,e3⟩:=zY_ hd
   exact(l8_ h hop hx e2 e3 hq).s e1
 | assign x =>
   rw[hop]at hc
   obtain⟨q,hx,rfl⟩:=zzb_.1 hc
   simp only[step]at hs
   split at hs
   .next i =>
    obtain⟨⟨y,tm1⟩,h1,h2⟩:=zza_.1 hs
    obtain⟨t,e1,e2⟩:=lo_ hd
    exact l5_ h hF hop e1 e2 hx h1 h2
   .cases hs
 | pick c x y =>
   rw[hop]at hc
   simp only[compOp,zza_]at hc
   obtain⟨qc,hqc,qx,hqx,hc⟩:=hc
   obtain⟨qy,hqy,rfl⟩:=zzb_.1 hc
   obtain⟨d',y',tm1,rfl,hq,rfl⟩:=zt_ ⟨rfl,rfl⟩ ⟨by simp,by simp⟩ hs
   obtain⟨e1,e2,e3⟩:=zY_ hd
   simp only[za_]at hq
   split at hq
   .next cb hcb =>
    split at hq
    .next v hv=>cases hq;exact(me_ h hop hqc hqx hqy e2 e3 hcb hv).s e1
    .cases hq
   .cases hq
 | binOp op' t x y t' =>
   rw[hop]at hc
   simp only[compOp,zza_]at hc
   obtain⟨qx,hqx,qy,hqy,hc⟩:=hc
   split at hc
   .cases hc
    obtain⟨d',y',tm1,rfl,hq,rfl⟩:=zt_ ⟨rfl,rfl⟩ ⟨by simp,by simp⟩ hs
    obtain⟨e1,e2,e3⟩:=zY_ hd
    simp only[za_]at hq
    split at hq
    .next u v hu hv =>
     obtain⟨r,hr,hr'⟩:=zzb_.1 hq
     cases hr'
     exact(nq_ h hop hqx hqy e2 e3 hu hv (.inl hr)).s e1
    .cases hq
   .cases hc
    obtain⟨d',y',tm1,rfl,hq,rfl⟩:=zt_ ⟨rfl,rfl⟩ ⟨by simp,by simp⟩ hs
    obtain⟨e1,e2,e3⟩:=zY_ hd
    simp only[za_]at hq
    split at hq
    .next u v hu hv =>
     obtain⟨r,hr,hr'⟩:=zzb_.1 hq
     cases hr'
     exact(nq_ h hop hqx hqy e2 e3 hu hv (.inl hr)).s e1
    .cases hq
   .next ht =>
    cases hc
    obtain⟨d',y',tm1,rfl,hq,rfl⟩:=zt_ ⟨rfl,rfl⟩ ⟨by simp,by simp⟩ hs
    obtain⟨e1,e2,e3⟩:=zY_ hd
    simp only[za_]at hq
    split at hq
    .next u v hu hv =>
     obtain⟨r,hr,hr'⟩:=zzb_.1 hq
     cases hr'
     exact(nq_ h hop hqx hqy e2 e3 hu hv (.inr ⟨ht,hr⟩)).s e1
    .cases hq
   .next fs hfs =>
    have hne:∃ne,op'=(if ne=true then .neq else .eql)/\P.eqGuardType P.depth t=false/\∃ks,eqLs P 4 t=some ks/\op=.ex (.eqA ne ks) qx qy:=by
     split at hc
     .split at hc
      .next hg=>obtain⟨ks,h1,h2⟩:=zzb_.1 hc;exact⟨false,rfl,hg,ks,h1,h2.symm⟩
      .cases hc
     .split at hc
      .next hg=>obtain⟨ks,h1,h2⟩:=zzb_.1 hc;exact⟨true,rfl,hg,ks,h1,h2.symm⟩
      .cases hc
     .cases hc
    obtain⟨ne,hop',hg,ks,hks,rfl⟩:=hne
    obtain⟨d',y',tm1,rfl,hq,rfl⟩:=zt_ ⟨rfl,rfl⟩ ⟨by simp,by simp⟩ hs
    obtain⟨e1,e2,e3⟩:=zY_ hd
    simp only[za_]at hq
    obtain⟨r,hr,hr'⟩:=zzb_.1 hq
    cases hr'
    exact(lg_ h (hop.trans (by rw[hop'])) hg hks hqx hqy e2 e3 hfs hr).s e1
   .exfalso
    split at hc
    .cases hc;cases d<;>simp[step,za_]at hs
    .cases hc;cases d<;>simp[step,za_]at hs
    .cases hc
   .cases hc
 | unOp op' t x =>
   rw[hop]at hc
   obtain⟨q,hx,rfl⟩:=zzb_.1 hc
   obtain⟨d',y',tm1,rfl,hq,rfl⟩:=zt_ ⟨rfl,rfl⟩ ⟨by simp,by simp⟩ hs
   obtain⟨e1,e2,e3⟩:=zY_ hd
   simp only[za_]at hq
   split at hq
   .next u hu =>
    obtain⟨r,hr,hr'⟩:=zzb_.1 hq
    cases hr'
    exact(q_un h hop hx e2 e3 hu hr).s e1
   .cases hq
 | convert s t x =>
   rw[hop]at hc
   simp only[compOp]at hc
   split at hc
   .next k0 k hs1 ht1 =>
    obtain⟨q,hx,rfl⟩:=zzb_.1 hc
    obtain⟨d',y',tm1,rfl,hq,rfl⟩:=zt_ ⟨rfl,rfl⟩ ⟨by simp,by simp⟩ hs
    obtain⟨e1,e2,e3⟩:=zY_ hd
    simp only[za_]at hq
    split at hq
    .next k1 n hn=>cases hq;exact(mj_ h hop hs1 ht1 hx e2 e3 hn).s e1
    .cases hq
   .next e hs1 =>
    split at hc
    .next he =>
     split at hc
     .next ht1 =>
      obtain⟨q,hx,rfl⟩:=zzb_.1 hc
      obtain⟨d',y',tm1,rfl,hq,rfl⟩:=zt_ ⟨rfl,rfl⟩ ⟨by simp,by simp⟩ hs
      obtain⟨e1,e2,e3⟩:=zY_ hd
      simp only[za_]at hq
      obtain⟨r,h1,h2⟩:=zza_.1 hq
      obtain⟨l,h3,h4⟩:=zzb_.1 h2
      cases h4
      exact(lj_ h hop hs1 he ht1 hx e2 e3 h1 h3).s e1
     .next e' ht1 =>
      split at hc
      .next hst =>
       subst hst
       obtain⟨q,hx,rfl⟩:=zzb_.1 hc
       obtain⟨d',y',tm1,rfl,hq,rfl⟩:=zt_ ⟨rfl,rfl⟩ ⟨by simp,by simp⟩ hs
       obtain⟨e1,e2,e3⟩:=zY_ hd
       simp only[za_,cvbV]at hq
       split at hq
       .split at hq
        .next t0 ez z xs hlk =>
         split at hq
         .next hcd =>
          cases hq
          exact(lh_ h hop hs1 he hx e2 e3 hcd.2.2 hlk hcd.1 hcd.2.1).s e1
         .cases hq
        .cases hq
       .cases hq
      .cases hc
     .cases hc
    .cases hc
   .cases hc
 | nilCheck x =>
   rw[hop]at hc
   obtain⟨q,hx,rfl⟩:=zzb_.1 hc
   obtain⟨d',y',tm1,rfl,hq,rfl⟩:=zt_ ⟨rfl,rfl⟩ ⟨by simp,by simp⟩ hs
   obtain⟨e1,e2,e3⟩:=zY_ hd
   simp only[za_]at hq
   obtain⟨r,hr,hr'⟩:=zzb_.1 hq
   cases hr'
   exact(np_ h hop hx e2 e3 hr).s e1
 | extract x i =>
   rw[hop]at hc
   cases x with
   | tmp t =>
     simp only[compOp]at hc
     split at hc
     .cases hc
     .next htv =>
      cases hc
      obtain⟨d',y',tm1,rfl,hq,rfl⟩:=zt_ ⟨rfl,rfl⟩ ⟨by simp,by simp⟩ hs
      obtain⟨e1,e2,e3⟩:=zY_ hd
      simp only[za_]at hq
      split at hq
      .next vs hvs =>
       obtain⟨y,h1,h2⟩:=zza_.1 hq
       split at h2
       .next hk =>
        cases h2
        simp only[zzg_,yyh_]at hk
        exact(lf_ h hop (by simpa using htv) e2 e3 hvs h1 hk.1 hk.2).s e1
       .cases h2
      .cases hq
   |_=>simp[compOp]at hc
 | build t parts =>
   rw[hop]at hc
   simp only[compOp,zza_]at hc
   obtain⟨z,hz,hc⟩:=hc
   obtain⟨i,hi,hzz,_,_⟩:=yn_ hz
   split at hc
   .next fs hfs =>
    obtain⟨pl,hpl,hc⟩:=zza_.1 hc
    obtain⟨ps,hps,rfl⟩:=zzb_.1 hc
    obtain⟨d',y',tm1,rfl,hq,rfl⟩:=zt_ ⟨rfl,rfl⟩ ⟨by simp,by simp⟩ hs
    obtain⟨e1,e2,e3⟩:=zY_ hd
    simp only[za_]at hq
    obtain⟨⟨ys,tm2⟩,h1,h2⟩:=zza_.1 hq
    obtain⟨cs,h3,h4⟩:=zzb_.1 h2
    cases h4
    refine(mk_ h hop hz hps (fun vs cells hfill=>?_) e2 e3 h1 h3).s e1
    simp only[Program.built,hi,hfs,hzz,sa_ hpl]
    have:(fun x:Nat=>pl.toArray[x]?)=(fun x:Nat=>pl[x]?):=by funext x;simp
    rw[this]
    exact hfill
   .next n e hfs =>
    obtain⟨sz,hsz,hc⟩:=zza_.1 hc
    obtain⟨ps,hps,rfl⟩:=zzb_.1 hc
    obtain⟨d',y',tm1,rfl,hq,rfl⟩:=zt_ ⟨rfl,rfl⟩ ⟨by simp,by simp⟩ hs
    obtain⟨e1,e2,e3⟩:=zY_ hd
    simp only[za_]at hq
    obtain⟨⟨ys,tm2⟩,h1,h2⟩:=zza_.1 hq
    obtain⟨cs,h3,h4⟩:=zzb_.1 h2
    cases h4
    refine(mk_ h hop hz hps (fun vs cells hfill=>?_) e2 e3 h1 h3).s e1
    unfold sizeT at hsz
    obtain⟨ie,hie,hin⟩:=zzb_.1 hsz
    simp only[Program.built,hi,hfs,hzz,hie,hin]
    exact hfill
   .cases hc
 | buildSlice t len parts =>
   rw[hop]at hc
   simp only[compOp]at hc
   split at hc
   .next e he =>
    simp only[zza_]at hc
    obtain⟨n,hn,z,hz,hc⟩:=hc
    obtain⟨ps,hps,rfl⟩:=zzb_.1 hc
    obtain⟨d',y',tm1,rfl,hq,rfl⟩:=zt_ ⟨rfl,rfl⟩ ⟨by simp,by simp⟩ hs
    obtain⟨e1,e2,e3⟩:=zY_ hd
    simp only[za_]at hq
    obtain⟨⟨ys,tm2⟩,h1,h2⟩:=zza_.1 hq
    obtain⟨xs,h3,h4⟩:=zza_.1 h2
    split at h4
    .next hcond =>
     cases h4
     obtain⟨c1,c2,c3⟩:=hcond
     exact(mi_ (li_ h hop he hn hz hps e2 e3 h1 h3 c1 c2 (fun u hu=>zzh_.1 c3 u hu)) e2 e3).s e1
    .cases h4
   .cases hc
 | alloc e =>
   rw[hop]at hc
   simp only[compOp]at hc
   obtain⟨z,hz,rfl⟩:=zzb_.1 hc
   simp only[step]at hs
   split at hs
   .cases hs
    obtain⟨e1,e2,e3⟩:=zY_ hd
    exact ml_ h hop e1 hz e2 e3
   .cases hs
 | box e x =>
   rw[hop]at hc
   simp only[compOp,zza_]at hc
   obtain⟨q,hx,hc⟩:=hc
   obtain⟨n,hn,rfl⟩:=zzb_.1 hc
   simp only[step]at hs
   split at hs
   .obtain⟨⟨y,tm1⟩,h1,h2⟩:=zza_.1 hs
    split at h2
    .next hcond =>
     cases h2
     obtain⟨e1,e2,e3⟩:=zY_ hd
     exact l4_ h hop e1 hx e2 e3 h1 hcond.2
    .cases h2
   .cases hs
 | load t p =>
   rw[hop]at hc
   simp only[compOp,zza_]at hc
   obtain⟨q,hx,n,hn,ag,hag,hc⟩:=hc
   split at hc
   .cases hc
   .cases hc
    obtain⟨d',y',tm1,rfl,hq,rfl⟩:=zt_ ⟨rfl,rfl⟩ ⟨by simp,by simp⟩ hs
    obtain⟨e1,e2,e3⟩:=zY_ hd
    simp only[za_]at hq
    exact(la_ h hop hn hag hx e2 e3 hq).s e1
 | store t p x =>
   rw[hop]at hc
   simp only[compOp,zza_]at hc
   obtain⟨qp,hp,qx,hx,hc⟩:=hc
   obtain⟨n,hn,rfl⟩:=zzb_.1 hc
   have hdn:=mP_ hd rfl
   simp only[step,stV]at hs
   obtain⟨⟨y,tm1⟩,h1,h2⟩:=zza_.1 hs
   split at h2
   .next hl =>
    split at h2
    .next b off hlk =>
     split at h2
     .next hlt=>exact s_st h hop hdn hn hp hx hlk hlt h1 hl h2
     .cases h2
    .next l e i c hlk =>
     split at h2
     .next hee =>
      subst hee
      split at h2
      .next e' z xs hat =>
       split at h2
       .next old hold =>
        split at h2
        .cases h2
        .next him =>
         obtain⟨y',h3,h4⟩:=zza_.1 h2
         obtain⟨S1,h5,rfl⟩:=zzb_.1 h4
         exact mb_ h hop hdn hn hp hx hlk h1 hl hat hold h3 (by simpa using him) h5
       .cases h2
      .cases h2
     .cases h2
    .cases h2
   .cases h2
 | fieldAddr s x f =>
   rw[hop]at hc
   simp only[compOp,zza_]at hc
   obtain⟨q,hx,hc⟩:=hc
   split at hc
   .next fs hfs =>
    obtain⟨fl,hfl,hc⟩:=zza_.1 hc
    obtain⟨n,hn,hc⟩:=zza_.1 hc
    split at hc
    .cases hc
    .next hn0 =>
     cases hc
     obtain⟨d',y',tm1,rfl,hq,rfl⟩:=zt_ ⟨rfl,rfl⟩ ⟨by simp,by simp⟩ hs
     obtain⟨e1,e2,e3⟩:=zY_ hd
     simp only[za_]at hq
     obtain⟨r,hr,hr'⟩:=zzb_.1 hq
     cases hr'
     exact(q_fa h hop hfs hfl hn hn0 hx e2 e3 hr).s e1
   .cases hc
 | field s x f =>
   rw[hop]at hc
   simp only[compOp,zza_]at hc
   obtain⟨q,hx,hc⟩:=hc
   split at hc
   .next fs hfs =>
    obtain⟨fl,hfl,hc⟩:=zza_.1 hc
    obtain⟨⟨n,ag⟩,hn,rfl⟩:=zzb_.1 hc
    obtain⟨d',y,tm1,rfl,hq,rfl⟩:=zt_ ⟨rfl,rfl⟩ ⟨by simp,by simp⟩ hs
    obtain⟨e1,e2,e3⟩:=zY_ hd
    simp only[za_]at hq
    obtain⟨r,hr,hr'⟩:=zzb_.1 hq
    cases hr'
    exact(l7_ h hop hfs hfl hn hx e2 e3 hr).s e1
   .cases hc
 | index t x i =>
   rw[hop]at hc
   simp only[compOp,zza_]at hc
   obtain⟨qx,hx,qi,hi,hc⟩:=hc
   split at hc
   .next len e he =>
    obtain⟨⟨n,ag⟩,hn,rfl⟩:=zzb_.1 hc
    obtain⟨d',y,tm1,rfl,hq,rfl⟩:=zt_ ⟨rfl,rfl⟩ ⟨by simp,by simp⟩ hs
    obtain⟨e1,e2,e3⟩:=zY_ hd
    simp only[za_]at hq
    obtain⟨r,hr,hr'⟩:=zzb_.1 hq
    cases hr'
    exact(ld_ h hop he hn hx hi e2 e3 hr).s e1
   .next he =>
    cases hc
    obtain⟨d',y,tm1,rfl,hq,rfl⟩:=zt_ ⟨rfl,rfl⟩ ⟨by simp,by simp⟩ hs
    obtain⟨e1,e2,e3⟩:=zY_ hd
    simp only[za_]at hq
    obtain⟨r,hr,hr'⟩:=zzb_.1 hq
    cases hr'
    exact(md_ h hop he hx hi e2 e3 hr).s e1
   .cases hc
 | indexAddr t x i =>
   rw[hop]at hc
   simp only[compOp,zza_]at hc
   obtain⟨qx,hx,qi,hi,hc⟩:=hc
   split at hc
   .next e he =>
    obtain⟨z,hz,rfl⟩:=zzb_.1 hc
    obtain⟨d',y',tm1,rfl,hq,rfl⟩:=zt_ ⟨rfl,rfl⟩ ⟨by simp,by simp⟩ hs
    obtain⟨e1,e2,e3⟩:=zY_ hd
    exact(q_ia h hop he hz hx hi e2 e3 hq).s e1
   .next len e he =>
    obtain⟨z,hz,hc⟩:=zza_.1 hc
    split at hc
    .cases hc
    .cases hc
     obtain⟨d',y',tm1,rfl,hq,rfl⟩:=zt_ ⟨rfl,rfl⟩ ⟨by simp,by simp⟩ hs
     obtain⟨e1,e2,e3⟩:=zY_ hd
     simp only[za_]at hq
     obtain⟨r,hr,hr'⟩:=zzb_.1 hq
     cases hr'
     exact(le_ h hop he hz hx hi e2 e3 hr).s e1
   .cases hc
 | makeSlice t n c =>
   rw[hop]at hc
   simp only[compOp,zza_]at hc
   obtain⟨qn,hn,qc,hcc,hc⟩:=hc
   split at hc
   .next e he =>
    obtain⟨i,hi,hc⟩:=zza_.1 hc
    obtain⟨z,hz,rfl⟩:=zzb_.1 hc
    obtain⟨d',y',tm1,rfl,hq,rfl⟩:=zt_ ⟨rfl,rfl⟩ ⟨by simp,by simp⟩ hs
    obtain⟨e1,e2,e3⟩:=zY_ hd
    simp only[za_]at hq
    obtain⟨r,hr,hr'⟩:=zzb_.1 hq
    cases hr'
    exact(q_mk h hop he hi hz hn hcc e2 e3 hr).s e1
   .cases hc
 | slice t x lo hi mx =>
   rw[hop]at hc
   simp only[compOp,zza_]at hc
   obtain⟨q,hx,lo',h1,hi',h2,mx',h3,hc⟩:=hc
   split at hc
   .next e he =>
    obtain⟨z,hz,hc⟩:=zza_.1 hc
    split at hc
    .cases hc
    .next hmh =>
     cases hc
     obtain⟨d',y',tm1,rfl,hq,rfl⟩:=zt_ ⟨rfl,rfl⟩ ⟨by simp,by simp⟩ hs
     obtain⟨e1,e2,e3⟩:=zY_ hd
     exact(q_sl h hop he hz hx h1 h2 h3 hmh e2 e3 hq).s e1
   .next he =>
    split at hc
    .cases hc
    .next hm =>
     cases hc
     have hmx:mx=none:=by
      cases mx with
      |none=>rfl
      | some m =>
        simp only[opdO]at h3
        obtain⟨q',_,rfl⟩:=zzb_.1 h3
        simp at hm
     subst hmx
     obtain⟨d',y',tm1,rfl,hq,rfl⟩:=zt_ ⟨rfl,rfl⟩ ⟨by simp,by simp⟩ hs
     obtain⟨e1,e2,e3⟩:=zY_ hd
     simp only[za_]at hq
     obtain⟨r,hr,hr'⟩:=zzb_.1 hq
     cases hr'
     exact(l6_ h hop he hx h1 h2 e2 e3 hr).s e1
   .cases hc
 | call c =>
   rw[hop]at hc
   obtain⟨callee,args,argTypes⟩:=c
   simp only[compOp]at hc
   split at hc
   .split at hc
    .next x y t t' ha ht' =>
     have ha':args=#[x,y]:=by apply Array.toList_inj.1;exact ha
     have htt:argTypes=#[t,t']:=by apply Array.toList_inj.1;exact ht'
     subst ha'
     subst htt
     split at hc
     .next htt =>
      subst htt
      simp only[zza_]at hc
      obtain⟨qx,hx,qy,hy,hc⟩:=hc
      split at hc
      .next e he =>
       obtain⟨i,hi,hc⟩:=zza_.1 hc
       obtain⟨z,hz,rfl⟩:=zzb_.1 hc
       obtain⟨d',y',tm1,rfl,hq,rfl⟩:=zt_ ⟨rfl,rfl⟩ ⟨by simp,by simp⟩ hs
       obtain⟨e1,e2,e3⟩:=zY_ hd
       exact(lk_ h hop he hi hz hx hy e2 e3 hq).s e1
      .cases hc
     .cases hc
    .cases hc
   .split at hc
    .next x t ha ht' =>
     have ha':args=#[x]:=by apply Array.toList_inj.1;exact ha
     have htt:argTypes=#[t]:=by apply Array.toList_inj.1;exact ht'
     subst ha'
     subst htt
     obtain⟨qx,hx,hc⟩:=zza_.1 hc
     split at hc
     .next e he =>
      cases hc
      obtain⟨d',y',tm1,rfl,hq,rfl⟩:=zt_ ⟨rfl,rfl⟩ ⟨by simp,by simp⟩ hs
      obtain⟨e1,e2,e3⟩:=zY_ hd
      simp only[za_]at hq
      obtain⟨r,hr,hr'⟩:=zzb_.1 hq
      cases hr'
      exact(mg_ h hop he hx e2 e3 hr).s e1
     .next he =>
      cases hc
      obtain⟨d',y',tm1,rfl,hq,rfl⟩:=zt_ ⟨rfl,rfl⟩ ⟨by simp,by simp⟩ hs
      obtain⟨e1,e2,e3⟩:=zY_ hd
      simp only[za_]at hq
      split at hq
      .next s hss=>cases hq;exact(mc_ h hop he hx e2 e3 hss).s e1
      .cases hq
     .cases hc
    .cases hc
   .split at hc
    .next x y ha =>
     have ha':args=#[x,y]:=by apply Array.toList_inj.1;exact ha
     subst ha'
     obtain⟨qx,hx,hc⟩:=zza_.1 hc
     obtain⟨qy,hy,rfl⟩:=zzb_.1 hc
     obtain⟨d',y',tm1,rfl,hq,rfl⟩:=zt_ ⟨rfl,rfl⟩ ⟨by simp,by simp⟩ hs
     obtain⟨e1,e2,e3⟩:=zY_ hd
     simp only[za_]at hq
     split at hq
     .next k m k' n hm hn=>cases hq;exact(mf_ (mx:=false) h hop hx hy e2 e3 hm hn).s e1
     .cases hq
    .cases hc
   .split at hc
    .next x y ha =>
     have ha':args=#[x,y]:=by apply Array.toList_inj.1;exact ha
     subst ha'
     obtain⟨qx,hx,hc⟩:=zza_.1 hc
     obtain⟨qy,hy,rfl⟩:=zzb_.1 hc
     obtain⟨d',y',tm1,rfl,hq,rfl⟩:=zt_ ⟨rfl,rfl⟩ ⟨by simp,by simp⟩ hs
     obtain⟨e1,e2,e3⟩:=zY_ hd
     simp only[za_]at hq
     split at hq
     .next k m k' n hm hn=>cases hq;exact(mf_ (mx:=true) h hop hx hy e2 e3 hm hn).s e1
     .cases hq
    .cases hc
   .obtain⟨xs,_,hc⟩:=zza_.1 hc
    split at hc
    .split at hc
     .cases hc;cases d<;>simp[step]at hs
     .cases hc
    .cases hc
   .obtain⟨xs,_,hc⟩:=zza_.1 hc
    split at hc
    .cases hc
    .cases hc;cases d<;>simp[step]at hs
   .cases hc
 | makeFunc fn first caps =>
   rw[hop]at hc
   cases fn<;>simp only[compOp]at hc<;>try (cases hc;done)
   split at hc
   .next x hf hcp =>
    obtain⟨q,hx,rfl⟩:=zzb_.1 hc
    obtain⟨d',y',tm1,rfl,hq,rfl⟩:=zt_ ⟨rfl,rfl⟩ ⟨by simp,by simp⟩ hs
    obtain⟨e1,e2,e3⟩:=zY_ hd
    simp only[za_]at hq
    split at hq
    .next b hlk=>cases hq;exact(l9_ h hop hf hcp hx e2 e3 hlk).s e1
    .cases hq
   .cases hc
 |_=>rw[hop]at hc;simp[compOp]at hc
end
end
section
def St.setAt(S:St):Loc->V->St
 |.var i,y=>{ S with vs:=S.vs.set i y }
 | .cell b o, y => match S.bx[b]? with
   |some cs=>{ S with bx:=S.bx.set b (cs.set o y) }
   |none=>S
theorem wh_{S:St}{l:Loc}{x y:V}(h:S.at l=some x):(∀l',(S.setAt l y).at l'=if l'=l then some y else S.at l')/\(S.setAt l y).tm=S.tm/\(S.setAt l y).ep=S.ep/\(S.setAt l y).bx.length=S.bx.length/\(∀(b:Nat) (cs:List V),(S.setAt l y).bx[b]?=some cs->∃cs0,S.bx[b]?=some cs0/\cs.length=cs0.length):=by
 cases l with
 | var i =>
   have hi:=(zzc_.1 h).1
   refine⟨fun l'=>?_,rfl,rfl,rfl,fun b cs hb=>⟨cs,hb,rfl⟩⟩
   cases l' with
   | var j =>
     simp only[St.setAt,St.at,List.getElem?_set]
     by_cases hj:i=j
     .subst hj;simp[hi]
     .have:(Loc.var j)≠.var i:=fun e=>hj (by injection e with e;exact e.symm)
      simp[hj,this]
   |cell b o=>simp[St.setAt,St.at]
 | cell b o =>
   simp only[St.at,zza_]at h
   obtain⟨cs,hcs,hco⟩:=h
   have hb:=(zzc_.1 hcs).1
   have hoo:=(zzc_.1 hco).1
   simp only[St.setAt,hcs]
   refine⟨fun l'=>?_,trivial,trivial,by simp,fun b' cs' hb'=>?_⟩
   .cases l' with
    |var j=>simp[St.at]
    | cell b' o' =>
      simp only[St.at,List.getElem?_set]
      by_cases h1:b=b'
      .subst h1
       simp only[if_true,hb,zzt_,List.getElem?_set]
       by_cases h2:o=o'
       .subst h2;simp[hoo]
       .have:(Loc.cell b o')≠.cell b o:=fun e=>h2 (by injection e with _ e;exact e.symm)
        simp[h2,this,hcs]
      .have:(Loc.cell b' o')≠.cell b o:=fun e=>h1 (by injection e with e _;exact e.symm)
       simp[h1,this]
   .simp only[List.getElem?_set]at hb'
    split at hb'
    .next e=>subst e;simp at hb';subst hb';exact⟨cs,hcs,by simp⟩
    .exact⟨cs',hb',rfl⟩
section
variable{P:Program}{F:Fr}{g g':Gh}{w:World}{S:St}{a:Act}
theorem Rel.relabel(h:Rel F g w S a){S2:St}{l:Loc}{x y:V}{v:Value}{tm1:Nat->V}(hat:S.at l=some x)
 (htm2:S2.tm=tm1) (hat':∀l',S2.at l'=if l'=l then some y else S.at l') (hep':S2.ep=S.ep) (hlen':S2.bx.length=S.bx.length) (hB:∀(b:Nat) (cs:List V),S2.bx[b]?=some cs->∃cs0,S.bx[b]?=some cs0/\cs.length=cs0.length) (hv:z8_ F g w a l=some v)
 (htm1:∀t,t∉F.sv->(tm1 t=S.tm t\/tm1 t=.no\/tm1 t=.gone)) (htv:∀t∈F.sv,tm1 t=S.tm t)
 (hφ:g'.φ=g.φ) (hI:∀b o,o<g.I b->o<g'.I b) (hIl:∀k,0<g'.I k->k<w.heap.size)
 (hIbox:∀b,b<S.bx.length->g'.I (g.φ b)=0) (hy:Rep g' w y v) (hyl:leaf y=true) (hlk:locky y=true)
 (hyn:(∀l' e,y≠.view l' e)/\(∀l' e lo n,y≠.sview l' e lo n)/\(∀l' e i q,y≠.vp l' e i q)/\(∀cs,y≠.ip cs)) (hyp:∀b o,y≠.ptr b o)
 (hye:epOf y<=S.ep)
 (hxr:∀z xs,S2.row l=some (z,xs)->S.row l=some (z,xs))
 (hlr:∀d e z xs,y=.lent d S.ep e z xs->Rep g' w (.own true e z xs) v/\∀k,rb v=some k->∀b,b<S.bx.length->g.φ b≠k)
 (hownk:∀r p k,Own F g w S2 a r p k->Own F g w S a r p k/\g'.I k=0)
 (hll:∀l' d e z xs v' k,S2.at l'=some (.lent d S.ep e z xs)->z8_ F g w a l'=some v'->rb v'=some k->∀r p m,OwnX F g w S2 a r p k m->xs.length*z<=m) :
 Rel F g' w S2 a:=by
 have hval':∀l',z8_ F g' w a l'=z8_ F g w a l':=fun l'=>by
  cases l' with
  |var i=>rfl
  |cell b o=>simp only[z8_,hφ]
 have hless:∀t,Less (tm1 t) (S.tm t)\/tm1 t=.no:=fun t=>by
  by_cases ht:t∈F.sv
  .rw[htv t ht];exact .inl (Less.refl _)
  .rcases htm1 t ht with q|q|q
   .rw[q];exact .inl (Less.refl _)
   .exact .inr q
   .rw[q];exact .inl (Less.gone _)
 have hsub:∀t p u,(tm1 t).sub p=some u->leaf u=true->u=.gone\/u=.no\/(S.tm t).sub p=some u:=by
  intro t p u hs hl
  rcases hless t with q|q
  .rcases q.sub p u hs hl with q|q
   .exact .inl q
   .exact .inr (.inr q)
  .rw[q]at hs
   cases p with
   |nil=>simp[V.sub]at hs;exact .inr (.inl hs.symm)
   |cons i p=>simp[V.sub]at hs
 have hk:∀ {u:V} {c:Value},Rep g w u c->Rep g' w u c:=fun hr=>hr.keep (fun b o ho=>⟨hI b o ho,rfl⟩) (fun _ _ _=>rfl) (fun _ _ _ _=>by rw[hφ])
 have hhas:∀r u c,Has F g' w S2 a r u c↔Has F g w S2 a r u c:=by
  intro r u c
  cases r with
  |t t=>exact Iff.rfl
  |l l'=>simp only[Has,hval']
 have hown':∀r p k,Own F g' w S2 a r p k->Own F g w S2 a r p k:=fun r p k ⟨u,c,q1,q2⟩=>⟨u,c,(hhas r u c).1 q1,q2⟩
 have hownx':∀r p k m,OwnX F g' w S2 a r p k m->OwnX F g w S2 a r p k m:=fun r p k m ⟨u,c,q1,q2⟩=>⟨u,c,(hhas r u c).1 q1,q2⟩
 have hrow:∀l' z xs,S2.row l'=some (z,xs)->S.row l'=some (z,xs):=by
  intro l' z xs hr
  by_cases he:l'=l
  .subst he
   exact hxr z xs hr
  .unfold St.row at hr ⊢
   rw[hat',if_neg he,hep']at hr
   exact hr
 refine⟨h.sz,h.dfr,?_,?_,?_,?_,?_,?_,?_,?_,?_,?_,?_,hIl,?_,?_,?_,?_⟩
 .intro r u c hh
  cases r with
  | t t =>
    obtain⟨rfl,rfl⟩:=hh
    rcases hless t with q|q
    .rw[htm2];exact hk (q.rep g w _ (h.rep (.t t) _ _ ⟨rfl,rfl⟩))
    .rw[htm2,q];exact .no
  | l l' =>
    obtain⟨q1,q2⟩:=hh
    rw[hat']at q1
    rw[hval']at q2
    split at q1
    .next he =>
     subst he
     cases q1
     rw[hv]at q2
     cases q2
     exact hy
    .exact hk (h.rep (.l l') u c ⟨q1,q2⟩)
 .intro l' u hu
  rw[hat']at hu
  rw[hval']
  split at hu
  .next he=>subst he;exact h.lookv l' x hat
  .exact h.lookv l' u hu
 .intro l' d e z xs c hu hc
  rw[hat',hep']at hu
  rw[hval']at hc
  rw[hlen',hφ]
  split at hu
  .next he =>
   subst he
   cases hu
   rw[hv]at hc
   cases hc
   exact hlr d e z xs rfl
  .obtain⟨q1,q2⟩:=h.lentr l' d e z xs c hu hc
   exact⟨hk q1,q2⟩
 .intro b cs hb
  obtain⟨cs0,q1,q2⟩:=hB b cs hb
  obtain⟨vs,ty,q3,q4,q5⟩:=h.box b cs0 q1
  rw[hφ]
  exact⟨vs,ty,q3,by omega,hIbox b (zzc_.1 q1).1⟩
 .intro b b' hb hb' he
  rw[hφ]at he
  exact h.inj b b' (hlen' ▸ hb) (hlen' ▸ hb') he
 .intro r u c p b o hh hs
  rw[hlen']
  cases r with
  | t t =>
    obtain⟨rfl,rfl⟩:=hh
    rw[htm2]at hs
    rcases hsub t p _ hs rfl with q|q|q
    .cases q
    .cases q
    .exact h.ptr (.t t) _ _ p b o ⟨rfl,rfl⟩ q
  | l l' =>
    obtain⟨q1,q2⟩:=hh
    rw[hat']at q1
    rw[hval']at q2
    split at q1
    .cases q1
     cases p with
     |nil=>simp[V.sub]at hs;exact absurd hs (hyp b o)
     |cons i p=>exact absurd hs (zV_ hyl)
    .exact h.ptr (.l l') u c p b o ⟨q1,q2⟩ hs
 .intro r p k ho
  obtain⟨q1,q2⟩:=hownk r p k (hown' r p k ho)
  obtain⟨q3,q4,q5⟩:=h.ownI r p k q1
  exact⟨q2,q4,fun b hb=>by rw[hφ];exact q5 b (hlen' ▸ hb)⟩
 .intro r p r' p' k h1 h2
  exact h.uniq r p r' p' k (hownk r p k (hown' r p k h1)).1 (hownk r' p' k (hown' r' p' k h2)).1
 .intro t p u c hu hc
  rw[htm2]at hu
  have hl0:Link F g w S a u c->Link F g' w S2 a u c:=by
   intro hl
   have hlk':∀l',S.locky l'->S2.locky l':=by
    intro l' ⟨q,q1,q2⟩
    by_cases he:l'=l
    .subst he;exact⟨y,by rw[hat',if_pos rfl],hlk⟩
    .exact⟨q,by rw[hat',if_neg he];exact q1,q2⟩
   cases u<;>simp only[Link,hval',hep']at hl ⊢
   all_goals
    intro he
    obtain⟨q1,q2⟩:=hl he
    exact⟨hlk' _ q1,fun z xs hr=>q2 z xs (hrow _ z xs hr)⟩
  by_cases hlf:leaf u=true
  .rcases hsub t p u hu hlf with rfl|rfl|q
   .trivial
   .trivial
   .exact hl0 (h.link t p u c q hc)
  .cases u<;>simp[leaf]at hlf<;>trivial
 .intro l' u hu
  rw[hat']at hu
  split at hu
  .cases hu
   intro p
   cases p with
   |nil=>simp only[V.sub,ne_eq,yya_];exact hyn
   |cons i p=>exact⟨fun _ _=>zV_ hyl,fun _ _ _ _=>zV_ hyl,fun _ _ _ _=>zV_ hyl,fun _=>zV_ hyl⟩
  .exact h.novw l' u hu
 .intro t p d e0 e z xs hs
  rw[htm2]at hs
  rcases hsub t p _ hs rfl with q|q|q
  .cases q
  .cases q
  .exact h.notl t p d e0 e z xs q
 .intro t ht
  rw[htm2]
  exact(htv t ht).trans (h.tmv t ht)
 .intro t p u hu
  rw[htm2]at hu
  rw[hep']
  by_cases hlf:leaf u=true
  .rcases hsub t p u hu hlf with rfl|rfl|q
   .exact zzn_ _
   .exact zzn_ _
   .exact h.ept t p u q
  .cases u<;>simp[leaf]at hlf<;>exact zzn_ _
 .intro l' u hu
  rw[hat']at hu
  rw[hep']
  split at hu
  .cases hu;exact hye
  .exact h.epl l' u hu
 .intro l' d e z xs c k hu hc hk r p m ho
  rw[hep']at hu
  rw[hval']at hc
  exact hll l' d e z xs c k hu hc hk r p m (hownx' r p k m ho)
def St.frzTo(S:St)(l:Loc)(e':Nat):Option St :=
 match S.at l with
 |some (.own true _ z xs)=>some (S.setAt l (.own false e' z xs))
 |some _=>some S
 |none=>none
def St.freeze(S:St)(l:Loc):Option St :=
 match S.at l with
 |some (.own true e z xs)=>if e=FULL then some S else some (S.setAt l (.own false e z xs))
 |some (.own false e z xs)=>if e=FULL then some (S.setAt l (.own false 0 z xs)) else some S
 |some _=>some S
 |none=>none
theorem sZ_(h:Rel F g w S a){l:Loc}{S':St}{e':Nat}(he:e'≠FULL)(hf:S.frzTo l e'=some S'):∃g',Rel F g' w S' a/\Fw F g w S a g' w S' a/\g'.φ=g.φ/\S'.bx.length=S.bx.length:=by
 unfold St.frzTo at hf
 split at hf
 .next e z xs hat =>
  cases hf
  obtain⟨v,hv,_⟩:=h.lookv l _ hat
  have hr:=h.rep (.l l) _ _ ⟨hat,hv⟩
  obtain⟨hA,hT,hE,hL,hB⟩:=wh_ (y:=.own false e' z xs) hat
  have hbase:∀b q N c,v=.slice (some ⟨b,q,none⟩) N c->xs≠[]->q=0:=by
   intro b q N c hvv hne
   cases hr with
   |own vals h0 hc hm hh hs hz hi hcell hrep=>simp only[Value.slice.injEq,yya_,Addr.mk.injEq]at hvv;exact hvv.1.2.1.symm
   |own0=>exact absurd rfl hne
  have hown:∀k,rb v=some k->Own F g w S a (.l l) [] k:=fun k hk=>⟨_,_,⟨hat,hv⟩,.inl ⟨e,z,xs,v,rfl,rfl,hk⟩⟩
  have hol:∀r p k,Own F g w (S.setAt l (.own false e' z xs)) a r p k->Own F g w S a r p k/\rb v≠some k:=by
   intro r p k ⟨x,u,hh,ho⟩
   have key:Own F g w S a r p k/\r≠.l l:=by
    cases r with
    | t t =>
      obtain⟨rfl,rfl⟩:=hh
      rw[hT]at ho
      refine⟨⟨_,_,⟨rfl,rfl⟩,?_⟩,by simp⟩
      rcases ho with ho|⟨q1,q2,q3⟩
      .exact .inl ho
      .obtain⟨d,e',z',xs',q4,q5⟩:=z4_ q2
       rw[hE]at q4
       exact absurd (by rw[q4];rfl) (h.notl t [] d _ e' z' xs')
    | l l' =>
      have h1:=hh.1
      rw[hA]at h1
      split at h1
      .next he =>
       cases h1
       rcases ho with ⟨_,_,_,_,q,_⟩|⟨_,q,_⟩
       .cases p<;>simp[V.sub]at q
       .simp[zi_]at q
      .next he =>
       refine⟨⟨x,u,⟨h1,hh.2⟩,?_⟩,fun e=>he (by injection e)⟩
       rcases ho with ho|⟨q1,q2,q3⟩
       .exact .inl ho
       .obtain⟨d,e',z',xs',q4,q5⟩:=z4_ q2
        subst q4
        rw[hT]at q5
        exact .inr ⟨q1,by rw[hE];simp[zi_,q5],q3⟩
   refine⟨key.1,fun hk=>key.2 ?_⟩
   exact(h.uniq _ _ _ _ _ key.1 (hown k hk)).1
  have hox:∀r p k m,OwnX F g w (S.setAt l (.own false e' z xs)) a r p k m->OwnX F g w S a r p k m:=by
   intro r p k m ⟨x,u,hh,ho⟩
   cases r with
   | t t =>
     obtain⟨rfl,rfl⟩:=hh
     rw[hT]at ho
     refine⟨_,_,⟨rfl,rfl⟩,?_⟩
     rcases ho with ho|⟨q1,d,e',z',xs',q2,q3,q4⟩
     .exact .inl ho
     .rw[hE]at q2;exact .inr ⟨q1,d,e',z',xs',q2,q3,q4⟩
   | l l' =>
     have h1:=hh.1
     rw[hA]at h1
     split at h1
     .cases h1
      rcases ho with ⟨_,_,_,_,q,_⟩|⟨_,_,_,_,_,q,_⟩
      .cases p<;>simp[V.sub]at q
      .cases q
     .refine⟨x,u,⟨h1,hh.2⟩,?_⟩
      rcases ho with ho|⟨q1,d,e',z',xs',q2,q3,q4⟩
      .exact .inl ho
      .rw[hE]at q2;rw[hT]at q3;exact .inr ⟨q1,d,e',z',xs',q2,q3,q4⟩
  have fin:∀g':Gh,g'.φ=g.φ->(∀b o,o<g.I b->o<g'.I b)->(∀k,0<g'.I k->k<w.heap.size)->(∀k,g'.I k≠g.I k->rb v=some k)->Rep g' w (.list z xs) v->∃g',Rel F g' w (S.setAt l (.own false e' z xs)) a/\Fw F g w S a g' w (S.setAt l (.own false e' z xs)) a/\g'.φ=g.φ/\(S.setAt l (.own false e' z xs)).bx.length=S.bx.length:=by
   intro g' hφ hI hIl hch hrl
   have hsame:∀k,rb v≠some k->g'.I k=g.I k:=fun k hk=>by
    by_cases e:g'.I k=g.I k
    .exact e
    .exact absurd (hch k e) hk
   refine⟨g',h.relabel (tm1:=S.tm) hat hT hA hE hL hB hv (fun _ _=>.inl rfl) (fun _ _=>rfl) hφ hI hIl (fun b hb=>?_) (.ownf hrl hbase (fun q=>absurd q he)) rfl rfl ⟨by simp,by simp,by simp,by simp⟩ (by simp) (zzn_ _) (fun z' xs' hr'=>?_) (fun d e' z' xs' he=>by cases he) (fun r p k ho=>?_) (fun l' d e' z' xs' v' k h1 h2 h3 r p m ho=>?_),⟨rfl,rfl,rfl,zzl_ _,fun k _ ho=>⟨rfl,hsame k (fun hk=>ho (.inl ⟨_,_,hown k hk⟩))⟩,fun k ho=>.inl ?_⟩,hφ,hL⟩
   .rw[hsame _ (fun hk=>(h.ownI _ _ _ (hown _ hk)).2.2 b hb rfl)]
    exact(zU_ h hb).2
   .have e1:(S.setAt l (.own false e' z xs)).row l=some (z,xs):=by simp only[St.row,hA,if_true]
    rw[e1]at hr'
    rw[<-hr']
    simp[St.row,hat]
   .obtain⟨q1,q2⟩:=hol r p k ho
    exact⟨q1,by rw[hsame k q2];exact(h.ownI r p k q1).1⟩
   .rw[hA]at h1
    split at h1
    .cases h1
    .exact h.lentl l' d e' z' xs' v' k h1 h2 h3 r p m (hox r p k m ho)
   .rcases ho with ⟨r,p,x,u,hh,ho⟩|⟨b,hb,e⟩
    .refine .inl ⟨r,p,(hol r p k ⟨x,u,?_,ho⟩).1⟩
     cases r with
     |t t=>exact hh
     | l l' =>
       refine⟨hh.1,?_⟩
       rw[<-hh.2]
       cases l' with
       |var i=>rfl
       |cell b o=>simp only[z8_,hφ]
    .rw[hφ]at e
     exact .inr ⟨b,by rw[<-hL];exact hb,e⟩
  rcases hr.freeze with ⟨hn,q⟩|⟨k,n,hk,q⟩
  .exact fin g rfl (fun _ _ h=>h) h.Ilt (fun k hk=>absurd rfl hk) q
  .obtain⟨k1,k2,k3⟩:=h.ownI _ _ _ (hown k hk)
   refine fin (g.frz k n) rfl (fun b o ho=>?_) (fun k' hk'=>?_) (fun k' hk'=>?_) (q k1)
   .simp only[Gh.frz]
    split
    .next e=>subst e;omega
    .exact ho
   .simp only[Gh.frz]at hk'
    split at hk'
    .next e=>subst e;exact k2
    .exact h.Ilt k' hk'
   .simp only[Gh.frz]at hk'
    split at hk'
    .next e=>subst e;exact hk
    .exact absurd rfl hk'
 .cases hf
  exact⟨g,h,Fw.refl _ _ _ _ _,rfl,rfl⟩
 .cases hf
theorem pQ_(h:Rel F g w S a){l:Loc}{e e' z:Nat}{xs:List V}(hat:S.at l=some (.own false e z xs))(he:e'≠FULL):∃g',Rel F g' w (S.setAt l (.own false e' z xs)) a/\Fw F g w S a g' w (S.setAt l (.own false e' z xs)) a/\g'.φ=g.φ/\(S.setAt l (.own false e' z xs)).bx.length=S.bx.length:=by
 obtain⟨v,hv,_⟩:=h.lookv l _ hat
 have hr:=h.rep (.l l) _ _ ⟨hat,hv⟩
 obtain⟨hA,hT,hE,hL,hB⟩:=wh_ (y:=.own false e' z xs) hat
 have hol:∀r p k,Own F g w (S.setAt l (.own false e' z xs)) a r p k->Own F g w S a r p k:=by
  intro r p k ⟨x,u,hh,ho⟩
  have key:Own F g w S a r p k:=by
   cases r with
   | t t =>
     obtain⟨rfl,rfl⟩:=hh
     rw[hT]at ho
     refine⟨_,_,⟨rfl,rfl⟩,?_⟩
     rcases ho with ho|⟨q1,q2,q3⟩
     .exact .inl ho
     .obtain⟨d,e',z',xs',q4,q5⟩:=z4_ q2
      rw[hE]at q4
      exact absurd (by rw[q4];rfl) (h.notl t [] d _ e' z' xs')
   | l l' =>
     have h1:=hh.1
     rw[hA]at h1
     split at h1
     .next he =>
      cases h1
      rcases ho with ⟨_,_,_,_,q,_⟩|⟨_,q,_⟩
      .cases p<;>simp[V.sub]at q
      .simp[zi_]at q
     .next he =>
      refine⟨x,u,⟨h1,hh.2⟩,?_⟩
      rcases ho with ho|⟨q1,q2,q3⟩
      .exact .inl ho
      .obtain⟨d,e',z',xs',q4,q5⟩:=z4_ q2
       subst q4
       rw[hT]at q5
       exact .inr ⟨q1,by rw[hE];simp[zi_,q5],q3⟩
  exact key
 have hox:∀r p k m,OwnX F g w (S.setAt l (.own false e' z xs)) a r p k m->OwnX F g w S a r p k m:=by
  intro r p k m ⟨x,u,hh,ho⟩
  cases r with
  | t t =>
    obtain⟨rfl,rfl⟩:=hh
    rw[hT]at ho
    refine⟨_,_,⟨rfl,rfl⟩,?_⟩
    rcases ho with ho|⟨q1,d,e',z',xs',q2,q3,q4⟩
    .exact .inl ho
    .rw[hE]at q2;exact .inr ⟨q1,d,e',z',xs',q2,q3,q4⟩
  | l l' =>
    have h1:=hh.1
    rw[hA]at h1
    split at h1
    .cases h1
     rcases ho with ⟨_,_,_,_,q,_⟩|⟨_,_,_,_,_,q,_⟩
     .cases p<;>simp[V.sub]at q
     .cases q
    .refine⟨x,u,⟨h1,hh.2⟩,?_⟩
     rcases ho with ho|⟨q1,d,e',z',xs',q2,q3,q4⟩
     .exact .inl ho
     .rw[hE]at q2;rw[hT]at q3;exact .inr ⟨q1,d,e',z',xs',q2,q3,q4⟩
 have hrl:Rep g w (.own false e' z xs) v:=by
  cases hr with
  |ownf h1 h2 _=>exact .ownf h1 h2 (fun q=>absurd q he)
 refine⟨g,h.relabel (tm1:=S.tm) hat hT hA hE hL hB hv (fun _ _=>.inl rfl) (fun _ _=>rfl) rfl (fun _ _ q=>q) h.Ilt (fun b hb=>(zU_ h hb).2) hrl rfl rfl ⟨by simp,by simp,by simp,by simp⟩ (by simp) (zzn_ _) (fun z' xs' hr'=>?_) (fun d e' z' xs' he=>by cases he) (fun r p k ho=>⟨hol r p k ho,(h.ownI r p k (hol r p k ho)).1⟩) (fun l' d e' z' xs' v' k h1 h2 h3 r p m ho=>?_),⟨rfl,rfl,rfl,zzl_ _,fun k _ ho=>⟨rfl,rfl⟩,fun k ho=>.inl ?_⟩,rfl,hL⟩
 .have e1:(S.setAt l (.own false e' z xs)).row l=some (z,xs):=by simp only[St.row,hA,if_true]
  rw[e1]at hr'
  rw[<-hr']
  simp[St.row,hat]
 .rw[hA]at h1
  split at h1
  .cases h1
  .exact h.lentl l' d e' z' xs' v' k h1 h2 h3 r p m (hox r p k m ho)
 .rcases ho with ⟨r,p,ho⟩|⟨b,hb,e⟩
  .exact .inl ⟨r,p,hol r p k ho⟩
  .exact .inr ⟨b,by rw[<-hL];exact hb,e⟩
theorem p8_(h:Rel F g w S a){l:Loc}{S':St}(hf:S.freeze l=some S'):∃g',Rel F g' w S' a/\Fw F g w S a g' w S' a/\g'.φ=g.φ/\S'.bx.length=S.bx.length:=by
 unfold St.freeze at hf
 split at hf
 .next e z xs hat =>
  split at hf
  .cases hf;exact⟨g,h,Fw.refl _ _ _ _ _,rfl,rfl⟩
  .next he=>exact sZ_ (e':=e) h he (by unfold St.frzTo;rw[hat];exact hf)
 .next e z xs hat =>
  split at hf
  .cases hf;exact pQ_ h hat (by decide)
  .cases hf;exact⟨g,h,Fw.refl _ _ _ _ _,rfl,rfl⟩
 .cases hf;exact⟨g,h,Fw.refl _ _ _ _ _,rfl,rfl⟩
 .cases hf
end
end
section
section
variable{P:Program}{F:Fr}{g g':Gh}{w:World}{S:St}{a:Act}
theorem Rel.bump(h:Rel F g w S a):Rel F g w { S with ep:=S.ep+1 } a/\Fw F g w S a g w { S with ep:=S.ep+1 } a:=by
 have hat:∀l,({ S with ep:=S.ep+1 }:St).at l=S.at l:=fun l=>by cases l<;>rfl
 have hln:∀x,(epOf x<=S.ep)->zi_ { S with ep:=S.ep+1 } x=false:=by
  intro x hx
  cases x<;>simp[zi_]
  rename_i d e0 e z xs
  intro he
  simp[epOf]at hx
  omega
 have hown:∀r p k,Own F g w { S with ep:=S.ep+1 } a r p k->Own F g w S a r p k/\∃x v,Has F g w S a r x v/\zD_ x v p k:=by
  intro r p k ⟨x,v,hh,ho⟩
  have hh':Has F g w S a r x v:=by
   cases r with
   |t t=>exact hh
   |l l=>exact⟨(hat l) ▸ hh.1,hh.2⟩
  rcases ho with ho|⟨_,q,_⟩
  .exact⟨⟨x,v,hh',.inl ho⟩,x,v,hh',ho⟩
  ·have he:epOf x≤S.ep:=by
    cases r with
    |t t=>obtain⟨rfl,_⟩:=hh';exact h.ept t [] _ rfl
    |l l=>exact h.epl l x hh'.1
   rw[hln x he]at q
   cases q
 refine⟨⟨h.sz,h.dfr,?_,?_,?_,h.box,h.inj,?_,?_,?_,?_,?_,h.notl,h.Ilt,h.tmv,?_,?_,?_⟩,⟨rfl,rfl,rfl,zzl_ _,fun _ _ _=>⟨rfl,rfl⟩,fun k ho=>.inl ?_⟩⟩
 .intro r x v hh
  cases r with
  |t t=>exact h.rep (.t t) x v hh
  |l l=>exact h.rep (.l l) x v ⟨(hat l) ▸ hh.1,hh.2⟩
 .exact fun l x hl=>h.lookv l x ((hat l) ▸ hl)
 .intro l d e z xs v hl _
  have:=h.epl l _ ((hat l) ▸ hl)
  simp only[epOf]at this
  omega
 .intro r x v p b o hh hs
  cases r with
  |t t=>exact h.ptr (.t t) x v p b o hh hs
  |l l=>exact h.ptr (.l l) x v p b o ⟨(hat l) ▸ hh.1,hh.2⟩ hs
 .exact fun r p k ho=>h.ownI r p k (hown r p k ho).1
 .exact fun r p r' p' k h1 h2=>h.uniq r p r' p' k (hown r p k h1).1 (hown r' p' k h2).1
 .intro t p x v hx hv
  have he:=h.ept t p x hx
  cases x<;>simp only[Link]<;>first|trivial|(intro hee;simp only[epOf]at he;omega)
 .exact fun l x hl=>h.novw l x ((hat l) ▸ hl)
 .exact fun t p x hx=>Nat.le_succ_of_le (h.ept t p x hx)
 .exact fun l x hl=>Nat.le_succ_of_le (h.epl l x ((hat l) ▸ hl))
 .intro l d e z xs v k hl
  have:=h.epl l _ ((hat l) ▸ hl)
  simp only[epOf]at this
  omega
 .rcases ho with ⟨r,p,ho⟩|ho
  .exact .inl ⟨r,p,(hown r p k ho).1⟩
  .exact .inr ho
def St.lend(S:St)(l:Loc)(d:Nat):Option St :=
 match S.at l with
 |some (.own true e z xs)=>some { (({ S with ep:=S.ep+1 }:St).setAt l (.lent d (S.ep+1) e z xs)) with tm:=upd S.tm d .no }
 |some _=>some S
 |none=>none
theorem sg_(h:Rel F g w S a){l:Loc}{d:Nat}(hd:d∉F.sv){S':St}(hf:S.lend l d=some S'):Rel F g w S' a/\Fw F g w S a g w S' a/\S'.bx.length=S.bx.length:=by
 unfold St.lend at hf
 split at hf
 .next e z xs hat =>
  cases hf
  obtain⟨hb,hfb⟩:=h.bump
  have hatb:({ S with ep:=S.ep+1 }:St).at l=some (.own true e z xs):=by rw[<-hat];cases l<;>rfl
  obtain⟨v,hv,_⟩:=h.lookv l _ hat
  obtain⟨hA,hT,hE,hL,hB⟩:=wh_ (y:=.lent d (S.ep+1) e z xs) hatb
  generalize hS2:({ (({ S with ep:=S.ep+1 }:St).setAt l (.lent d (S.ep+1) e z xs)) with tm:=upd S.tm d .no }:St)=S2
  have htm2:S2.tm=upd S.tm d .no:=by rw[<-hS2]
  have hat2:∀l',S2.at l'=if l'=l then some (.lent d (S.ep+1) e z xs) else ({ S with ep:=S.ep+1 }:St).at l':=fun l'=>by rw[<-hA l',<-hS2];cases l'<;>rfl
  have hep2:S2.ep=S.ep+1:=by rw[<-hS2];exact hE
  have hlen2:S2.bx.length=S.bx.length:=by rw[<-hS2];exact hL
  have hB2:∀(b:Nat) (cs:List V),S2.bx[b]?=some cs->∃cs0,S.bx[b]?=some cs0/\cs.length=cs0.length:=fun b cs hbb=>by rw[<-hS2]at hbb;exact hB b cs hbb
  have hrep:=h.rep (.l l) _ _ ⟨hat,hv⟩
  have hown:∀k,rb v=some k->Own F g w S a (.l l) [] k:=fun k hk=>⟨_,_,⟨hat,hv⟩,.inl ⟨e,z,xs,v,rfl,rfl,hk⟩⟩
  have hbat:∀l',({ S with ep:=S.ep+1 }:St).at l'=S.at l':=fun l'=>by cases l'<;>rfl
  have hol:∀r p k,Own F g w S2 a r p k->Own F g w { S with ep:=S.ep+1 } a r p k:=by
   intro r p k ⟨x,u,hh,ho⟩
   cases r with
   | t t =>
     obtain⟨rfl,rfl⟩:=hh
     rw[htm2]at ho
     by_cases he:t=d
     .subst he
      rw[zm_]at ho
      rcases ho with ⟨_,_,_,_,q,_⟩|⟨_,q,_⟩
      .cases p<;>simp[V.sub]at q
      .simp[zi_]at q
     .rw[y9_ _ _ he]at ho
      rcases ho with ho|⟨_,q2,_⟩
      .exact⟨_,_,⟨rfl,rfl⟩,.inl ho⟩
      .obtain⟨d',e',z',xs',q4,_⟩:=z4_ q2
       exact absurd (by rw[q4];rfl) (h.notl t [] d' _ e' z' xs')
   | l l' =>
     have h1:=hh.1
     rw[hat2]at h1
     split at h1
     .next he =>
      subst he
      cases h1
      have h2:=hh.2
      rw[hv]at h2
      cases h2
      rcases ho with ⟨_,_,_,_,q,_⟩|⟨rfl,_,q⟩
      .cases p<;>simp[V.sub]at q
      .exact⟨_,_,⟨hatb,hv⟩,.inl ⟨e,z,xs,v,rfl,rfl,q⟩⟩
     .next he =>
      rcases ho with ho|⟨q1,q2,q3⟩
      .exact⟨x,u,⟨h1,hh.2⟩,.inl ho⟩
      .obtain⟨d',e',z',xs',q4,_⟩:=z4_ q2
       subst q4
       have:=h.epl l' _ ((hbat l') ▸ h1)
       simp only[epOf,hep2]at this
       omega
  have hrel:Rel F g w S2 a:=by
   refine hb.relabel (tm1:=upd S.tm d .no) hatb htm2 hat2 hep2 hlen2 hB2 hv (fun t _=>?_) (fun t ht=>y9_ _ _ (fun e=>hd (e ▸ ht))) rfl (fun _ _ h=>h) h.Ilt (fun b hb'=>(zU_ h hb').2) .lent rfl rfl ⟨by simp,by simp,by simp,by simp⟩ (by simp) (zzl_ _) (fun z' xs' hr'=>?_) (fun d' e' z' xs' he=>?_) (fun r p k ho=>?_) (fun l' d' e' z' xs' v' k h1 h2 h3 r p m ho=>?_)
   .by_cases he:t=d
    .subst he;exact .inr (.inl (zm_ _ _ _))
    .exact .inl (y9_ _ _ he)
   .have e1:S2.row l=some (z,xs):=by simp only[St.row,hat2,if_true,hep2]
    rw[e1]at hr'
    rw[<-hr']
    simp[St.row,hatb]
   .injection he with _ _ he1 he2 he3
    subst he1
    subst he2
    subst he3
    exact⟨hrep,fun k hk=>(h.ownI _ _ _ (hown k hk)).2.2⟩
   .have:=hol r p k ho
    exact⟨this,(hb.ownI r p k this).1⟩
   .rw[hat2]at h1
    split at h1
    .next he =>
     subst he
     injection h1 with h1
     injection h1 with _ _ he1 he2 he3
     subst he1
     subst he2
     subst he3
     rw[hv]at h2
     cases h2
     -- the one owner
     obtain⟨rfl,rfl⟩:=hb.uniq _ _ _ _ _ (hol r p k ho.own) (⟨_,_,⟨hatb,hv⟩,.inl ⟨e,z,xs,v,rfl,rfl,h3⟩⟩:Own F g w { S with ep:=S.ep+1 } a (.l l') [] k)
     obtain⟨x,u,hh,ho⟩:=ho
     have h1':=hh.1
     rw[hat2,if_pos rfl]at h1'
     cases h1'
     rcases ho with ⟨_,_,_,_,q,_⟩|⟨_,d2,e2,z2,xs2,q,_,_,q4⟩
     .simp[V.sub]at q
     .injection q with _ _ _ q1 q2
      subst q1
      subst q2
      omega
    .next he =>
     have:=h.epl l' _ ((hbat l') ▸ h1)
     simp only[epOf]at this
     omega
  refine⟨hrel,hfb.trans ⟨rfl,rfl,rfl,zzl_ _,fun _ _ _=>⟨rfl,rfl⟩,fun k ho=>.inl ?_⟩,hlen2⟩
  rcases ho with ⟨r,p,ho⟩|⟨b,hb',e⟩
  .exact .inl ⟨r,p,hol r p k ho⟩
  .exact .inr ⟨b,by rw[<-hlen2];exact hb',e⟩
 .cases hf;exact⟨h,Fw.refl _ _ _ _ _,rfl⟩
 .cases hf
def St.lendN(S:St)(l:Loc)(d:Nat):Option St :=
 match S.at l with
 | some (.own true e z xs) => (match S.tm d with
   |.no=>some (S.setAt l (.lent d S.ep e z xs))
   |_=>none)
 |some _=>some S
 |none=>none
theorem oc_(h:Rel F g w S a){l:Loc}{d:Nat}{S':St}(hf:S.lendN l d=some S'):Rel F g w S' a/\Fw F g w S a g w S' a/\S'.bx.length=S.bx.length:=by
 unfold St.lendN at hf
 split at hf
 .next e z xs hat =>
  split at hf
  .next hno =>
   cases hf
   obtain⟨v,hv,_⟩:=h.lookv l _ hat
   obtain⟨hA,hT,hE,hL,hB⟩:=wh_ (y:=.lent d S.ep e z xs) hat
   generalize S.setAt l (.lent d S.ep e z xs)=S2 at hA hT hE hL hB ⊢
   have hrep:=h.rep (.l l) _ _ ⟨hat,hv⟩
   have hown:∀k,rb v=some k->Own F g w S a (.l l) [] k:=fun k hk=>⟨_,_,⟨hat,hv⟩,.inl ⟨e,z,xs,v,rfl,rfl,hk⟩⟩
   have hln:∀x,zi_ S2 x=zi_ S x:=by
    intro x
    cases x<;>simp only[zi_]
    rw[hE,hT]
   have hol:∀r p k,Own F g w S2 a r p k->Own F g w S a r p k:=by
    intro r p k ⟨x,u,hh,ho⟩
    cases r with
    | t t =>
      obtain⟨rfl,rfl⟩:=hh
      rw[hT,hln]at ho
      exact⟨_,_,⟨rfl,rfl⟩,ho⟩
    | l l' =>
      have h1:=hh.1
      rw[hA]at h1
      split at h1
      .next he =>
       subst he
       cases h1
       have h2:=hh.2
       rw[hv]at h2
       cases h2
       rcases ho with ⟨_,_,_,_,q,_⟩|⟨rfl,_,q⟩
       .cases p<;>simp[V.sub]at q
       .exact⟨_,_,⟨hat,hv⟩,.inl ⟨e,z,xs,v,rfl,rfl,q⟩⟩
      .next he =>
       rw[hln]at ho
       exact⟨x,u,⟨h1,hh.2⟩,ho⟩
   have hox:∀r p k m,OwnX F g w S2 a r p k m->OwnX F g w S a r p k m:=by
    intro r p k m ⟨x,u,hh,ho⟩
    cases r with
    | t t =>
      obtain⟨rfl,rfl⟩:=hh
      rw[hT,hE]at ho
      exact⟨_,_,⟨rfl,rfl⟩,ho⟩
    | l l' =>
      have h1:=hh.1
      rw[hA]at h1
      split at h1
      .next he =>
       subst he
       cases h1
       have h2:=hh.2
       rw[hv]at h2
       cases h2
       rcases ho with ⟨_,_,_,_,q,_⟩|⟨rfl,d2,e2,z2,xs2,q,_,q3,q4⟩
       .cases p<;>simp[V.sub]at q
       .injection q with _ _ _ q1 q2
        subst q1
        subst q2
        exact⟨_,_,⟨hat,hv⟩,.inl ⟨e,z,xs,v,rfl,rfl,q3,q4⟩⟩
      .next he =>
       rw[hT,hE]at ho
       exact⟨x,u,⟨h1,hh.2⟩,ho⟩
   have hrel:Rel F g w S2 a:=by
    refine h.relabel (tm1:=S.tm) hat hT hA hE hL hB hv (fun t _=>.inl rfl) (fun t _=>rfl) rfl (fun _ _ h=>h) h.Ilt (fun b hb'=>(zU_ h hb').2) .lent rfl rfl ⟨by simp,by simp,by simp,by simp⟩ (by simp) (zzl_ _) (fun z' xs' hr'=>?_) (fun d' e' z' xs' he=>?_) (fun r p k ho=>?_) (fun l' d' e' z' xs' v' k h1 h2 h3 r p m ho=>?_)
    .have e1:S2.row l=some (z,xs):=by simp only[St.row,hA,if_true,hE]
     rw[e1]at hr'
     rw[<-hr']
     simp[St.row,hat]
    .injection he with _ _ he1 he2 he3
     subst he1
     subst he2
     subst he3
     exact⟨hrep,fun k hk=>(h.ownI _ _ _ (hown k hk)).2.2⟩
    .have:=hol r p k ho
     exact⟨this,(h.ownI r p k this).1⟩
    .rw[hA]at h1
     split at h1
     .next he =>
      subst he
      injection h1 with h1
      injection h1 with _ _ he1 he2 he3
      subst he1
      subst he2
      subst he3
      rw[hv]at h2
      cases h2
      obtain⟨rfl,rfl⟩:=h.uniq _ _ _ _ _ (hol r p k ho.own) (⟨_,_,⟨hat,hv⟩,.inl ⟨e,z,xs,v,rfl,rfl,h3⟩⟩:Own F g w S a (.l l') [] k)
      obtain⟨x,u,hh,ho⟩:=ho
      have h1':=hh.1
      rw[hA,if_pos rfl]at h1'
      cases h1'
      rcases ho with ⟨_,_,_,_,q,_⟩|⟨_,d2,e2,z2,xs2,q,_,_,q4⟩
      .simp[V.sub]at q
      .injection q with _ _ _ q1 q2
       subst q1
       subst q2
       omega
     .next he =>
      exact h.lentl l' d' e' z' xs' v' k h1 h2 h3 r p m (hox r p k m ho)
   refine⟨hrel,⟨rfl,rfl,rfl,zzl_ _,fun _ _ _=>⟨rfl,rfl⟩,fun k ho=>.inl ?_⟩,hL⟩
   rcases ho with ⟨r,p,ho⟩|⟨b,hb',e⟩
   .exact .inl ⟨r,p,hol r p k ho⟩
   .exact .inr ⟨b,by rw[<-hL];exact hb',e⟩
  .cases hf
 .cases hf;exact⟨h,Fw.refl _ _ _ _ _,rfl⟩
 .cases hf
def u6_(b d:Nat):List Nat->St->Option St
 |[],S=>some S
 |o::r,S=>(S.lendN (.cell b o) d).bind (u6_ b d r)
def rB_(b d:Nat):List Nat->St->Option St
 |[],S=>some S
 | o :: r, S => match S.at (.cell b o) with
   |some (.own true _ _ _)=>(S.lend (.cell b o) d).bind (u6_ b d r)
   |some _=>rB_ b d r S
   |none=>none
theorem tr_{b d:Nat}:∀(os:List Nat) {S S':St},Rel F g w S a->u6_ b d os S=some S'->Rel F g w S' a/\Fw F g w S a g w S' a/\S'.bx.length=S.bx.length
 |[],S,S',h,hf=>by simp[u6_]at hf;subst hf;exact⟨h,Fw.refl _ _ _ _ _,rfl⟩
 | o :: r, S, S', h, hf => by
   simp only[u6_,zza_]at hf
   obtain⟨S1,h1,h2⟩:=hf
   obtain⟨k1,k2,k3⟩:=oc_ h h1
   obtain⟨k4,k5,k6⟩:=tr_ r k1 h2
   exact⟨k4,k2.trans k5,k6.trans k3⟩
theorem sR_{b d:Nat}(hd:d∉F.sv):∀(os:List Nat) {S S':St},Rel F g w S a->rB_ b d os S=some S'->Rel F g w S' a/\Fw F g w S a g w S' a/\S'.bx.length=S.bx.length
 |[],S,S',h,hf=>by simp[rB_]at hf;subst hf;exact⟨h,Fw.refl _ _ _ _ _,rfl⟩
 | o :: r, S, S', h, hf => by
   simp only[rB_]at hf
   split at hf
   .simp only[zza_]at hf
    obtain⟨S1,h1,h2⟩:=hf
    obtain⟨k1,k2,k3⟩:=sg_ h hd h1
    obtain⟨k4,k5,k6⟩:=tr_ r k1 h2
    exact⟨k4,k2.trans k5,k6.trans k3⟩
   .exact sR_ hd r h hf
   .cases hf
def St.adopt(S:St)(l:Loc)(e z:Nat):Option St :=
 match S.at l with
 |some (.s (.slice none 0 0))=>some (S.setAt l (.own true e z []))
 |some _=>some S
 |none=>none
theorem oA_(h:Rel F g w S a){l:Loc}{e z:Nat}{S':St}(hf:S.adopt l e z=some S'):Rel F g w S' a/\Fw F g w S a g w S' a/\S'.bx.length=S.bx.length:=by
 unfold St.adopt at hf
 split at hf
 .next hat =>
  cases hf
  obtain⟨v,hv,hv1⟩:=h.lookv l _ hat
  have hvv:=(h.rep (.l l) _ _ ⟨hat,hv⟩).of_s rfl
  subst hvv
  obtain⟨hA,hT,hE,hL,hB⟩:=wh_ (y:=.own true e z []) hat
  generalize S.setAt l (.own true e z [])=S2 at hA hT hE hL hB ⊢
  have hne:∀l' x,S2.at l'=some x->(l'=l/\x=.own true e z [])\/(l'≠l/\S.at l'=some x):=by
   intro l' x hx
   rw[hA]at hx
   split at hx
   .next q=>cases hx;exact .inl ⟨q,rfl⟩
   .next q=>exact .inr ⟨q,hx⟩
  have hown:∀r p k,Own F g w S2 a r p k->Own F g w S a r p k:=by
   intro r p k ⟨x,u,hh,ho⟩
   cases r with
   | t t =>
     obtain⟨rfl,rfl⟩:=hh
     rw[hT]at ho
     refine⟨_,_,⟨rfl,rfl⟩,?_⟩
     rcases ho with ho|⟨_,q,_⟩
     .exact .inl ho
     .obtain⟨d',e',z',xs',q4,_⟩:=z4_ q
      exact absurd (by rw[q4];rfl) (h.notl t [] d' _ e' z' xs')
   | l l' =>
     rcases hne l' x hh.1 with ⟨rfl,rfl⟩|⟨q1,q2⟩
     .have h2:=hh.2
      rw[hv]at h2
      cases h2
      exfalso
      rcases ho with ⟨_,_,_,u',d1,d2,d3⟩|⟨_,q,_⟩
      .cases p with
       |nil=>simp[vsub]at d2;subst d2;simp[rb]at d3
       |cons i p=>simp[V.sub]at d1
      .simp[zi_]at q
     .refine⟨x,u,⟨q2,hh.2⟩,?_⟩
      rcases ho with ho|⟨d1,d2,d3⟩
      .exact .inl ho
      .obtain⟨d,e',z',xs',q4,q5⟩:=z4_ d2
       subst q4
       rw[hT]at q5
       exact .inr ⟨d1,by rw[hE];simp[zi_,q5],d3⟩
  have hox:∀r p k m,OwnX F g w S2 a r p k m->OwnX F g w S a r p k m:=by
   intro r p k m ⟨x,u,hh,ho⟩
   cases r with
   | t t =>
     obtain⟨rfl,rfl⟩:=hh
     rw[hT]at ho
     refine⟨_,_,⟨rfl,rfl⟩,?_⟩
     rcases ho with ho|⟨q1,d,e',z',xs',q2,q3,q4⟩
     .exact .inl ho
     .rw[hE]at q2;exact .inr ⟨q1,d,e',z',xs',q2,q3,q4⟩
   | l l' =>
     rcases hne l' x hh.1 with ⟨rfl,rfl⟩|⟨q1,q2⟩
     .have h2:=hh.2
      rw[hv]at h2
      cases h2
      exfalso
      rcases ho with ⟨_,_,_,u',d1,d2,d3,_⟩|⟨_,_,_,_,_,q,_⟩
      .cases p with
       |nil=>simp[vsub]at d2;subst d2;simp[rb]at d3
       |cons i p=>simp[V.sub]at d1
      .cases q
     .refine⟨x,u,⟨q2,hh.2⟩,?_⟩
      rcases ho with ho|⟨d1,d,e',z',xs',d2,d3,d4⟩
      .exact .inl ho
      .rw[hT]at d3;rw[hE]at d2;exact .inr ⟨d1,d,e',z',xs',d2,d3,d4⟩
  have hlk:∀l',S.locky l'->S2.locky l'/\S2.row l'=S.row l':=by
   intro l' ⟨x,hx,hl⟩
   have hnl:l'≠l:=by
    intro q
    subst q
    rw[hat]at hx
    cases hx
    simp[Go.Proofs.Ytnbppaolinopeaa.locky]at hl
   have:S2.at l'=S.at l':=by rw[hA,if_neg hnl]
   exact⟨⟨x,this.trans hx,hl⟩,by simp only[St.row,this,hE]⟩
  refine⟨⟨h.sz,h.dfr,?_,?_,?_,?_,?_,?_,?_,?_,?_,?_,?_,h.Ilt,?_,?_,?_,?_⟩,⟨rfl,rfl,rfl,zzl_ _,fun _ _ _=>⟨rfl,rfl⟩,fun k ho=>.inl ?_⟩,hL⟩
  .intro r x u hh
   cases r with
   |t t=>obtain⟨rfl,rfl⟩:=hh;rw[hT];exact h.rep (.t t) _ _ ⟨rfl,rfl⟩
   | l l' =>
     rcases hne l' x hh.1 with ⟨rfl,rfl⟩|⟨q1,q2⟩
     .have h2:=hh.2
      rw[hv]at h2
      cases h2
      exact .own0
     .exact h.rep (.l l') x u ⟨q2,hh.2⟩
  .intro l' x hx
   rcases hne l' x hx with ⟨rfl,rfl⟩|⟨q1,q2⟩
   .exact⟨_,hv,hv1⟩
   .exact h.lookv l' x q2
  .intro l' d e' z' xs v' hl hv'
   rw[hE]at hl
   rcases hne l' _ hl with ⟨rfl,q⟩|⟨q1,q2⟩
   .cases q
   .rw[hL];exact h.lentr l' d e' z' xs v' q2 hv'
  .intro b cs hb
   obtain⟨cs0,q1,q2⟩:=hB b cs hb
   rw[q2]
   exact h.box b cs0 q1
  .rw[hL];exact h.inj
  .intro r x u p b o hh hs
   rw[hL]
   cases r with
   |t t=>obtain⟨rfl,rfl⟩:=hh;rw[hT]at hs;exact h.ptr (.t t) _ _ p b o ⟨rfl,rfl⟩ hs
   | l l' =>
     rcases hne l' x hh.1 with ⟨rfl,rfl⟩|⟨q1,q2⟩
     .cases p<;>simp[V.sub]at hs
     .exact h.ptr (.l l') x u p b o ⟨q2,hh.2⟩ hs
  .rw[hL];exact fun r p k ho=>h.ownI r p k (hown r p k ho)
  .exact fun r p r' p' k h1 h2=>h.uniq r p r' p' k (hown r p k h1) (hown r' p' k h2)
  .intro t p x u hx hu
   rw[hT]at hx
   have h0:=h.link t p x u hx hu
   cases x<;>simp only[Link,hE]at h0 ⊢
   .intro q
    obtain⟨k1,k2⟩:=h0 q
    obtain⟨k3,k4⟩:=hlk _ k1
    rw[k4]
    exact⟨k3,k2⟩
   .intro q
    obtain⟨k1,k2⟩:=h0 q
    obtain⟨k3,k4⟩:=hlk _ k1
    rw[k4]
    exact⟨k3,k2⟩
   .intro q
    obtain⟨k1,k2⟩:=h0 q
    obtain⟨k3,k4⟩:=hlk _ k1
    rw[k4]
    exact⟨k3,k2⟩
  .intro l' x hx p
   rcases hne l' x hx with ⟨rfl,rfl⟩|⟨q1,q2⟩
   .refine⟨fun l' e hs=>?_,fun l' e lo n hs=>?_,fun l' e i q hs=>?_,fun cs hs=>?_⟩<;>cases p<;>simp[V.sub]at hs
   .exact h.novw l' x q2 p
  .rw[hT];exact h.notl
  .rw[hT];exact h.tmv
  .rw[hT,hE];exact h.ept
  .intro l' x hx
   rw[hE]
   rcases hne l' x hx with ⟨rfl,rfl⟩|⟨q1,q2⟩
   .exact zzn_ _
   .exact h.epl l' x q2
  .intro l' d e' z' xs v' k hl hv' hk r p m ho
   rw[hE]at hl
   rcases hne l' _ hl with ⟨rfl,q⟩|⟨q1,q2⟩
   .cases q
   .exact h.lentl l' d e' z' xs v' k q2 hv' hk r p m (hox r p k m ho)
  .rcases ho with ⟨r,p,ho⟩|⟨b,hb,q⟩
   .exact .inl ⟨r,p,hown r p k ho⟩
   .exact .inr ⟨b,by rw[<-hL];exact hb,q⟩
 .cases hf;exact⟨h,Fw.refl _ _ _ _ _,rfl⟩
 .cases hf
def nG_(S:St):Ghost->Option St
 |.freeze l=>S.freeze l
 |.frz l=>S.frzTo l FRZ
 |.lend l d=>S.lend l d
 |.own l e z=>S.adopt l e z
 | .lendv v b o d => match S.vs[v]? with
   |some (.s (.int _ i))=>S.lend (.cell b (o+i.toNat)) d
   |_=>some S
 |.lendm b os d=>rB_ b d os S
def xY_:List Ghost->St->Option St
 |[],S=>some S
 |x::r,S=>(nG_ S x).bind (xY_ r)
def xK_(F:Fr):Ghost->Bool
 |.freeze _=>true
 |.frz _=>true
 |.lend _ d=>!F.sv.contains d
 |.own _ _ _=>true
 |.lendv _ _ _ d=>!F.sv.contains d
 |.lendm _ _ d=>!F.sv.contains d
theorem tz_:∀(gs:List Ghost) {g:Gh} {S S':St},Rel F g w S a->(∀x∈gs,xK_ F x=true)->xY_ gs S=some S'->∃g',Rel F g' w S' a/\Fw F g w S a g' w S' a/\g'.φ=g.φ/\S'.bx.length=S.bx.length
 |[],g,S,S',h,_,hs=>by simp[xY_]at hs;subst hs;exact⟨g,h,Fw.refl _ _ _ _ _,rfl,rfl⟩
 | x :: r, g, S, S', h, hok, hs => by
   simp only[xY_,zza_]at hs
   obtain⟨S1,h1,h2⟩:=hs
   have key:∃g1,Rel F g1 w S1 a/\Fw F g w S a g1 w S1 a/\g1.φ=g.φ/\S1.bx.length=S.bx.length:=by
    cases x with
    |freeze l=>exact p8_ h h1
    |frz l=>exact sZ_ (e':=FRZ) h (by decide) h1
    | lend l d =>
      have hd:=hok (.lend l d) (by simp)
      obtain⟨q1,q2,q3⟩:=sg_ h (by simpa[xK_] using hd) h1
      exact⟨g,q1,q2,rfl,q3⟩
    | own l e z =>
      obtain⟨q1,q2,q3⟩:=oA_ h h1
      exact⟨g,q1,q2,rfl,q3⟩
    | lendv v b o d =>
      have hd:=hok (.lendv v b o d) (by simp)
      simp only[nG_]at h1
      split at h1
      .obtain⟨q1,q2,q3⟩:=sg_ h (by simpa[xK_] using hd) h1
       exact⟨g,q1,q2,rfl,q3⟩
      .cases h1
       exact⟨g,h,Fw.refl _ _ _ _ _,rfl,rfl⟩
    | lendm b os d =>
      have hd:=hok (.lendm b os d) (by simp)
      obtain⟨q1,q2,q3⟩:=sR_ (by simpa[xK_] using hd) os h h1
      exact⟨g,q1,q2,rfl,q3⟩
   obtain⟨g1,k1,k2,k3,k4⟩:=key
   obtain⟨g2,k5,k6,k7,k8⟩:=tz_ r k1 (fun y hy=>hok y (by simp[hy])) h2
   exact⟨g2,k5,k2.trans k6,k7.trans k3,k8.trans k4⟩
end
end
section
def okL:V->Bool
 |.s _|.list _ _|.own true _ _ _|.ptr _ _=>true
 |_=>false
def okA:V->Bool
 |.agg cs=>cs.all okL
 |x=>okL x
def okV:V->Bool
 |.tup vs=>vs.all okA
 |x=>okA x
def Frn(n:Nat):Fr:=⟨n,List.range n,[]⟩
def Stn(args:List V)(bs:List (List V)):St:=⟨fun _=>.no,args,bs,0⟩
def Bd(g:Gh)(w:World)(args:List V)(vals:Array Value)(bs:List (List V)):Prop:=Rel (Frn args.length) g w (Stn args bs) ⟨vals,[]⟩
def OwnB(g:Gh)(w:World)(args:List V)(vals:Array Value)(bs:List (List V))(k:Nat):Prop:=wN_ (Frn args.length) g w (Stn args bs) ⟨vals,[]⟩ k
structure Ext(g:Gh)(w:World)(O:Nat->Prop)(g':Gh)(w':World)(O':Nat->Prop)(n:Nat):Prop where
 os:w'.os=w.os
 tape:w'.tape=w.tape
 output:w'.output=w.output
 size:w.heap.size<=w'.heap.size
 same:∀k,k<w.heap.size->¬O k->w'.heap[k]?=w.heap[k]?/\g'.I k=g.I k
 owned:∀k,O' k->O k\/w.heap.size<=k
 phi:∀b,b<n->g'.φ b=g.φ b
def AC(P:Program)(f:FuncId)(args:List V)(bs:List (List V))(Q:V->List (List V)->Prop):Prop :=
 ∀g w vals,Bd g w args vals bs->Calls P f vals w fun e w'=>∃v r bs' g',e=.returned v/\Q r bs'/\okV r=true/\Bd g' w' [r] #[v] bs'/\Ext g w (OwnB g w args vals bs) g' w' (OwnB g' w' [r] #[v] bs') bs.length
theorem AC.mono{P:Program}{f:FuncId}{args:List V}{bs:List (List V)}{Q Q':V->List (List V)->Prop}(h:AC P f args bs Q)(hq:∀r bs',Q r bs'->Q' r bs'):AC P f args bs Q' :=
 fun g w vals hb=>(h g w vals hb).mono fun _ _ ⟨v,r,bs',g',h1,h2,h3⟩=>⟨v,r,bs',g',h1,hq _ _ h2,h3⟩
section
variable{P:Program}{F:Fr}{g:Gh}{w:World}{S:St}{a:Act}
structure Tooks(F:Fr)(g:Gh)(w:World)(S:St)(a:Act)(tm1:Nat->V)(ys:List V)(vs:List Value):Prop where
 len:vs.length=ys.length
 rep:∀(i:Nat) (y:V) (v:Value),ys[i]?=some y->vs[i]?=some v->Rep g w y v/\(∀us,y≠.tup us)/\(∀p x,y.sub p=some x->leaf x=true->yW_ x=true)/\(∀p b o,y.sub p=some (.ptr b o)->b<S.bx.length)
 own:∀(i:Nat) (y:V) (v:Value) (p:List Nat) (k m:Nat),ys[i]?=some y->vs[i]?=some v->wQ_ y v p k m->(∃r q,OwnX F g w S a r q k m)/\∀r q,¬Own F g w { S with tm:=tm1 } a r q k
 inj:∀(i i':Nat) (y y':V) (v v':Value) (p p':List Nat) (k:Nat),ys[i]?=some y->vs[i]?=some v->zD_ y v p k->ys[i']?=some y'->vs[i']?=some v'->zD_ y' v' p' k->i=i'/\p=p'
 less:∀t,Less (tm1 t) (S.tm t)
 tv:∀t∈F.sv,tm1 t=S.tm t
theorem v1_(h:Rel F g w S a):∀(xs:List Operand) (qs:List Opd) (tm0 tmN:Nat->V) (ys:List V),opds F xs=some qs->(∀t,Less (tm0 t) (S.tm t))->(∀t∈F.sv,tm0 t=S.tm t)->takes S tm0 qs=some (ys,tmN) ->
 Tooks F g w { S with tm:=tm0 } a tmN ys (xs.map a.eval)
 | [], qs, tm0, tmN, ys, hx, hl, ht, hk => by
   simp[opds]at hx
   subst hx
   simp[takes]at hk
   obtain⟨rfl,rfl⟩:=hk
   exact⟨rfl,fun i y v hy=>by simp at hy,fun i y v p k m hy=>by simp at hy,fun i i' y y' v v' p p' k hy=>by simp at hy,fun t=>Less.refl _,fun _ _=>rfl⟩
 | x :: xs, qs, tm0, tmN, ys, hx, hl, ht, hk => by
   simp only[opds,zza_]at hx
   obtain⟨q,h1,qs',h2,h3⟩:=hx
   injection h3 with h3
   subst h3
   simp only[takes,zza_]at hk
   obtain⟨⟨y,tm1⟩,k1,⟨ys',tm2⟩,k2,k3⟩:=hk
   simp only[yya_,yyc_]at k3
   obtain⟨rfl,rfl⟩:=k3
   have h0:=h.less hl ht
   have ht1:Took F g w { S with tm:=tm0 } a tm1 y (a.eval x):=rh_ h0 h1 (by simp only[sw_];exact k1)
   have ih:=v1_ h xs qs' tm1 tm2 ys' h2 (fun t=>(ht1.less t).trans (hl t)) (fun t hm=>(ht1.tv t hm).trans (ht t hm)) k2
   have hn0:∀t p d e0 e z xs,(tm0 t).sub p≠some (.lent d e0 e z xs):=h0.notl
   have hn1:∀t p d e0 e z xs,(tm1 t).sub p≠some (.lent d e0 e z xs):=fun t p d e0 e z xs hs=>h0.notl t p d e0 e z xs ((ht1.less t).sub_of hs rfl (by simp))
   refine⟨by simp[ih.len],fun i y' v hy hv=>?_,fun i y' v p k m hy hv ho=>?_,fun i i' y1 y2 v1 v2 p p' k e1 e2 e3 e4 e5 e6=>?_,fun t=>(ih.less t).trans (ht1.less t),fun t hm=>(ih.tv t hm).trans (ht1.tv t hm)⟩
   .cases i with
    |zero=>simp at hy hv;subst hy;subst hv;exact⟨ht1.rep,ht1.notup,ht1.lf,ht1.ptr⟩
    |succ i=>simp at hy hv;exact ih.rep i y' v hy (by simpa using hv)
   .cases i with
    | zero =>
      simp at hy hv;subst hy;subst hv
      obtain⟨q1,q2⟩:=ht1.own p k m ho
      exact⟨q1,fun r q ho'=>q2 r q (zf_ (S:={ S with tm:=tm1 }) ih.less hn1 ho')⟩
    | succ i =>
      simp at hy hv
      obtain⟨⟨r,q,q1⟩,q2⟩:=ih.own i y' v p k m hy (by simpa using hv) ho
      exact⟨⟨r,q,tj_ (S:={ S with tm:=tm0 }) ht1.less hn0 q1⟩,q2⟩
   .cases i with
    | zero =>
      simp at e1 e2;subst e1;subst e2
      cases i' with
      |zero=>simp at e4 e5;subst e4;subst e5;exact⟨rfl,ht1.inj p p' k e3 e6⟩
      | succ i' =>
        simp at e4 e5
        obtain⟨a1,a2,a3,a4,a5,a6,a7⟩:=e6
        obtain⟨⟨r,q,q1⟩,_⟩:=ih.own i' y2 v2 p' k _ e4 (by simpa using e5) ⟨a1,a2,a3,a4,a5,a6,a7,rfl⟩
        obtain⟨b1,b2,b3,b4,b5,b6,b7⟩:=e3
        exact absurd q1.own ((ht1.own p k _ ⟨b1,b2,b3,b4,b5,b6,b7,rfl⟩).2 r q)
    | succ i =>
      simp at e1 e2
      cases i' with
      | zero =>
        simp at e4 e5;subst e4;subst e5
        obtain⟨a1,a2,a3,a4,a5,a6,a7⟩:=e3
        obtain⟨⟨r,q,q1⟩,_⟩:=ih.own i y1 v1 p k _ e1 (by simpa using e2) ⟨a1,a2,a3,a4,a5,a6,a7,rfl⟩
        obtain⟨b1,b2,b3,b4,b5,b6,b7⟩:=e6
        exact absurd q1.own ((ht1.own p' k _ ⟨b1,b2,b3,b4,b5,b6,b7,rfl⟩).2 r q)
      | succ i' =>
        simp at e4 e5
        obtain⟨q1,q2⟩:=ih.inj i i' y1 y2 v1 v2 p p' k e1 (by simpa using e2) e3 e4 (by simpa using e5) e6
        exact⟨by omega,q2⟩
def fzB(b:Bool)(y:V):V:=if b then toImm y else y
theorem Tooks.freezeM(h:Rel F g w S a){tm1:Nat->V}{ys:List V}{vs:List Value}(ht:Tooks F g w S a tm1 ys vs)(mk:Nat->Bool) :
 ∃g',Rel F g' w { S with tm:=tm1 } a/\Fw F g w S a g' w { S with tm:=tm1 } a/\g'.φ=g.φ/\(∀k,g'.I k≠g.I k->g.I k=0/\∃(i:Nat) (y:V) (v:Value) (p:List Nat),mk i=true/\ys[i]?=some y/\vs[i]?=some v/\zD_ y v p k)/\∀(i:Nat) (y:V) (v:Value),ys[i]?=some y->vs[i]?=some v->Rep g' w (fzB (mk i) y) v:=by
 have key:∀n,n<=ys.length->∃g',Rel F g' w { S with tm:=tm1 } a/\g'.φ=g.φ/\(∀k,g'.I k≠g.I k->g.I k=0/\∃(i:Nat) (y:V) (v:Value) (p:List Nat),i<n/\mk i=true/\ys[i]?=some y/\vs[i]?=some v/\zD_ y v p k) /\
  (∀(i:Nat) (y:V) (v:Value),i<n->ys[i]?=some y->vs[i]?=some v->Rep g' w (fzB (mk i) y) v):=by
  intro n
  induction n with
  |zero=>intro _;exact⟨g,h.less ht.less ht.tv,rfl,fun k hk=>absurd rfl hk,fun c x u hc=>by omega⟩
  | succ n ih =>
    intro hn
    obtain⟨g1,r1,r2,r3,r4⟩:=ih (by omega)
    have hl:=ht.len
    have hy:ys[n]?=some ys[n]:=zzf_ (by omega)
    have hv:vs[n]?=some (vs[n]'(by omega)):=zzf_ (by omega)
    generalize ys[n]=y at hy
    generalize vs[n]'(by omega)=v at hv
    obtain⟨k1,k2,k3,k4⟩:=ht.rep n y v hy hv
    have hI1:∀b o,o<g.I b->o<g1.I b/\w.cell? ⟨b,o,none⟩=w.cell? ⟨b,o,none⟩:=by
     intro b o ho
     refine⟨?_,rfl⟩
     by_cases he:g1.I b=g.I b
     .omega
     .have:=(r3 b he).1;omega
    have hI0:∀p k,zD_ y v p k->g1.I k=0/\k<w.heap.size/\(∀b,b<S.bx.length->g.φ b≠k)/\(∀r q,¬Own F g w { S with tm:=tm1 } a r q k):=by
     intro p k ho
     obtain⟨a1,a2,a3,a4,a5,a6,a7⟩:=ho
     obtain⟨⟨r,q,q1⟩,q2⟩:=ht.own n y v p k _ hy hv ⟨a1,a2,a3,a4,a5,a6,a7,rfl⟩
     obtain⟨q3,q4,q5⟩:=h.ownI _ _ _ q1.own
     refine⟨?_,q4,q5,q2⟩
     by_cases he:g1.I k=g.I k
     .omega
     .obtain⟨_,i,y',v',p',b1,_,b2,b3,b4⟩:=r3 k he
      have:=(ht.inj i n y' y v' v p' p k b2 b3 b4 hy hv ⟨a1,a2,a3,a4,a5,a6,a7⟩).1
      omega
    by_cases hmk:mk n=true
    case neg =>
     refine⟨g1,r1,r2,fun k hk=>?_,fun i y' v' hi hy' hv'=>?_⟩
     .obtain⟨b0,i,y',v',p,b1,b2⟩:=r3 k hk
      exact⟨b0,i,y',v',p,by omega,b2⟩
     .rcases Nat.lt_succ_iff_lt_or_eq.1 hi with hi'|rfl
      .exact r4 i y' v' hi' hy' hv'
      .rw[hy]at hy';cases hy'
       rw[hv]at hv';cases hv'
       have:mk i=false:=by simpa using hmk
       rw[this]
       exact k1.keep hI1 (fun _ _ _=>rfl) (fun _ _ _ _=>by rw[r2])
    -- freeze the leaves of y as cells
    have hS0:∀r p k,Own F g1 w { S with tm:=tm1 } a r p k->Own F g w { S with tm:=tm1 } a r p k:=by
     intro r p k ⟨x,u,hh,ho⟩
     refine⟨x,u,?_,ho⟩
     cases r with
     |t t=>exact hh
     | l l =>
       refine⟨hh.1,?_⟩
       rw[<-hh.2]
       cases l with
       |var i=>rfl
       |cell b o=>simp only[z8_,r2]
    have hfz:∃g2,Rel F g2 w { S with tm:=tm1 } a/\g2.φ=g.φ/\(∀k,g2.I k≠g1.I k->g1.I k=0/\∃p,zD_ y v p k)/\Rep g2 w (toImm y) v:=by
     have leafcase:∀ {x:V} {u:Value} {gq:Gh},Rel F gq w { S with tm:=tm1 } a->gq.φ=g.φ->Rep gq w x u->leaf x=true->(∀k,(∃e z xs,x=.own true e z xs)->rb u=some k->gq.I k=0/\k<w.heap.size/\(∀b,b<S.bx.length->g.φ b≠k)/\∀r p,¬Own F gq w { S with tm:=tm1 } a r p k)->yW_ x=true ->
      ∃g2,Rel F g2 w { S with tm:=tm1 } a/\g2.φ=g.φ/\(∀k,g2.I k≠gq.I k->gq.I k=0/\(∃e z xs,x=.own true e z xs)/\rb u=some k)/\Rep g2 w (immL x) u:=by
      intro x u gq hR hφq hr hlf hok hm
      by_cases hown:∃e z xs,x=.own true e z xs
      .obtain⟨e,z,xs,rfl⟩:=hown
       rcases hr.freeze with ⟨_,q⟩|⟨k,m,hk,q⟩
       .exact⟨gq,hR,hφq,fun k hk=>absurd rfl hk,q⟩
       .obtain⟨c1,c2,c3,c4⟩:=hok k ⟨e,z,xs,rfl⟩ hk
        refine⟨gq.frz k m,hR.freeze m c2 c1 c4 (fun b hb=>by rw[hφq];exact c3 b hb),hφq,fun k' hk'=>?_,q c1⟩
        by_cases he:k'=k
        .subst he;exact⟨c1,⟨e,z,xs,rfl⟩,hk⟩
        .simp only[Gh.frz,if_neg he]at hk'
         exact absurd rfl hk'
      .refine⟨gq,hR,hφq,fun k hk=>absurd rfl hk,?_⟩
       exact qm_ hm hown hr
     have hr1:Rep g1 w y v:=k1.keep hI1 (fun _ _ _=>rfl) (fun _ _ _ _=>by rw[r2])
     by_cases hag:∃cs,y=.agg cs
     .obtain⟨cs,rfl⟩:=hag
      cases hr1 with
      | agg hsz hone hrep =>
        rename_i us
        have cellsind:∀n,n<=cs.length->∃g2,Rel F g2 w { S with tm:=tm1 } a/\g2.φ=g.φ/\(∀k,g2.I k≠g1.I k->g1.I k=0/\∃j u,j<n/\(∃e z xs,cs[j]?=some (.own true e z xs))/\us[j]?=some u/\rb u=some k) /\
         (∀(j:Nat) (x:V) (u:Value),j<n->cs[j]?=some x->us[j]?=some u->Rep g2 w (immL x) u):=by
         intro n
         induction n with
         |zero=>intro _;exact⟨g1,r1,r2,fun k hk=>absurd rfl hk,fun c x u hc=>by omega⟩
         | succ n ihn =>
           intro hn'
           obtain⟨g2,s1,s2,s3,s4⟩:=ihn (by omega)
           have hx:cs[n]?=some cs[n]:=zzf_ (by omega)
           have hu:us[n]?=some (us[n]'(by omega)):=by simp
           generalize cs[n]=x at hx
           generalize us[n]'(by omega)=u at hu
           have hsubx:(V.agg cs).sub [n]=some x:=by simp[V.sub,hx]
           have hrx:=hrep n x u hx hu
           have hone':u.oneCell'=true:=hone u (by simpa using Array.mem_of_getElem? hu)
           have hgx:=k3 [n] x hsubx (hrx.leaf_one hone')
           have hI12:∀b o,o<g1.I b->o<g2.I b/\w.cell? ⟨b,o,none⟩=w.cell? ⟨b,o,none⟩:=by
            intro b o ho
            refine⟨?_,rfl⟩
            by_cases he:g2.I b=g1.I b
            .omega
            .have:=(s3 b he).1;omega
           have hrx2:Rep g2 w x u:=hrx.keep hI12 (fun _ _ _=>rfl) (fun _ _ _ _=>by rw[s2,r2])
           obtain⟨g3,t1,t2,t3,t4⟩:=leafcase s1 s2 hrx2 (hrx.leaf_one hone') (fun k ⟨e,z,xs,hxe⟩ hk=>by
            subst hxe
            have hoi:zD_ (.agg cs) (.agg us) [n] k:=⟨e,z,xs,u,hsubx,by simp[vsub,hu],hk⟩
            obtain⟨c1,c2,c3,c4⟩:=hI0 [n] k hoi
            refine⟨?_,c2,c3,fun r p ho=>?_⟩
            .by_cases he:g2.I k=g1.I k
             .omega
             .obtain⟨_,j,u',b1,⟨e',z',xs',b2⟩,b3,b4⟩:=s3 k he
              have hoi':zD_ (.agg cs) (.agg us) [j] k:=⟨e',z',xs',u',by simp[V.sub,b2],by simp[vsub,b3],b4⟩
              have hl:=ht.len
              have hy':ys[_]?=some (V.agg cs):=hy
              have:=(ht.inj _ _ _ _ _ _ [j] [n] k hy hv hoi' hy hv hoi).2
              injection this with this
              omega
            .refine c4 r p ?_
             obtain⟨x',u',hh,ho⟩:=ho
             refine⟨x',u',?_,ho⟩
             cases r with
             |t t=>exact hh
             | l l =>
               refine⟨hh.1,?_⟩
               rw[<-hh.2]
               cases l with
               |var i=>rfl
               |cell b o=>simp only[z8_,s2]) hgx
           refine⟨g3,t1,t2,fun k hk=>?_,fun j x' u' hj hx' hu'=>?_⟩
           .by_cases he:g3.I k=g2.I k
            .rw[he]at hk
             obtain⟨b0,j,u',b1,b2⟩:=s3 k hk
             exact⟨b0,j,u',by omega,b2⟩
            .obtain⟨b0,⟨e,z,xs,b1⟩,b2⟩:=t3 k he
             subst b1
             have hoi:zD_ (.agg cs) (.agg us) [n] k:=⟨e,z,xs,u,hsubx,by simp[vsub,hu],b2⟩
             exact⟨(hI0 [n] k hoi).1,n,u,by omega,⟨e,z,xs,hx⟩,hu,b2⟩
           .rcases Nat.lt_succ_iff_lt_or_eq.1 hj with hj'|rfl
            .refine(s4 j x' u' hj' hx' hu').keep (fun b o ho=>⟨?_,rfl⟩) (fun _ _ _=>rfl) (fun _ _ _ _=>by rw[t2,s2])
             by_cases he:g3.I b=g2.I b
             .omega
             .have:=(t3 b he).1;omega
            .rw[hx]at hx';cases hx'
             rw[hu]at hu';cases hu'
             exact t4
        obtain⟨g2,s1,s2,s3,s4⟩:=cellsind cs.length (zzl_ _)
        refine⟨g2,s1,s2,fun k hk=>?_,.agg (by simpa using hsz) hone (fun j x u hx hu=>?_)⟩
        .obtain⟨b0,j,u,_,⟨e,z,xs,b2⟩,b3,b4⟩:=s3 k hk
         exact⟨b0,[j],e,z,xs,u,by simp[V.sub,b2],by simp[vsub,b3],b4⟩
        .rw[zzs_]at hx
         cases hc:cs[j]? with
         |none=>rw[hc]at hx;cases hx
         | some x0 =>
           rw[hc]at hx
           simp at hx
           subst hx
           exact s4 j x0 u (zzc_.1 hc).1 hc hu
     .have hny:∀cs,y≠.agg cs:=fun cs e=>hag ⟨cs,e⟩
      have hlf:leaf y=true:=by cases y<;>first|rfl|exact absurd rfl (hny _)|exact absurd rfl (k2 _)
      have hgy:=k3 [] y rfl hlf
      have hti:toImm y=immL y:=by cases y<;>first|rfl|exact absurd rfl (hny _)
      rw[hti]
      obtain⟨g2,t1,t2,t3,t4⟩:=leafcase r1 r2 hr1 hlf (fun k ⟨e,z,xs,hxe⟩ hk=>by
       obtain⟨c1,c2,c3,c4⟩:=hI0 [] k ⟨e,z,xs,v,by rw[hxe];rfl,rfl,hk⟩
       exact⟨c1,c2,c3,fun r p ho=>c4 r p (hS0 r p k ho)⟩) hgy
      refine⟨g2,t1,t2,fun k hk=>?_,t4⟩
      obtain⟨b0,⟨e,z,xs,b1⟩,b2⟩:=t3 k hk
      exact⟨b0,[],e,z,xs,v,by rw[b1];rfl,rfl,b2⟩
    obtain⟨g2,s1,s2,s3,s4⟩:=hfz
    refine⟨g2,s1,s2,fun k hk=>?_,fun i y' v' hi hy' hv'=>?_⟩
    .by_cases he:g2.I k=g1.I k
     .rw[he]at hk
      obtain⟨b0,i,y',v',p,b1,b2⟩:=r3 k hk
      exact⟨b0,i,y',v',p,by omega,b2⟩
     .obtain⟨b0,p,b1⟩:=s3 k he
      refine⟨?_,n,y,v,p,by omega,hmk,hy,hv,b1⟩
      obtain⟨a1,a2,a3,a4,a5,a6,a7⟩:=b1
      obtain⟨⟨r,q,q1⟩,_⟩:=ht.own n y v p k _ hy hv ⟨a1,a2,a3,a4,a5,a6,a7,rfl⟩
      exact(h.ownI _ _ _ q1.own).1
    .rcases Nat.lt_succ_iff_lt_or_eq.1 hi with hi'|rfl
     .refine(r4 i y' v' hi' hy' hv').keep (fun b o ho=>⟨?_,rfl⟩) (fun _ _ _=>rfl) (fun _ _ _ _=>by rw[s2,r2])
      by_cases he:g2.I b=g1.I b
      .omega
      .have:=(s3 b he).1;omega
     .rw[hy]at hy';cases hy'
      rw[hv]at hv';cases hv'
      rw[hmk];exact s4
 obtain⟨g',r1,r2,r3,r4⟩:=key ys.length (zzl_ _)
 refine⟨g',r1,⟨rfl,rfl,rfl,zzl_ _,fun k _ ho=>⟨rfl,?_⟩,fun k ho=>.inl ?_⟩,r2,fun k hk=>by
  obtain⟨b0,i,y,v,p,_,b1⟩:=r3 k hk
  exact⟨b0,i,y,v,p,b1⟩,fun i y v hy hv=>r4 i y v (zzc_.1 hy).1 hy hv⟩
 .by_cases he:g'.I k=g.I k
  .exact he
  .obtain⟨_,i,y,v,p,_,_,b2,b3,b4⟩:=r3 k he
   obtain⟨a1,a2,a3,a4,a5,a6,a7⟩:=b4
   obtain⟨⟨r,q,q1⟩,_⟩:=ht.own i y v p k _ b2 b3 ⟨a1,a2,a3,a4,a5,a6,a7,rfl⟩
   exact absurd (.inl ⟨r,q,q1.own⟩) ho
 .rcases ho with ⟨r,p,ho⟩|⟨b,hb,e⟩
  .refine .inl ⟨r,p,zf_ ht.less h.notl ?_⟩
   obtain⟨x,v,hh,ho⟩:=ho
   refine⟨x,v,?_,ho⟩
   cases r with
   |t t=>exact hh
   | l l =>
     refine⟨hh.1,?_⟩
     rw[<-hh.2]
     cases l with
     |var i=>rfl
     |cell b o=>simp only[z8_,r2]
  .exact .inr ⟨b,hb,by rw[<-r2];exact e⟩
theorem Tooks.freeze(h:Rel F g w S a){tm1:Nat->V}{ys:List V}{vs:List Value}(ht:Tooks F g w S a tm1 ys vs) :
 ∃g',Rel F g' w { S with tm:=tm1 } a/\Fw F g w S a g' w { S with tm:=tm1 } a/\g'.φ=g.φ/\∀(i:Nat) (y:V) (v:Value),ys[i]?=some y->vs[i]?=some v->Rep g' w (toImm y) v:=by
 obtain⟨g',h1,h2,h3,_,h4⟩:=ht.freezeM h (fun _=>true)
 exact⟨g',h1,h2,h3,h4⟩
end
end
section
def immA:V->Bool
 |.agg cs=>cs.all immC
 |x=>immC x
theorem xp_{x y:V}{p:List Nat}(h:immC x=true)(hs:x.sub p=some y):p=[]/\y=x:=by
 cases p with
 |nil=>simp[V.sub]at hs;exact⟨rfl,hs.symm⟩
 |cons i p=>cases x<;>simp[immC]at h<;>simp[V.sub]at hs
theorem wq_{x y:V}{p:List Nat}(h:immA x=true)(hs:x.sub p=some y)(hl:leaf y=true):immC y=true:=by
 by_cases hag:∃cs,x=.agg cs
 .obtain⟨cs,rfl⟩:=hag
  simp only[immA,zzh_]at h
  cases p with
  |nil=>simp[V.sub]at hs;subst hs;simp[leaf]at hl
  | cons i p =>
    simp only[V.sub,zza_]at hs
    obtain⟨u,h1,h2⟩:=hs
    have hu:=h u (zzd_ h1)
    rw[(xp_ hu h2).2];exact hu
 .have hi:immC x=true:=by cases x<;>first|exact h|exact absurd ⟨_,rfl⟩ hag
  rw[(xp_ hi hs).2];exact hi
theorem qL_{x y:V}{p:List Nat}(h:okV x=true)(hs:x.sub p=some y)(hl:leaf y=true):okL y=true:=by
 have hL:∀ {x y:V} {p:List Nat},okL x=true->x.sub p=some y->y=x:=by
  intro x y p h hs
  cases p with
  |nil=>simp[V.sub]at hs;exact hs.symm
  |cons i p=>cases x<;>simp[okL]at h<;>simp[V.sub]at hs
 have hA:∀ {x y:V} {p:List Nat},okA x=true->x.sub p=some y->leaf y=true->okL y=true:=by
  intro x y p h hs hl
  by_cases hag:∃cs,x=.agg cs
  .obtain⟨cs,rfl⟩:=hag
   simp only[okA,zzh_]at h
   cases p with
   |nil=>simp[V.sub]at hs;subst hs;simp[leaf]at hl
   | cons i p =>
     simp only[V.sub,zza_]at hs
     obtain⟨u,h1,h2⟩:=hs
     have hu:=h u (zzd_ h1)
     rw[hL hu h2];exact hu
  .have hi:okL x=true:=by cases x<;>first|exact h|exact absurd ⟨_,rfl⟩ hag
   rw[hL hi hs];exact hi
 by_cases hag:∃vs,x=.tup vs
 .obtain⟨vs,rfl⟩:=hag
  simp only[okV,zzh_]at h
  cases p with
  |nil=>simp[V.sub]at hs;subst hs;simp[leaf]at hl
  | cons i p =>
    simp only[V.sub,zza_]at hs
    obtain⟨u,h1,h2⟩:=hs
    exact hA (h u (zzd_ h1)) h2 hl
 .have hi:okA x=true:=by cases x<;>first|exact h|exact absurd ⟨_,rfl⟩ hag
  exact hA hi hs hl
def PC(P:Program)(f:FuncId)(args:List V)(q:V->Prop):Prop:=AC P f args [] fun r bs=>bs=[]/\q r
section
variable{P:Program}{F:Fr}{g:Gh}{w:World}{S:St}{a:Act}
theorem tR_{args:List V}{vals:Array Value}(hl:args.length=vals.size)(hi:∀x∈args,immA x=true)(hr:∀(i:Nat) (x:V) (v:Value),args[i]?=some x->vals[i]?=some v->Rep g w x v)(hlt:∀k,0<g.I k->k<w.heap.size):Bd g w args vals []/\∀k,¬OwnB g w args vals [] k:=by
 have hat:∀l x,(Stn args []).at l=some x->∃i,l=.var i/\args[i]?=some x:=by
  intro l x hx
  cases l with
  |var i=>exact⟨i,rfl,hx⟩
  |cell b o=>simp[Stn,St.at]at hx
 have hval:∀i x,args[i]?=some x->∃v,vals[i]?=some v/\z8_ (Frn args.length) g w ⟨vals,[]⟩ (.var i)=some v:=by
  intro i x hx
  have hi:=(zzc_.1 hx).1
  refine⟨vals[i]'(by omega),by simp,?_⟩
  simp[z8_,Frn,Act.tv,hi,hl ▸ hi]
 have himm:∀i x,args[i]?=some x->immA x=true:=fun i x hx=>hi x (zzd_ hx)
 have hown:∀r p k,¬Own (Frn args.length) g w (Stn args []) ⟨vals,[]⟩ r p k:=by
  intro r p k ⟨x,v,hh,ho⟩
  cases r with
  | t t =>
    obtain⟨rfl,rfl⟩:=hh
    rcases ho with ⟨_,_,_,_,q,_⟩|⟨_,q,_⟩
    .cases p<;>simp[Stn,V.sub]at q
    .simp[Stn,zi_]at q
  | l l =>
    obtain⟨i,rfl,hx⟩:=hat l x hh.1
    have hm:=himm i x hx
    rcases ho with ⟨e,z,xs,_,q,_⟩|⟨_,q,_⟩
    .have:=wq_ hm q rfl;simp[immC]at this
    .obtain⟨d,e,z,xs,q1,_⟩:=z4_ q
     subst q1
     simp[immA,immC]at hm
 refine⟨⟨hl.symm,rfl,?_,?_,?_,?_,?_,?_,?_,?_,?_,?_,?_,hlt,?_,?_,?_,?_⟩,fun k ho=>?_⟩
 .intro r x v hh
  cases r with
  |t t=>obtain⟨rfl,rfl⟩:=hh;exact .no
  | l l =>
    obtain⟨i,rfl,hx⟩:=hat l x hh.1
    obtain⟨v',h1,h2⟩:=hval i x hx
    rw[hh.2]at h2
    cases h2
    exact hr i x v hx h1
 .intro l x hx
  obtain⟨i,rfl,hx⟩:=hat l x hx
  obtain⟨v',h1,h2⟩:=hval i x hx
  exact⟨v',h2,fun ⟨b,o,e⟩=>by cases e⟩
 .intro l d e z xs v hx _
  obtain⟨i,rfl,hx⟩:=hat l _ hx
  have:=himm i _ hx
  simp[immA,immC]at this
 .intro b cs hb;simp[Stn]at hb
 .intro b b' hb;simp[Stn]at hb
 .intro r x v p b o hh hs
  cases r with
  |t t=>obtain⟨rfl,rfl⟩:=hh;cases p<;>simp[Stn,V.sub]at hs
  | l l =>
    obtain⟨i,rfl,hx⟩:=hat l x hh.1
    have:=wq_ (himm i x hx) hs rfl
    simp[immC]at this
 .intro r p k ho;exact absurd ho (hown r p k)
 .intro r p r' p' k ho;exact absurd ho (hown r p k)
 .intro t p x v hx hv
  cases p with
  |nil=>simp[Stn,V.sub]at hx;subst hx;trivial
  |cons i p=>simp[Stn,V.sub]at hx
 .intro l x hx p
  obtain⟨i,rfl,hx⟩:=hat l x hx
  have hm:=himm i x hx
  refine⟨?_,?_,?_,?_⟩<;>intros<;>intro hs<;>have:=wq_ hm hs rfl<;>simp[immC]at this
 .intro t p d e0 e z xs hs
  cases p<;>simp[Stn,V.sub]at hs
 .intro t _;rfl
 .intro t p x hx
  cases p with
  |nil=>simp[Stn,V.sub]at hx;subst hx;exact zzn_ _
  |cons i p=>simp[Stn,V.sub]at hx
 .intro l x hx
  obtain⟨i,rfl,hx⟩:=hat l x hx
  have hm:=himm i x hx
  cases x<;>simp[immA,immC]at hm<;>exact zzn_ _
 .intro l d e z xs v k hx
  obtain⟨i,rfl,hx⟩:=hat l _ hx
  have:=himm i _ hx
  simp[immA,immC]at this
 .rcases ho with ⟨r,p,ho⟩|⟨b,hb,_⟩
  .exact hown r p k ho
  .simp[Stn]at hb
theorem o4_{x:V}{v:Value}(h:okL x=true):Link F g w S a x v:=by cases x<;>simp[okL]at h<;>trivial
theorem pu_(h:Rel F g w S a){g':Gh}{w':World}{r:V}{v:Value}{d:Nat}(hd:d<F.N)(hdv:d∉F.sv)(hok:okV r=true)(hb:Bd g' w' [r] #[v] [])(he:Ext g w (fun _=>False) g' w' (OwnB g' w' [r] #[v] []) 0) :
 Ends F g w S a { S with tm:=upd S.tm d r } (a.put (some d) v) w':=by
 let g2:Gh:=⟨g'.I,g.φ⟩
 have hblk:∀k,k<w.heap.size->w'.heap[k]?=w.heap[k]?/\g'.I k=g.I k:=fun k hk=>he.same k hk (fun q=>q)
 have hI:∀b o,o<g.I b->o<g2.I b/\w'.cell? ⟨b,o,none⟩=w.cell? ⟨b,o,none⟩:=by
  intro b o ho
  have hbk:=hblk b (h.Ilt b (by omega))
  exact⟨by show o<g'.I b;omega,yyb_ (a:=⟨b,o,none⟩) hbk.1⟩
 have h1:Rel F g2 w' S a:=by
  refine h.grow hI (fun _ _=>rfl) (fun b hb'=>?_) (fun r p k ho=>?_) (fun l d e z xs u hl hu=>?_) he.size hb.Ilt
  .obtain⟨q1,q2⟩:=zU_ h hb'
   obtain⟨q3,q4⟩:=hblk _ q1
   exact⟨q3,by show g'.I _=0;omega⟩
  .obtain⟨q1,q2,_⟩:=h.ownI r p k ho
   obtain⟨q3,q4⟩:=hblk _ q2
   exact⟨q3,by show g'.I _=0;omega⟩
  .have hr:=(h.lentr l d e z xs u hl hu).1
   refine hr.keep hI (fun p k ⟨_,_,_,u',q1,q2,q3⟩=>?_) (fun _ _ _ _=>rfl)
   cases p with
   |cons i p=>simp[V.sub]at q1
   | nil =>
     simp[vsub]at q2
     subst q2
     exact(hblk k (yL_ hr q3)).1
 have hval0:z8_ (Frn 1) g' w' ⟨#[v],[]⟩ (.var 0)=some v:=by simp[z8_,Frn,Act.tv]
 have hh0:Has (Frn 1) g' w' (Stn [r] []) ⟨#[v],[]⟩ (.l (.var 0)) r v:=⟨rfl,hval0⟩
 have hnp:∀p b o,r.sub p≠some (.ptr b o):=fun p b o hs=>by
  have:=hb.ptr (.l (.var 0)) r v p b o hh0 hs
  simp[Stn]at this
 have hrep:Rep g2 w' r v:=(hb.rep _ _ _ hh0).keep (fun b o ho=>⟨ho,rfl⟩) (fun _ _ _=>rfl) (fun p b o hs=>absurd hs (hnp p b o))
 have hownr:∀p k,zD_ r v p k->Own (Frn 1) g' w' (Stn [r] []) ⟨#[v],[]⟩ (.l (.var 0)) p k:=fun p k ho=>⟨r,v,hh0,.inl ho⟩
 have hnew:∀p k,zD_ r v p k->g'.I k=0/\k<w'.heap.size/\w.heap.size<=k:=by
  intro p k ho
  obtain⟨q1,q2,_⟩:=hb.ownI _ _ _ (hownr p k ho)
  refine⟨q1,q2,?_⟩
  rcases he.owned k (.inl ⟨_,_,hownr p k ho⟩) with q|q
  .exact q.elim
  .exact q
 have hlf:=fun p x (hs:r.sub p=some x) hl=>qL_ hok hs hl
 have hno:r≠.no:=fun e=>by subst e;simp[okV,okA,okL]at hok
 have hnl:∀p d e0 e z xs,r.sub p≠some (.lent d e0 e z xs):=fun p d e0 e z xs hs=>by have:=hlf p _ hs rfl;simp[okL]at this
 have hvl:∀l x,S.at l=some x->z8_ F g2 w' a l=z8_ F g w a l:=fun l x hl=>y3_ hl (fun _ _=>rfl) (fun b hb'=>(hblk _ (zU_ h hb').1).1)
 have hownw:∀r p k,Own F g2 w' S a r p k->Own F g w S a r p k:=by
  intro r p k ⟨x,u,hh,ho⟩
  refine⟨x,u,?_,ho⟩
  cases r with
  |t t=>exact hh
  |l l=>exact⟨hh.1,(hvl l x hh.1) ▸ hh.2⟩
 refine⟨g2,h1.put (fun t=>Less.refl _) (fun _ _=>rfl) hd hdv hrep hno (fun p b o hs=>absurd hs (hnp p b o)) hnl (fun p x hs=>?_) (fun p x u hs hu=>?_) (fun p k ho=>?_) (fun p p' k ho ho'=>?_) (fun p k m ho l d e z xs v' h1' h2' h3'=>?_),⟨he.os,he.tape,he.output,he.size,fun k hk _=>⟨(hblk k hk).1,(hblk k hk).2⟩,fun k ho=>?_⟩,fun _ _=>rfl⟩
 .by_cases hl:leaf x=true
  .have:=hlf p x hs hl
   cases x<;>simp[okL]at this<;>exact zzn_ _
  .cases x<;>simp[leaf]at hl<;>exact zzn_ _
 .by_cases hl:leaf x=true
  .exact o4_ (hlf p x hs hl)
  .cases x<;>simp[leaf]at hl<;>trivial
 .obtain⟨q1,q2,q3⟩:=hnew p k ho
  refine⟨q1,q2,fun b hb' e=>by have:=(zU_ h hb').1;have e':g.φ b=k:=e;omega,fun r p' _ ho'=>?_⟩
  have:=(h.ownI _ _ _ (hownw r p' k ho')).2.1
  omega
 .exact(hb.uniq _ _ _ _ _ (hownr p k ho) (hownr p' k ho')).2
 .obtain⟨a1,a2,a3,a4,a5,a6,a7,_⟩:=ho
  have q3:=(hnew p k ⟨a1,a2,a3,a4,a5,a6,a7⟩).2.2
  rw[hvl l _ h1']at h2'
  have:=yL_ (h.lentr l d e z xs v' h1' h2').1 h3'
  omega
 .rcases ho with ⟨r',p,ho⟩|ho
  .rcases xm_ h1 (fun t=>Less.refl _) hd hdv hno hnl ho with ⟨_,q⟩|q
   .exact .inr (hnew p k q).2.2
   .exact .inl (.inl ⟨r',p,hownw r' p k q⟩)
  .exact .inl (.inr ho)
theorem nS_(h:Rel F g w S a){xs:Array Operand}{qs:List Opd}{f:FuncId}{d:Nat}(hx:opds F xs.toList=some qs)(hd:d<F.N)(hdv:d∉F.sv){ys:List V}{tm1:Nat->V}(hk:takes S S.tm qs=some (ys,tm1))(him:(ys.map toImm).all immA=true){q:V->Prop}(hc:PC P f (ys.map toImm) q) :
 Calls P f (xs.map a.eval) w fun e w'=>∃v r,e=.returned v/\q r/\Ends F g w S a { S with tm:=upd tm1 d r } (a.put (some d) v) w':=by
 have ht:=v1_ h xs.toList qs S.tm tm1 ys hx (fun t=>Less.refl _) (fun _ _=>rfl) hk
 obtain⟨g1,h1,f1,f2,f3⟩:=Tooks.freeze h ht
 have hlen:(ys.map toImm).length=(xs.map a.eval).size:=by have:=ht.len;simp at this ⊢;omega
 obtain⟨hbd,hnown⟩:=tR_ (g:=g1) (w:=w) hlen (fun x hx=>zzh_.1 him x hx) (fun i x v hx' hv=>by
  rw[zzs_]at hx'
  cases hy:ys[i]? with
  |none=>rw[hy]at hx';cases hx'
  | some y =>
    rw[hy]at hx'
    simp at hx'
    subst hx'
    exact f3 i y v hy (by simpa using hv)) h1.Ilt
 refine(hc g1 w _ hbd).mono ?_
 rintro e w' ⟨v,r,bs',g',rfl,⟨rfl,hq⟩,hok,hb,hex⟩
 refine⟨v,r,rfl,hq,?_⟩
 have hex':Ext g1 w (fun _=>False) g' w' (OwnB g' w' [r] #[v] []) 0:=⟨hex.os,hex.tape,hex.output,hex.size,fun k hk _=>hex.same k hk (hnown k),fun k ho=>(hex.owned k ho).elim (fun q=>absurd q (hnown k)) .inr,fun b hb=>by omega⟩
 exact Ends.of f1 (fun b _=>by rw[f2]) (zzl_ _) (pu_ h1 hd hdv hok hb hex')
end
end
section
def ptrK(n:Nat):V->Bool
 |.ptr b _=>decide (b<n)
 |_=>true
def ptrA(n:Nat):V->Bool
 |.agg cs=>cs.all (ptrK n)
 |x=>ptrK n x
theorem wI_{y x:V}{p:List Nat}(h:okL y=true)(hs:y.sub p=some x):p=[]/\x=y:=by
 cases p with
 |nil=>simp[V.sub]at hs;exact⟨rfl,hs.symm⟩
 |cons i p=>cases y<;>simp[V.sub]at hs<;>simp[okL]at h
theorem sc_{y x:V}{p:List Nat}(h:okA y=true)(hs:y.sub p=some x):x=y\/okL x=true:=by
 cases p with
 |nil=>simp[V.sub]at hs;exact .inl hs.symm
 | cons i p =>
   cases y<;>simp only[V.sub]at hs<;>first|cases hs;done|skip
   .simp only[zza_]at hs
    obtain⟨c,hc,hs⟩:=hs
    simp only[okA,zzh_]at h
    have:=h c (zzd_ hc)
    obtain⟨_,rfl⟩:=wI_ this hs
    exact .inr this
   .simp[okA,okL]at h
theorem up_{n:Nat}{y:V}{p:List Nat}{b o:Nat}(h:ptrA n y=true)(hk:okA y=true)(hs:y.sub p=some (.ptr b o)):b<n:=by
 cases p with
 |nil=>simp[V.sub]at hs;subst hs;simpa[ptrA,ptrK] using h
 | cons i p =>
   cases y<;>simp only[V.sub]at hs<;>first|cases hs;done|skip
   .simp only[zza_]at hs
    obtain⟨c,hc,hs⟩:=hs
    simp only[okA,zzh_]at hk
    simp only[ptrA,zzh_]at h
    have k1:=hk c (zzd_ hc)
    have k2:=h c (zzd_ hc)
    obtain⟨_,rfl⟩:=wI_ k1 hs
    simpa[ptrK] using k2
   .simp[okA,okL]at hk
def renL(f:Nat->Nat):V->V
 |.ptr b o=>.ptr (f b) o
 |x=>x
def renA(f:Nat->Nat):V->V
 |.agg cs=>.agg (cs.map (renL f))
 |x=>renL f x
def ren(f:Nat->Nat):V->V
 |.tup vs=>.tup (vs.map (renA f))
 |x=>renA f x
def yH_:V->Bool
 |.s _|.list _ _|.own _ _ _ _|.no|.gone=>true
 |_=>false
def xl_(bx:List (List V))(sel:List Nat)(bs:List (List V)):List (List V) :=
 (sel.zip bs).foldl (fun B p=>B.set p.1 p.2) bx++bs.drop sel.length
def fwd(sel:List Nat)(n b:Nat):Nat:=if b<sel.length then sel.getD b 0 else n+(b-sel.length)
def fzs:List Bool->List V->List V
 |m::ms,y::ys=>fzB m y::fzs ms ys
 |_,ys=>ys
theorem p7_:∀(mask:List Bool) (ys:List V) (i:Nat),(fzs mask ys)[i]?=(ys[i]?).map (fzB (mask.getD i false))
 |m::ms,y::ys,0=>by simp[fzs]
 |m::ms,y::ys,i+1=>by simp only[fzs,List.getElem?_cons_succ];rw[p7_ ms ys i];simp
 | [], ys, i => by
   have:fzB false=id:=by funext y;simp[fzB]
   cases ys<;>simp[fzs,this]
 |m::ms,[],i=>by simp[fzs]
theorem u8_:∀(mask:List Bool) (ys:List V),(fzs mask ys).length=ys.length
 |m::ms,y::ys=>by simp[fzs,u8_ ms ys]
 |[],ys=>by cases ys<;>rfl
 |m::ms,[]=>rfl
theorem zK_{α:Type}:∀(l:List (Nat×α)) (B:List α),(l.foldl (fun B p=>B.set p.1 p.2) B).length=B.length
 |[],B=>rfl
 |p::l,B=>by rw[List.foldl_cons,zK_ l];simp
theorem x2_{α:Type}:∀(l:List (Nat×α)) (B:List α) (b:Nat),(∀p∈l,p.1≠b)->(l.foldl (fun B p=>B.set p.1 p.2) B)[b]?=B[b]?
 |[],B,b,_=>rfl
 | p :: l, B, b, h => by
   rw[List.foldl_cons,x2_ l _ b (fun q hq=>h q (by simp[hq])),List.getElem?_set_ne (h p (by simp))]
theorem xZ_{α:Type}:∀(l:List (Nat×α)) (B:List α) (c:Nat) (b:Nat) (y:α),(l.map (·.1)).Nodup->l[c]?=some (b,y)->b<B.length->(l.foldl (fun B p=>B.set p.1 p.2) B)[b]?=some y
 |[],B,c,b,y,_,h,_=>by simp at h
 | p :: l, B, 0, b, y, hn, h, hb => by
   simp at h;subst h
   rw[List.map_cons,List.nodup_cons]at hn
   rw[List.foldl_cons,x2_ l _ b (fun q hq e=>hn.1 (List.mem_map.2 ⟨q,hq,e⟩))]
   simp[hb]
 | p :: l, B, c + 1, b, y, hn, h, hb => by
   rw[List.map_cons,List.nodup_cons]at hn
   rw[List.foldl_cons]
   exact xZ_ l _ c b y hn.2 (by simpa using h) (by simpa using hb)
section
variable{bx bs:List (List V)}{sel:List Nat}
theorem yZ_:(xl_ bx sel bs).length=bx.length+(bs.length-sel.length):=by simp[xl_,zK_]
theorem vl_{b:Nat}(hb:b<bx.length)(hn:b∉sel):(xl_ bx sel bs)[b]?=bx[b]?:=by
 rw[xl_,zzo_ (by rw[zK_];exact hb)]
 exact x2_ _ _ _ (fun p hp e=>hn (e ▸ (List.of_mem_zip hp).1))
theorem t9_(hsel:sel.Nodup)(hlt:∀i∈sel,i<bx.length)(hl:sel.length<=bs.length){c:Nat}(hc:c<bs.length):(xl_ bx sel bs)[fwd sel bx.length c]?=bs[c]?:=by
 unfold fwd
 split
 .next h =>
  have e:sel.getD c 0=sel[c]:=by simp[yyk_,h]
  rw[e]
  have hb:=hlt _ (yyp_ h)
  rw[xl_,zzo_ (by rw[zK_];exact hb)]
  rw[xZ_ (sel.zip bs) bx c sel[c] bs[c] (by rw[List.map_fst_zip hl];exact hsel) (by simp[List.getElem?_zip_eq_some,h,hc]) hb]
  simp
 .next h =>
  rw[xl_,zzv_ (by rw[zK_];omega),zK_,zzA_]
  congr 1
  omega
theorem ye_{b:Nat}(hb:b<(xl_ bx sel bs).length):(b<bx.length/\b∉sel)\/∃c,c<max sel.length bs.length/\fwd sel bx.length c=b:=by
 rw[yZ_]at hb
 by_cases h:b<bx.length
 .by_cases hm:b∈sel
  .obtain⟨c,hc,e⟩:=List.mem_iff_getElem.1 hm
   refine .inr ⟨c,by omega,?_⟩
   simp[fwd,hc,yyk_,e]
  .exact .inl ⟨h,hm⟩
 .refine .inr ⟨sel.length+(b-bx.length),by omega,?_⟩
  simp only[fwd]
  rw[if_neg (by omega)]
  omega
theorem nI_(hsel:sel.Nodup){n:Nat}(hlt:∀i∈sel,i<n){c c':Nat}(h:fwd sel n c=fwd sel n c'):c=c':=by
 have key:∀c,c<sel.length->fwd sel n c<n/\sel[c]?=some (fwd sel n c):=by
  intro c hc
  have e:fwd sel n c=sel[c]:=by simp[fwd,hc,yyk_]
  rw[e]
  exact⟨hlt _ (yyp_ hc),by simp[hc]⟩
 have key2:∀c,¬c<sel.length->fwd sel n c=n+(c-sel.length):=fun c hc=>by simp[fwd,hc]
 by_cases h1:c<sel.length<;>by_cases h2:c'<sel.length
 .have a1:=(key c h1).2
  have a2:=(key c' h2).2
  rw[h]at a1
  exact(List.getElem?_inj h1 hsel).1 (a1.trans a2.symm)
 .have a1:=(key c h1).1
  have a2:=key2 c' h2
  omega
 .have a1:=key2 c h1
  have a2:=(key c' h2).1
  omega
 .have a1:=key2 c h1
  have a2:=key2 c' h2
  omega
end
theorem pO_{f:Nat->Nat}{x:V}(h:okL x=true):renL f x=ren f x:=by cases x<;>simp[okL]at h<;>rfl
theorem tm_{x:V}(h:okA x=true):∀vs,x≠.tup vs:=fun vs e=>by subst e;simp[okA,okL]at h
theorem pP_{f:Nat->Nat}{x:V}(h:okA x=true):renA f x=ren f x:=by
 have:=tm_ h
 cases x<;>first|rfl|exact absurd rfl (this _)
theorem nv_{x:V}(h:okA x=true):okV x=true:=by cases x<;>first|exact h|simp[okA,okL]at h
theorem sy_{f:Nat->Nat}{x:V}(h:okA x=true)(p:List Nat):(ren f x).sub p=(x.sub p).map (ren f):=by
 cases p with
 |nil=>simp[V.sub]
 | cons i p =>
   by_cases hag:∃cs,x=.agg cs
   .obtain⟨cs,rfl⟩:=hag
    simp only[okA,zzh_]at h
    simp only[ren,renA,V.sub,zzs_]
    cases hc:cs[i]? with
    |none=>rfl
    | some c =>
      have hk:=h c (zzd_ hc)
      simp only[zzz_,zzt_]
      cases p with
      |nil=>simp[V.sub,pO_ hk]
      |cons j p=>cases c<;>simp[okL]at hk<;>simp[renL,V.sub]
   .cases x<;>simp[okA,okL]at h<;>first|(simp[ren,renA,renL,V.sub];done)|exact absurd ⟨_,rfl⟩ hag
theorem tZ_{f:Nat->Nat}{x:V}(h:okV x=true)(p:List Nat):(ren f x).sub p=(x.sub p).map (ren f):=by
 by_cases ht:∃vs,x=.tup vs
 .obtain⟨vs,rfl⟩:=ht
  cases p with
  |nil=>simp[V.sub]
  | cons i p =>
    simp only[okV,zzh_]at h
    simp only[ren,V.sub,zzs_]
    cases hc:vs[i]? with
    |none=>rfl
    | some c =>
      have hk:=h c (zzd_ hc)
      simp only[zzz_,zzt_]
      rw[pP_ hk,sy_ hk]
 .exact sy_ (by cases x<;>first|exact h|exact absurd ⟨_,rfl⟩ ht) p
theorem nn_{f:Nat->Nat}{x:V}{e z:Nat}{xs:List V}(h:ren f x=.own true e z xs):x=.own true e z xs:=by cases x<;>simp[ren,renA,renL]at h<;>simp[h]
theorem tk_{f:Nat->Nat}{x:V}{v:Value}{p:List Nat}{k:Nat}(h:okV x=true):zD_ (ren f x) v p k↔zD_ x v p k:=by
 constructor
 .rintro⟨e,z,xs,u,h1,h2⟩
  rw[tZ_ h,zzb_]at h1
  obtain⟨y,h1,h3⟩:=h1
  exact⟨e,z,xs,u,by rw[h1,nn_ h3],h2⟩
 .rintro⟨e,z,xs,u,h1,h2⟩
  exact⟨e,z,xs,u,by rw[tZ_ h,h1];rfl,h2⟩
theorem nl_{g g':Gh}{w:World}{f:Nat->Nat}{x:V}{v:Value}(h:Rep g w x v)(hk:okV x=true)(hI:g'.I=g.I)(hp:∀p b o,x.sub p=some (.ptr b o)->g'.φ (f b)=g.φ b):Rep g' w (ren f x) v:=by
 have leaf:∀ {x:V} {v:Value},Rep g w x v->okL x=true->(∀b o,x=.ptr b o->g'.φ (f b)=g.φ b)->Rep g' w (renL f x) v:=by
  intro x v h hk hp
  cases x<;>simp[okL]at hk
  case ptr b o =>
   cases h
   rw[<-hp b o rfl]
   exact .ptr
  all_goals exact h.keep (fun b o ho=>⟨by rw[hI];exact ho,rfl⟩) (fun _ _ _=>rfl) (fun p b o hs=>by cases p<;>simp[V.sub]at hs)
 have agg:∀ {x:V} {v:Value},Rep g w x v->okA x=true->(∀p b o,x.sub p=some (.ptr b o)->g'.φ (f b)=g.φ b)->Rep g' w (renA f x) v:=by
  intro x v h hk hp
  by_cases hag:∃cs,x=.agg cs
  .obtain⟨cs,rfl⟩:=hag
   cases h with
   | agg hl h1 hr =>
     simp only[okA,zzh_]at hk
     refine .agg (by simpa using hl) h1 (fun j u c hu hc=>?_)
     rw[zzs_,zzb_]at hu
     obtain⟨y,hy,rfl⟩:=hu
     exact leaf (hr j y c hy hc) (hk y (zzd_ hy)) (fun b o e=>hp [j] b o (by simp[V.sub,hy,e]))
  .have e:renA f x=renL f x:=by cases x<;>first|rfl|exact absurd ⟨_,rfl⟩ hag
   rw[e]
   refine leaf h (by cases x<;>first|exact hk|exact absurd ⟨_,rfl⟩ hag) (fun b o e=>hp [] b o (by simp[V.sub,e]))
 by_cases ht:∃vs,x=.tup vs
 .obtain⟨vs,rfl⟩:=ht
  cases h with
  | tup hl hr =>
    simp only[okV,zzh_]at hk
    refine .tup (by simpa using hl) (fun j u c hu hc=>?_)
    rw[zzs_,zzb_]at hu
    obtain⟨y,hy,rfl⟩:=hu
    exact agg (hr j y c hy hc) (hk y (zzd_ hy)) (fun p b o e=>hp (j::p) b o (by simp[V.sub,hy,e]))
 .have e:ren f x=renA f x:=by cases x<;>first|rfl|exact absurd ⟨_,rfl⟩ ht
  rw[e]
  exact agg h (by cases x<;>first|exact hk|exact absurd ⟨_,rfl⟩ ht) hp
theorem xf_{f:Nat->Nat}{x:V}(h:yH_ x=true):ren f x=x:=by cases x<;>simp[yH_]at h<;>rfl
theorem xe_{x y:V}{p:List Nat}(h:yH_ x=true)(hs:x.sub p=some y):p=[]/\y=x:=by
 cases p with
 |nil=>simp[V.sub]at hs;exact⟨rfl,hs.symm⟩
 |cons i p=>cases x<;>simp[yH_]at h<;>simp[V.sub]at hs
theorem nH_{g:Gh}{w:World}{b:Bool}{y:V}{v:Value}{p:List Nat}{k:Nat}(hr:Rep g w y v)(hn:∀us,y≠.tup us)(h:zD_ (fzB b y) v p k):b=false/\zD_ y v p k:=by
 obtain⟨e,z,xs,u,h1,h2,h3⟩:=h
 cases b with
 |false=>exact⟨rfl,e,z,xs,u,h1,h2,h3⟩
 | true =>
   exfalso
   simp only[fzB,if_true]at h1
   cases p with
   | nil =>
     simp[V.sub]at h1
     cases y<;>simp[toImm,immL]at h1
   | cons i p =>
     cases y with
     | agg cs =>
       simp only[toImm,V.sub,zzs_,zza_,zzb_]at h1
       obtain⟨_,⟨c,hc,rfl⟩,hs⟩:=h1
       cases p with
       |nil=>simp[V.sub]at hs;cases c<;>simp[immL]at hs
       | cons j p =>
         cases hr with
         | agg hl h1' hrep =>
           rename_i us
           have hi:i<us.size:=by rw[<-hl];exact(zzc_.1 hc).1
           have hlf:=(hrep i c us[i] hc (by simp[hi])).leaf_one (h1' _ (by simp))
           cases c<;>simp[leaf]at hlf<;>simp[immL,V.sub]at hs
     |tup vs=>exact hn _ rfl
     |_=>simp[toImm,immL,V.sub]at h1
end
section
theorem qM_{x y:V}{p:List Nat}(h:okA x=true)(hs:x.sub p=some y):(∃cs,p=[]/\y=.agg cs)\/okL y=true:=by
 rcases sc_ h hs with rfl|q
 .cases p with
  |nil=>cases y<;>first|exact .inl ⟨_,rfl,rfl⟩|exact .inr h
  | cons i p =>
    by_cases hag:∃cs,y=.agg cs
    .obtain⟨cs,rfl⟩:=hag
     exfalso
     simp only[V.sub,zza_]at hs
     obtain⟨c,hc,hs⟩:=hs
     simp only[okA,zzh_]at h
     have hk:=h c (zzd_ hc)
     obtain⟨_,e⟩:=wI_ hk hs
     subst e
     simp[okL]at hk
    .exact .inr (by cases y<;>first|exact h|exact absurd ⟨_,rfl⟩ hag)
 .exact .inr q
theorem mr_{x:V}{p:List Nat}(h:okA x=true):(∀l' e,x.sub p≠some (.view l' e))/\(∀l' e lo n,x.sub p≠some (.sview l' e lo n))/\(∀l' e i q,x.sub p≠some (.vp l' e i q))/\(∀cs,x.sub p≠some (.ip cs)):=by
 refine⟨fun l' e hs=>?_,fun l' e lo n hs=>?_,fun l' e i q hs=>?_,fun cs hs=>?_⟩ <;>
  rcases qM_ h hs with ⟨_,_,q⟩|q<;>first|cases q|skip
 all_goals simp[okL]at q
theorem ms_{x:V}(h:okA x=true):epOf x=0:=by cases x<;>first|rfl|simp[okA,okL]at h
theorem rb_{x:V}(h:yH_ x=true):epOf x=0:=by cases x<;>first|rfl|simp[yH_]at h
section
variable{P:Program}{F:Fr}{g:Gh}{w:World}{S:St}{a:Act}
def subG(g:Gh)(sel:List Nat):Gh:=⟨g.I,fun b=>g.φ (sel.getD b 0)⟩
structure Handed(F:Fr)(g:Gh)(w:World)(S:St)(a:Act)(sel:List Nat)(args:List V)(vals:Array Value)(bs:List (List V)):Prop where
 len:args.length=vals.size
 rep:∀(i:Nat) (y:V) (v:Value),args[i]?=some y->vals[i]?=some v->Rep (subG g sel) w y v
 ok:∀x∈args,okA x=true
 ptr:∀x∈args,ptrA sel.length x=true
 own:∀(i:Nat) (y:V) (v:Value) (p:List Nat) (k:Nat),args[i]?=some y->vals[i]?=some v->zD_ y v p k->g.I k=0/\k<w.heap.size/\(∀b,b<S.bx.length->g.φ b≠k)/\∀r q,¬Own F g w S a r q k
 inj:∀(i i':Nat) (y y':V) (v v':Value) (p p':List Nat) (k:Nat),args[i]?=some y->vals[i]?=some v->zD_ y v p k->args[i']?=some y'->vals[i']?=some v'->zD_ y' v' p' k->i=i'/\p=p'
 nd:sel.Nodup
 lt:∀i∈sel,i<S.bx.length
 bse:bs=sel.map (fun i=>(S.bx[i]?).getD [])
 cb:∀cs∈bs,∀x∈cs,yH_ x=true
variable{sel:List Nat}{args:List V}{vals:Array Value}{bs:List (List V)}
theorem Handed.box(hd:Handed F g w S a sel args vals bs){c:Nat}{cs:List V}(h:bs[c]?=some cs):c<sel.length/\sel.getD c 0∈sel/\S.bx[sel.getD c 0]?=some cs:=by
 have h':=h
 rw[hd.bse,zzs_,zzb_]at h'
 obtain⟨b,h1,h2⟩:=h'
 have hc:=(zzc_.1 h1).1
 have e:sel.getD c 0=b:=by simp[yyk_,h1]
 have hm:=zzd_ h1
 have hb:=hd.lt b hm
 rw[e]
 refine⟨hc,hm,?_⟩
 rw[zzf_ hb]at h2 ⊢
 simp at h2
 rw[h2]
theorem Handed.lenb(hd:Handed F g w S a sel args vals bs):bs.length=sel.length:=by rw[hd.bse];simp
theorem Handed.sel_lt(hd:Handed F g w S a sel args vals bs){c:Nat}(h:c<bs.length):sel.getD c 0<S.bx.length/\sel.getD c 0∈sel:=by
 obtain⟨_,h1,h2⟩:=hd.box (zzf_ h)
 exact⟨hd.lt _ h1,h1⟩
theorem Handed.at(hd:Handed F g w S a sel args vals bs){c o:Nat}{x:V}(h:(Stn args bs).at (.cell c o)=some x):c<sel.length/\sel.getD c 0∈sel/\S.at (.cell (sel.getD c 0) o)=some x/\yH_ x=true:=by
 simp only[St.at,Stn,zza_]at h
 obtain⟨cs,h1,h2⟩:=h
 obtain⟨k1,k2,k3⟩:=hd.box h1
 refine⟨k1,k2,?_,hd.cb cs (zzd_ h1) x (zzd_ h2)⟩
 simp only[St.at,k3,zzt_]
 exact h2
theorem Handed.val(hd:Handed F g w S a sel args vals bs){i:Nat}{x:V}(h:args[i]?=some x):∃v,vals[i]?=some v/\z8_ (Frn args.length) (subG g sel) w ⟨vals,[]⟩ (.var i)=some v:=by
 have hi:=(zzc_.1 h).1
 have:=hd.len
 refine⟨vals[i]'(by omega),by simp,?_⟩
 simp[z8_,Frn,Act.tv,hi,this ▸ hi]
theorem Handed.ownc(hd:Handed F g w S a sel args vals bs){r:Root}{p:List Nat}{k:Nat}(h:Own (Frn args.length) (subG g sel) w (Stn args bs) ⟨vals,[]⟩ r p k) :
 (∃i y v,r=.l (.var i)/\args[i]?=some y/\vals[i]?=some v/\zD_ y v p k)\/(∃c o,r=.l (.cell c o)/\c<sel.length/\sel.getD c 0∈sel/\p=[]/\Own F g w S a (.l (.cell (sel.getD c 0) o)) [] k):=by
 obtain⟨x,v,hh,ho⟩:=h
 cases r with
 | t t =>
   obtain⟨rfl,rfl⟩:=hh
   rcases ho with ⟨_,_,_,_,q,_⟩|⟨_,q,_⟩
   .cases p<;>simp[Stn,V.sub]at q
   .simp[Stn,zi_]at q
 | l l =>
   cases l with
   | var i =>
     have hx:args[i]?=some x:=hh.1
     obtain⟨v',h1,h2⟩:=hd.val hx
     rw[hh.2]at h2
     cases h2
     have hk:=hd.ok x (zzd_ hx)
     rcases ho with ho|⟨_,q,_⟩
     .exact .inl ⟨i,x,v,rfl,hx,h1,ho⟩
     .obtain⟨d,e,z,xs,q1,_⟩:=z4_ q
      subst q1
      simp[okA,okL]at hk
   | cell c o =>
     obtain⟨k1,k2,k3,k4⟩:=hd.at hh.1
     rcases ho with ho|⟨_,q,_⟩
     .obtain⟨e,z,xs,u,q1,q2,q3⟩:=ho
      obtain⟨rfl,_⟩:=xe_ k4 q1
      exact .inr ⟨c,o,rfl,k1,k2,rfl,x,v,⟨k3,hh.2⟩,.inl ⟨e,z,xs,u,q1,q2,q3⟩⟩
     .obtain⟨d,e,z,xs,q1,_⟩:=z4_ q
      subst q1
      simp[yH_]at k4
theorem Handed.bd(hd:Handed F g w S a sel args vals bs)(h:Rel F g w S a):Bd (subG g sel) w args vals bs:=by
 have hlen:=hd.lenb
 have hnol:∀l d e0 e z xs,(Stn args bs).at l≠some (.lent d e0 e z xs):=by
  intro l d e0 e z xs hx
  cases l with
  | var i =>
    have:=hd.ok _ (zzd_ (show args[i]?=some _ from hx))
    simp[okA,okL]at this
  | cell c o =>
    have:=(hd.at hx).2.2.2
    simp[yH_]at this
 refine⟨hd.len.symm,rfl,?_,?_,?_,?_,?_,?_,?_,?_,?_,?_,?_,h.Ilt,?_,?_,?_,?_⟩
 .intro r x v hh
  cases r with
  |t t=>obtain⟨rfl,rfl⟩:=hh;exact .no
  | l l =>
    cases l with
    | var i =>
      obtain⟨v',h1,h2⟩:=hd.val (show args[i]?=some x from hh.1)
      rw[hh.2]at h2
      cases h2
      exact hd.rep i x v hh.1 h1
    | cell c o =>
      obtain⟨k1,k2,k3,k4⟩:=hd.at hh.1
      refine(h.rep (.l (.cell (sel.getD c 0) o)) x v ⟨k3,hh.2⟩).keep (fun _ _ ho=>⟨ho,rfl⟩) (fun _ _ _=>rfl) (fun p b o' hs=>?_)
      obtain⟨_,e⟩:=xe_ k4 hs
      subst e
      simp[yH_]at k4
 .intro l x hx
  cases l with
  | var i =>
    obtain⟨v',_,h2⟩:=hd.val (show args[i]?=some x from hx)
    exact⟨v',h2,fun ⟨b,o,e⟩=>by cases e⟩
  | cell c o =>
    obtain⟨k1,k2,k3,k4⟩:=hd.at hx
    obtain⟨v,q1,q2⟩:=h.lookv _ x k3
    exact⟨v,q1,fun _=>q2 ⟨_,_,rfl⟩⟩
 .exact fun l d e z xs v hx _=>absurd hx (hnol l d _ e z xs)
 .intro c cs hc
  exact h.box _ _ (hd.box hc).2.2
 .intro c c' hc hc' he
  have hc:c<bs.length:=hc
  have hc':c'<bs.length:=hc'
  have e:=h.inj _ _ (hd.sel_lt hc).1 (hd.sel_lt hc').1 he
  have e1:sel[c]?=some (sel.getD c 0):=by simp[yyk_,(by omega:c<sel.length)]
  have e2:sel[c']?=some (sel.getD c' 0):=by simp[yyk_,(by omega:c'<sel.length)]
  rw[e]at e1
  exact(List.getElem?_inj (by omega) hd.nd).1 (e1.trans e2.symm)
 .intro r x v p b o hh hs
  show b<bs.length
  rw[hlen]
  cases r with
  |t t=>obtain⟨rfl,rfl⟩:=hh;cases p<;>simp[Stn,V.sub]at hs
  | l l =>
    cases l with
    | var i =>
      have hm:=zzd_ (show args[i]?=some x from hh.1)
      exact up_ (hd.ptr x hm) (hd.ok x hm) hs
    | cell c o =>
      obtain⟨k1,k2,k3,k4⟩:=hd.at hh.1
      obtain⟨_,e⟩:=xe_ k4 hs
      subst e
      simp[yH_]at k4
 .intro r p k ho
  rcases hd.ownc ho with ⟨i,y,v,rfl,h1,h2,h3⟩|⟨c,o,rfl,h1,h2,rfl,h3⟩
  .obtain⟨q1,q2,q3,_⟩:=hd.own i y v p k h1 h2 h3
   exact⟨q1,q2,fun b hb=>q3 _ (hd.sel_lt hb).1⟩
  .obtain⟨q1,q2,q3⟩:=h.ownI _ _ _ h3
   exact⟨q1,q2,fun b hb=>q3 _ (hd.sel_lt hb).1⟩
 .intro r p r' p' k ho ho'
  rcases hd.ownc ho with ⟨i,y,v,rfl,h1,h2,h3⟩|⟨c,o,rfl,h1,h2,rfl,h3⟩<;>rcases hd.ownc ho' with ⟨i',y',v',rfl,h1',h2',h3'⟩|⟨c',o',rfl,h1',h2',rfl,h3'⟩
  .obtain⟨rfl,q⟩:=hd.inj i i' y y' v v' p p' k h1 h2 h3 h1' h2' h3'
   exact⟨rfl,q⟩
  .exact absurd h3' ((hd.own i y v p k h1 h2 h3).2.2.2 _ _)
  .exact absurd h3 ((hd.own i' y' v' p' k h1' h2' h3').2.2.2 _ _)
  .have q:=(h.uniq _ _ _ _ _ h3 h3').1
   injection q with q
   injection q with q1 q2
   have e1:sel[c]?=some (sel.getD c 0):=by simp[yyk_,h1]
   have e2:sel[c']?=some (sel.getD c' 0):=by simp[yyk_,h1']
   rw[q1]at e1
   have:=(List.getElem?_inj h1 hd.nd).1 (e1.trans e2.symm)
   subst this
   subst q2
   exact⟨rfl,rfl⟩
 .intro t p x v hx hv
  cases p with
  |nil=>simp[Stn,V.sub]at hx;subst hx;trivial
  |cons i p=>simp[Stn,V.sub]at hx
 .intro l x hx p
  cases l with
  |var i=>exact mr_ (hd.ok x (zzd_ (show args[i]?=some x from hx)))
  |cell c o=>exact h.novw _ x (hd.at hx).2.2.1 p
 .intro t p d e0 e z xs hs
  cases p<;>simp[Stn,V.sub]at hs
 .intro t _;rfl
 .intro t p x hx
  cases p with
  |nil=>simp[Stn,V.sub]at hx;subst hx;exact zzn_ _
  |cons i p=>simp[Stn,V.sub]at hx
 .intro l x hx
  show epOf x<=0
  cases l with
  |var i=>rw[ms_ (hd.ok x (zzd_ (show args[i]?=some x from hx)))];exact zzl_ _
  |cell c o=>rw[rb_ (hd.at hx).2.2.2];exact zzl_ _
 .exact fun l d e z xs v k hx _=>absurd hx (hnol l d _ e z xs)
end
end
section
section
variable{P:Program}{F:Fr}{g:Gh}{w:World}{S:St}{a:Act}{sel:List Nat}{args:List V}{vals:Array Value}{bs:List (List V)}
theorem Handed.nown(hd:Handed F g w S a sel args vals bs)(h:Rel F g w S a){r:Root}{p:List Nat}{k:Nat}(ho:Own F g w S a r p k)(hr:∀b o,r=.l (.cell b o)->b∉sel):¬OwnB (subG g sel) w args vals bs k:=by
 rintro(⟨r',p',ho'⟩|⟨c,hc,e⟩)
 .rcases hd.ownc ho' with ⟨i,y,v,rfl,h1,h2,h3⟩|⟨c,o,rfl,h1,h2,rfl,h3⟩
  .exact(hd.own i y v p' k h1 h2 h3).2.2.2 _ _ ho
  .have q:=(h.uniq _ _ _ _ _ ho h3).1
   exact hr _ _ q h2
 .exact(h.ownI _ _ _ ho).2.2 _ (hd.sel_lt hc).1 e
theorem Handed.nbox(hd:Handed F g w S a sel args vals bs)(h:Rel F g w S a){b:Nat}(hb:b<S.bx.length)(hs:b∉sel):¬OwnB (subG g sel) w args vals bs (g.φ b):=by
 rintro(⟨r',p',ho'⟩|⟨c,hc,e⟩)
 .rcases hd.ownc ho' with ⟨i,y,v,rfl,h1,h2,h3⟩|⟨c,o,rfl,h1,h2,rfl,h3⟩
  .exact(hd.own i y v p' _ h1 h2 h3).2.2.1 _ hb rfl
  .exact(h.ownI _ _ _ h3).2.2 _ hb rfl
 .obtain⟨q1,q2⟩:=hd.sel_lt hc
  have:=h.inj _ _ q1 hb e
  exact hs (this ▸ q2)
theorem Handed.nfrz(hd:Handed F g w S a sel args vals bs)(h:Rel F g w S a){k:Nat}(hk:0<g.I k):¬OwnB (subG g sel) w args vals bs k:=by
 rintro(⟨r',p',ho'⟩|⟨c,hc,e⟩)
 .rcases hd.ownc ho' with ⟨i,y,v,rfl,h1,h2,h3⟩|⟨c,o,rfl,h1,h2,rfl,h3⟩
  .have:=(hd.own i y v p' _ h1 h2 h3).1;omega
  .have:=(h.ownI _ _ _ h3).1;omega
 .obtain⟨_,_,_,_,q⟩:=h.box _ _ (zzf_ (hd.sel_lt hc).1)
  have e':g.φ (sel.getD c 0)=k:=e
  rw[e']at q
  omega
def aftG(g g':Gh)(sel:List Nat)(n:Nat):Gh:=⟨g'.I,fun b=>if b<n then g.φ b else g'.φ (sel.length+(b-n))⟩
def aftS(S:St)(d:Nat)(r:V)(sel:List Nat)(bs:List (List V)):St:=⟨upd S.tm d (ren (fwd sel S.bx.length) r),S.vs,xl_ S.bx sel bs,S.ep+1⟩
structure Back(F:Fr)(g:Gh)(w:World)(S:St)(a:Act)(sel:List Nat)(args:List V)(vals:Array Value)(bs:List (List V))(g':Gh)(w':World)(r:V)(v:Value)(bs':List (List V)):Prop where
 hand:Handed F g w S a sel args vals bs
 ok:okV r=true
 bd:Bd g' w' [r] #[v] bs'
 ext:Ext (subG g sel) w (OwnB (subG g sel) w args vals bs) g' w' (OwnB g' w' [r] #[v] bs') bs.length
 len:sel.length<=bs'.length
 cb:∀cs∈bs',∀x∈cs,yH_ x=true
variable{g':Gh}{w':World}{r:V}{v:Value}{bs':List (List V)}
theorem Back.phi(hb:Back F g w S a sel args vals bs g' w' r v bs'){c:Nat}(hc:c<bs'.length):(aftG g g' sel S.bx.length).φ (fwd sel S.bx.length c)=g'.φ c:=by
 have hl:=hb.hand.lenb
 by_cases h:c<sel.length
 .have h1:=hb.hand.sel_lt (by omega:c<bs.length)
  have e:fwd sel S.bx.length c=sel.getD c 0:=by simp[fwd,h]
  rw[e]
  simp only[aftG]
  rw[if_pos h1.1]
  exact(hb.ext.phi c (by omega)).symm
 .have e:fwd sel S.bx.length c=S.bx.length+(c-sel.length):=by simp[fwd,h]
  rw[e]
  simp only[aftG]
  rw[if_neg (by omega)]
  congr 1
  omega
theorem Back.phi_old(g:Gh){n b:Nat}(h:b<n):(aftG g g' sel n).φ b=g.φ b:=by simp[aftG,h]
theorem Back.blk(hb:Back F g w S a sel args vals bs g' w' r v bs'){k:Nat}(hk:k<w.heap.size)(hn:¬OwnB (subG g sel) w args vals bs k):w'.heap[k]?=w.heap[k]?/\g'.I k=g.I k:=hb.ext.same k hk hn
theorem Back.keepI(hb:Back F g w S a sel args vals bs g' w' r v bs')(h:Rel F g w S a):∀b o,o<g.I b->o<(aftG g g' sel S.bx.length).I b/\w'.cell? ⟨b,o,none⟩=w.cell? ⟨b,o,none⟩:=by
 intro b o ho
 have hbk:=hb.blk (h.Ilt b (by omega)) (hb.hand.nfrz h (by omega:0<g.I b))
 exact⟨by show o<g'.I b;omega,yyb_ (a:=⟨b,o,none⟩) hbk.1⟩
theorem Back.hat(hb:Back F g w S a sel args vals bs g' w' r v bs')(h:Rel F g w S a){d:Nat}(hd:d<F.N)(hdv:d∉F.sv){l:Loc}{x:V}(hx:(aftS S d r sel bs').at l=some x) :
 (S.at l=some x/\z8_ F (aftG g g' sel S.bx.length) w' (a.put (some d) v) l=z8_ F g w a l/\∀b o,l=.cell b o->b<S.bx.length/\b∉sel) \/
 ∃c o,l=.cell (fwd sel S.bx.length c) o/\c<bs'.length/\(Stn [r] bs').at (.cell c o)=some x/\yH_ x=true/\z8_ F (aftG g g' sel S.bx.length) w' (a.put (some d) v) l=z8_ (Frn 1) g' w' ⟨#[v],[]⟩ (.cell c o):=by
 cases l with
 | var i =>
   refine .inl ⟨hx,?_,fun b o e=>by cases e⟩
   simp only[z8_]
   cases hi:F.sv[i]? with
   |none=>rfl
   | some t =>
     have:t≠d:=fun e=>hdv (e ▸ zzd_ hi)
     simp only[zzz_]
     rw[yw_ (by rw[h.sz];exact hd),if_neg this]
 | cell b o =>
   simp only[aftS,St.at,zza_]at hx
   obtain⟨cs,h1,h2⟩:=hx
   have hbl:=(zzc_.1 h1).1
   rcases ye_ hbl with ⟨q1,q2⟩|⟨c,q1,q2⟩
   .left
    rw[vl_ q1 q2]at h1
    refine⟨by simp[St.at,h1,h2],?_,fun b' o' e=>by injection e with e1 e2;subst e1;exact⟨q1,q2⟩⟩
    simp only[z8_]
    rw[Back.phi_old g q1]
    exact yyb_ (a:=⟨g.φ b,o,none⟩) (hb.blk (zU_ h q1).1 (hb.hand.nbox h q1 q2)).1
   .right
    have hlen:=hb.len
    have hc:c<bs'.length:=by omega
    subst q2
    rw[t9_ hb.hand.nd hb.hand.lt hlen hc]at h1
    refine⟨c,o,rfl,hc,by simp[St.at,Stn,h1,h2],hb.cb cs (zzd_ h1) x (zzd_ h2),?_⟩
    simp only[z8_]
    rw[hb.phi hc]
inductive RootIs(sel:List Nat)(n d m:Nat):Root->Root->Prop
 |res:RootIs sel n d m (.l (.var 0)) (.t d)
 |cell {c o:Nat} (h:c<m):RootIs sel n d m (.l (.cell c o)) (.l (.cell (fwd sel n c) o))
theorem Back.has(hb:Back F g w S a sel args vals bs g' w' r v bs')(h:Rel F g w S a){d:Nat}(hd:d<F.N)(hdv:d∉F.sv){q:Root}{x:V}{u:Value}(hx:Has F (aftG g g' sel S.bx.length) w' (aftS S d r sel bs') (a.put (some d) v) q x u) :
 (Has F g w S a q x u/\q≠.t d/\∀b o,q=.l (.cell b o)->b<S.bx.length/\b∉sel) \/
 ∃rc x',Has (Frn 1) g' w' (Stn [r] bs') ⟨#[v],[]⟩ rc x' u/\x=ren (fwd sel S.bx.length) x'/\(okV x'=true\/yH_ x'=true)/\RootIs sel S.bx.length d bs'.length rc q:=by
 cases q with
 | t t =>
   obtain⟨rfl,rfl⟩:=hx
   rw[yw_ (by rw[h.sz];exact hd)]
   by_cases ht:t=d
   .subst ht
    right
    refine⟨.l (.var 0),r,⟨rfl,by simp[z8_,Frn,Act.tv]⟩,by simp[aftS,upd],.inl hb.ok,.res⟩
   .left
    refine⟨⟨by simp[aftS,upd,ht],by simp[ht]⟩,fun e=>ht (by injection e),fun b o e=>by cases e⟩
 | l l =>
   rcases hb.hat h hd hdv hx.1 with ⟨h1,h2,h3⟩|⟨c,o,rfl,h1,h2,h3,h4⟩
   .left
    have hx2:=hx.2
    rw[h2]at hx2
    exact⟨⟨h1,hx2⟩,(by intro e;cases e),(by intro b o e;exact h3 b o (by injection e))⟩
   .right
    refine⟨.l (.cell c o),x,⟨h2,by rw[<-h4];exact hx.2⟩,(xf_ h3).symm,.inr h3,.cell h1⟩
theorem Back.own(hb:Back F g w S a sel args vals bs g' w' r v bs')(h:Rel F g w S a){d:Nat}(hd:d<F.N)(hdv:d∉F.sv){q:Root}{p:List Nat}{k:Nat}(hx:Own F (aftG g g' sel S.bx.length) w' (aftS S d r sel bs') (a.put (some d) v) q p k) :
 (Own F g w S a q p k/\q≠.t d/\∀b o,q=.l (.cell b o)->b<S.bx.length/\b∉sel) \/
 ∃rc,Own (Frn 1) g' w' (Stn [r] bs') ⟨#[v],[]⟩ rc p k/\RootIs sel S.bx.length d bs'.length rc q:=by
 obtain⟨x,u,hh,ho⟩:=hx
 rcases hb.has h hd hdv hh with ⟨h1,h2⟩|⟨rc,x',h1,rfl,h2,h3⟩
 .refine .inl ⟨⟨x,u,h1,?_⟩,h2⟩
  rcases ho with ho|⟨_,hl,_⟩
  .exact .inl ho
  .exfalso
   obtain⟨d',e,z,xs,rfl,_⟩:=z4_ hl
   cases q with
   |t t=>exact h.notl t [] d' _ e z xs (by rw[<-h1.1];rfl)
   | l l =>
     have:=h.epl l _ h1.1
     simp[epOf,aftS]at this
     omega
 .refine .inr ⟨rc,⟨x',u,h1,.inl ?_⟩,h3⟩
  rcases ho with ho|⟨_,hl,_⟩
  .rcases h2 with h2|h2
   .exact(tk_ h2).1 ho
   .rw[xf_ h2]at ho;exact ho
  .exfalso
   obtain⟨d',e,z,xs,q1,_⟩:=z4_ hl
   rcases h2 with h2|h2
   .cases x'<;>simp[ren,renA,renL]at q1<;>simp[okV,okA,okL]at h2
   .rw[xf_ h2]at q1;subst q1;simp[yH_]at h2
theorem RootIs.inj{n d m:Nat}(hs:sel.Nodup)(hlt:∀i∈sel,i<n){rc rc' q:Root}(h:RootIs sel n d m rc q)(h':RootIs sel n d m rc' q):rc=rc':=by
 cases h with
 |res=>cases h';rfl
 | cell hc =>
   rename_i c o
   generalize hq:Root.l (.cell (fwd sel n c) o)=q at h'
   cases h' with
   |res=>cases hq
   | cell hc' =>
     injection hq with hq
     injection hq with h1 h2
     rw[nI_ hs hlt h1,h2]
theorem RootIs.fn{n d m:Nat}{rc q q':Root}(h:RootIs sel n d m rc q)(h':RootIs sel n d m rc q'):q=q':=by
 cases h<;>cases h'<;>rfl
theorem RootIs.not{n d m:Nat}(hlt:∀i∈sel,i<n){rc q:Root}(h:RootIs sel n d m rc q)(hq:q≠.t d/\∀b o,q=.l (.cell b o)->b<n/\b∉sel):False:=by
 cases h with
 |res=>exact hq.1 rfl
 | cell hc =>
   rename_i c o
   obtain⟨h1,h2⟩:=hq.2 _ _ rfl
   unfold fwd at h1 h2
   split at h1
   .next hcl =>
    rw[if_pos hcl]at h2
    exact h2 (by simp[yyk_,hcl])
   .omega
theorem mM_{n c m:Nat}(hlt:∀i∈sel,i<n)(hl:sel.length<=m)(hc:c<m):fwd sel n c<n+(m-sel.length):=by
 unfold fwd
 split
 .next h =>
  have:sel.getD c 0∈sel:=by simp[yyk_,h]
  have:=hlt _ this
  omega
 .omega
end
end
section
section
variable{P:Program}{F:Fr}{g:Gh}{w:World}{S:St}{a:Act}{sel:List Nat}{args:List V}{vals:Array Value}{bs:List (List V)}
variable{g':Gh}{w':World}{r:V}{v:Value}{bs':List (List V)}
theorem o3_{x y:V}{p:List Nat}(h:okV x=true\/yH_ x=true)(hs:x.sub p=some y):(∀d e0 e z xs,y≠.lent d e0 e z xs)/\(∀l e,y≠.view l e)/\(∀l e lo n,y≠.sview l e lo n)/\(∀l e i q,y≠.vp l e i q)/\epOf y=0/\(∀cs,y≠.ip cs):=by
 by_cases hl:leaf y=true
 ·have:okL y=true∨yH_ y=true:=by
   rcases h with h|h
   .exact .inl (qL_ h hs hl)
   .obtain⟨_,e⟩:=xe_ h hs
    subst e;exact .inr h
  cases y<;>simp[okL,yH_]at this<;>simp[epOf]
 .cases y<;>simp[leaf]at hl<;>simp[epOf]
theorem qn_{f:Nat->Nat}{x y:V}{p:List Nat}(h:okV x=true\/yH_ x=true)(hs:(ren f x).sub p=some y):∃z,x.sub p=some z/\y=ren f z:=by
 rcases h with h|h
 .rw[tZ_ h,zzb_]at hs
  obtain⟨z,h1,h2⟩:=hs
  exact⟨z,h1,h2.symm⟩
 .rw[xf_ h]at hs
  obtain⟨rfl,e⟩:=xe_ h hs
  subst e
  exact⟨y,rfl,(xf_ h).symm⟩
theorem nm_{f:Nat->Nat}{z:V}{b o:Nat}(h:ren f z=.ptr b o):∃b',z=.ptr b' o/\f b'=b:=by
 cases z<;>simp[ren,renA,renL]at h
 exact⟨_,by rw[h.2],h.1⟩
theorem Back.rel(hb:Back F g w S a sel args vals bs g' w' r v bs')(h:Rel F g w S a){d:Nat}(hd:d<F.N)(hdv:d∉F.sv):Rel F (aftG g g' sel S.bx.length) w' (aftS S d r sel bs') (a.put (some d) v):=by
 have hlt:=hb.hand.lt
 have hnd:=hb.hand.nd
 have hlen:=hb.len
 have hbxl:(aftS S d r sel bs').bx.length=S.bx.length+(bs'.length-sel.length):=yZ_
 have hphi:∀ {c},c<bs'.length->(aftG g g' sel S.bx.length).φ (fwd sel S.bx.length c)=g'.φ c:=fun hc=>hb.phi hc
 -- a leaf's tree has no row that is lent
 have hleaf:∀ {q:Root} {x:V} {u:Value},Has F (aftG g g' sel S.bx.length) w' (aftS S d r sel bs') (a.put (some d) v) q x u->(Has F g w S a q x u)\/(∀p y,x.sub p=some y->(∀d e0 e z xs,y≠.lent d e0 e z xs)/\(∀l e,y≠.view l e)/\(∀l e lo n,y≠.sview l e lo n)/\(∀l e i q,y≠.vp l e i q)/\epOf y=0/\(∀cs,y≠.ip cs)):=by
  intro q x u hx
  rcases hb.has h hd hdv hx with ⟨h1,_⟩|⟨rc,x',h1,rfl,h2,h3⟩
  .exact .inl h1
  .refine .inr fun p y hs=>?_
   obtain⟨z,k1,rfl⟩:=qn_ h2 hs
   have:=o3_ h2 k1
   cases z<;>(simp[ren,renA,renL,epOf]at this ⊢;try exact this)
 have hptrr:∀ {rc:Root} {x':V} {u:Value},Has (Frn 1) g' w' (Stn [r] bs') ⟨#[v],[]⟩ rc x' u->∀p b o,x'.sub p=some (.ptr b o)->b<bs'.length:=fun hh p b o hs=>hb.bd.ptr _ _ _ p b o hh hs
 have hownlt:∀ {rc p k},Own (Frn 1) g' w' (Stn [r] bs') ⟨#[v],[]⟩ rc p k->OwnB (subG g sel) w args vals bs k\/w.heap.size<=k:=fun ho=>hb.ext.owned _ (.inl ⟨_,_,ho⟩)
 have hat_lent:∀l d' e z xs,(aftS S d r sel bs').at l≠some (.lent d' (S.ep+1) e z xs):=by
  intro l d' e z xs hx
  rcases hb.hat h hd hdv hx with ⟨h1,_⟩|⟨c,o,rfl,h1,h2,h3,_⟩
  .have:=h.epl l _ h1
   simp[epOf]at this
   omega
  .simp[yH_]at h3
 refine⟨?_,h.dfr,?_,?_,?_,?_,?_,?_,?_,?_,?_,?_,?_,hb.bd.Ilt,?_,?_,?_,?_⟩
 .rw[<-h.sz];simp[Act.put]
 .intro q x u hx
  rcases hb.has h hd hdv hx with ⟨h1,h2,h3⟩|⟨rc,x',h1,rfl,h2,h3⟩
  .refine(h.rep q x u h1).keep (hb.keepI h) (fun p k ho=>?_) (fun p b o hs=>Back.phi_old g (h.ptr q x u p b o h1 hs))
   have ho':Own F g w S a q p k:=⟨x,u,h1,.inl ho⟩
   exact(hb.blk (h.ownI _ _ _ ho').2.1 (hb.hand.nown h ho' (fun b o e=>(h3 b o e).2))).1
  .have hr:=hb.bd.rep rc x' u h1
   rcases h2 with h2|h2
   .exact nl_ hr h2 rfl (fun p b o hs=>hphi (hptrr h1 p b o hs))
   .rw[xf_ h2]
    refine hr.keep (fun _ _ ho=>⟨ho,rfl⟩) (fun _ _ _=>rfl) (fun p b o hs=>?_)
    obtain⟨_,e⟩:=xe_ h2 hs
    subst e
    simp[yH_]at h2
 .intro l x hx
  rcases hb.hat h hd hdv hx with ⟨h1,h2,_⟩|⟨c,o,rfl,h1,h2,h3,h4⟩
  .rw[h2];exact h.lookv l x h1
  .rw[h4]
   obtain⟨u,q1,q2⟩:=hb.bd.lookv _ x h2
   exact⟨u,q1,fun _=>q2 ⟨_,_,rfl⟩⟩
 .exact fun l d' e z xs u hx _=>absurd hx (hat_lent l d' e z xs)
 .intro b cs hbc
  have hbl:b<(xl_ S.bx sel bs').length:=(zzc_.1 hbc).1
  rcases ye_ hbl with ⟨q1,q2⟩|⟨c,q1,q2⟩
  .have hbc':S.bx[b]?=some cs:=by rw[<-vl_ q1 q2];exact hbc
   obtain⟨vs,ty,k1,k2,k3⟩:=h.box b cs hbc'
   rw[Back.phi_old g q1]
   obtain⟨m1,m2⟩:=hb.blk (zU_ h q1).1 (hb.hand.nbox h q1 q2)
   exact⟨vs,ty,m1.trans k1,k2,m2.trans k3⟩
  .have hc:c<bs'.length:=by omega
   subst q2
   have hbc':bs'[c]?=some cs:=by rw[<-t9_ hnd hlt hlen hc];exact hbc
   rw[hphi hc]
   exact hb.bd.box c cs hbc'
 .intro b b' hbl hbl' he
  rcases ye_ (show b<(xl_ S.bx sel bs').length from hbl) with ⟨q1,q2⟩|⟨c,q1,q2⟩<;>rcases ye_ (show b'<(xl_ S.bx sel bs').length from hbl') with ⟨q1',q2'⟩|⟨c',q1',q2'⟩
  .rw[Back.phi_old g q1,Back.phi_old g q1']at he
   exact h.inj _ _ q1 q1' he
  .exfalso
   subst q2'
   rw[Back.phi_old g q1,hphi (by omega)]at he
   rcases hb.ext.owned (g'.φ c') (.inr ⟨c',by show c'<bs'.length;omega,rfl⟩) with q|q
   .exact hb.hand.nbox h q1 q2 (he ▸ q)
   .have:=(zU_ h q1).1;omega
  .exfalso
   subst q2
   rw[Back.phi_old g q1',hphi (by omega)]at he
   rcases hb.ext.owned (g'.φ c) (.inr ⟨c,by show c<bs'.length;omega,rfl⟩) with q|q
   .exact hb.hand.nbox h q1' q2' (he ▸ q)
   .have:=(zU_ h q1').1;omega
  .subst q2 q2'
   rw[hphi (by omega),hphi (by omega)]at he
   rw[hb.bd.inj c c' (by show c<bs'.length;omega) (by show c'<bs'.length;omega) he]
 .intro q x u p b o hx hs
  rw[hbxl]
  rcases hb.has h hd hdv hx with ⟨h1,_⟩|⟨rc,x',h1,rfl,h2,h3⟩
  .have:=h.ptr q x u p b o h1 hs;omega
  .obtain⟨z,k1,k2⟩:=qn_ h2 hs
   obtain⟨b',rfl,rfl⟩:=nm_ k2.symm
   exact mM_ hlt hlen (hptrr h1 p b' o k1)
 .intro q p k ho
  rcases hb.own h hd hdv ho with ⟨h1,h2⟩|⟨rc,h1,h2⟩
  .obtain⟨k1,k2,k3⟩:=h.ownI _ _ _ h1
   have hn:=hb.hand.nown h h1 (fun b o e=>(h2.2 b o e).2)
   obtain⟨m1,m2⟩:=hb.blk k2 hn
   refine⟨m2.trans k1,zzk_ k2 hb.ext.size,fun b hbl e=>?_⟩
   rcases ye_ (show b<(xl_ S.bx sel bs').length from hbl) with ⟨q1,q2⟩|⟨c,q1,q2⟩
   .rw[Back.phi_old g q1]at e;exact k3 b q1 e
   .subst q2
    rw[hphi (by omega)]at e
    rcases hb.ext.owned (g'.φ c) (.inr ⟨c,by show c<bs'.length;omega,rfl⟩) with q|q
    .exact hn (e ▸ q)
    .omega
  .obtain⟨k1,k2,k3⟩:=hb.bd.ownI _ _ _ h1
   refine⟨k1,k2,fun b hbl e=>?_⟩
   rcases ye_ (show b<(xl_ S.bx sel bs').length from hbl) with ⟨q1,q2⟩|⟨c,q1,q2⟩
   .rw[Back.phi_old g q1]at e
    rcases hownlt h1 with q|q
    .exact hb.hand.nbox h q1 q2 (e ▸ q)
    .have:=(zU_ h q1).1;omega
   .subst q2
    rw[hphi (by omega)]at e
    exact k3 c (by show c<bs'.length;omega) e
 .intro q p q' p' k ho ho'
  rcases hb.own h hd hdv ho with ⟨h1,h2⟩|⟨rc,h1,h2⟩<;>rcases hb.own h hd hdv ho' with ⟨h1',h2'⟩|⟨rc',h1',h2'⟩
  .exact h.uniq _ _ _ _ _ h1 h1'
  .exfalso
   rcases hownlt h1' with q|q
   .exact hb.hand.nown h h1 (fun b o e=>(h2.2 b o e).2) q
   .have:=(h.ownI _ _ _ h1).2.1;omega
  .exfalso
   rcases hownlt h1 with q|q
   .exact hb.hand.nown h h1' (fun b o e=>(h2'.2 b o e).2) q
   .have:=(h.ownI _ _ _ h1').2.1;omega
  .obtain⟨rfl,e⟩:=hb.bd.uniq _ _ _ _ _ h1 h1'
   exact⟨h2.fn h2',e⟩
 .intro t p x u hx hu
  have hh:Has F (aftG g g' sel S.bx.length) w' (aftS S d r sel bs') (a.put (some d) v) (.t t) ((aftS S d r sel bs').tm t) (Act.tv (a.put (some d) v) t):=⟨rfl,rfl⟩
  rcases hleaf hh with h1|h1
  .have e1:(S.tm t).sub p=some x:=by rw[<-h1.1];exact hx
   have hep:=h.ept t p x e1
   cases x<;>first|trivial|(intro he;exfalso;simp[aftS]at he;simp[epOf]at hep;omega)
  .obtain⟨_,k2,k3,k4,_,_⟩:=h1 p x hx
   cases x<;>first|trivial|exact absurd rfl (k2 _ _)|exact absurd rfl (k3 _ _ _ _)|exact absurd rfl (k4 _ _ _ _)
 .intro l x hx p
  obtain⟨u,hu,_⟩:∃u,z8_ F (aftG g g' sel S.bx.length) w' (a.put (some d) v) l=some u/\True:=by
   rcases hb.hat h hd hdv hx with ⟨h1,h2,_⟩|⟨c,o,rfl,h1,h2,h3,h4⟩
   .rw[h2];obtain⟨u,q,_⟩:=h.lookv l x h1;exact⟨u,q,trivial⟩
   .rw[h4];obtain⟨u,q,_⟩:=hb.bd.lookv _ x h2;exact⟨u,q,trivial⟩
  rcases hleaf (q:=.l l) ⟨hx,hu⟩ with h1|h1
  .exact h.novw l x h1.1 p
  .exact⟨fun l' e hs=>(h1 p _ hs).2.1 _ _ rfl,fun l' e lo n hs=>(h1 p _ hs).2.2.1 _ _ _ _ rfl,fun l' e i q hs=>(h1 p _ hs).2.2.2.1 _ _ _ _ rfl,fun cs hs=>(h1 p _ hs).2.2.2.2.2 _ rfl⟩
 .intro t p d' e0 e z xs hs
  have hh:Has F (aftG g g' sel S.bx.length) w' (aftS S d r sel bs') (a.put (some d) v) (.t t) ((aftS S d r sel bs').tm t) (Act.tv (a.put (some d) v) t):=⟨rfl,rfl⟩
  rcases hleaf hh with h1|h1
  .exact h.notl t p d' e0 e z xs (by rw[<-h1.1];exact hs)
  .exact(h1 p _ hs).1 _ _ _ _ _ rfl
 .intro t ht
  have:t≠d:=fun e=>hdv (e ▸ ht)
  simp only[aftS,upd,if_neg this]
  exact h.tmv t ht
 .intro t p x hx
  have hh:Has F (aftG g g' sel S.bx.length) w' (aftS S d r sel bs') (a.put (some d) v) (.t t) ((aftS S d r sel bs').tm t) (Act.tv (a.put (some d) v) t):=⟨rfl,rfl⟩
  rcases hleaf hh with h1|h1
  .exact Nat.le_succ_of_le (h.ept t p x (by rw[<-h1.1];exact hx))
  .rw[(h1 p x hx).2.2.2.2.1];exact zzn_ _
 .intro l x hx
  rcases hb.hat h hd hdv hx with ⟨h1,_⟩|⟨c,o,rfl,h1,h2,h3,h4⟩
  .exact Nat.le_succ_of_le (h.epl l x h1)
  .rw[rb_ h3];exact zzn_ _
 .exact fun l d' e z xs u k hx _=>absurd hx (hat_lent l d' e z xs)
theorem Back.fw(hb:Back F g w S a sel args vals bs g' w' r v bs')(h:Rel F g w S a){d:Nat}(hd:d<F.N)(hdv:d∉F.sv){g0:Gh}{S0:St}(hf:Fw F g0 w S0 a g w S a)(hw:∀k,OwnB (subG g sel) w args vals bs k->wN_ F g0 w S0 a k):Fw F g0 w S0 a (aftG g g' sel S.bx.length) w' (aftS S d r sel bs') (a.put (some d) v):=by
 have hlen:=hb.len
 refine⟨hb.ext.os,hb.ext.tape,hb.ext.output,hb.ext.size,fun k hk ho=>?_,fun k ho=>?_⟩
 .obtain⟨q1,q2⟩:=hb.blk hk (fun q=>ho (hw k q))
  exact⟨q1,q2.trans (hf.same k hk ho).2⟩
 .have hnew:OwnB g' w' [r] #[v] bs' k->wN_ F g0 w S0 a k\/w.heap.size<=k:=fun q=>(hb.ext.owned k q).elim (fun q=>.inl (hw k q)) .inr
  rcases ho with ⟨q,p,ho⟩|⟨b,hbl,e⟩
  .rcases hb.own h hd hdv ho with ⟨h1,h2⟩|⟨rc,h1,h2⟩
   .exact hf.owned k (.inl ⟨_,_,h1⟩)
   .exact hnew (.inl ⟨_,_,h1⟩)
  .rcases ye_ (show b<(xl_ S.bx sel bs').length from hbl) with ⟨q1,q2⟩|⟨c,q1,q2⟩
   .rw[Back.phi_old g q1]at e
    exact hf.owned k (.inr ⟨b,q1,e⟩)
   .subst q2
    rw[hb.phi (by omega)]at e
    exact hnew (.inr ⟨c,by show c<bs'.length;omega,e⟩)
end
end
section
theorem pN_{g g':Gh}{w:World}{f:Nat->Nat}{x:V}{v:Value}(h:Rep g w (ren f x) v)(hk:okA x=true)(hI:g'.I=g.I)(hp:∀b,g'.φ b=g.φ (f b)):Rep g' w x v:=by
 have leaf:∀ {x:V} {v:Value},Rep g w (renL f x) v->okL x=true->Rep g' w x v:=by
  intro x v h hk
  cases x<;>simp[okL]at hk
  case ptr b o =>
   cases h
   rw[<-hp b]
   exact .ptr
  all_goals exact h.keep (fun b o ho=>⟨by rw[hI];exact ho,rfl⟩) (fun _ _ _=>rfl) (fun p b o hs=>by cases p<;>simp[V.sub,renL]at hs)
 by_cases hag:∃cs,x=.agg cs
 .obtain⟨cs,rfl⟩:=hag
  cases h with
  | agg hl h1 hr =>
    simp only[okA,zzh_]at hk
    refine .agg (by simpa using hl) h1 (fun j u c hu hc=>?_)
    exact leaf (hr j (renL f u) c (by rw[zzs_,hu];rfl) hc) (hk u (zzd_ hu))
 ·have e:ren f x=renL f x:=by
   have:=tm_ hk
   cases x<;>first|rfl|exact absurd ⟨_,rfl⟩ hag|exact absurd rfl (this _)
  rw[e]at h
  exact leaf h (by cases x<;>first|exact hk|exact absurd ⟨_,rfl⟩ hag)
def dupS:List Nat->Bool
 |[]=>true
 |l::r=>!r.contains l&&dupS r
theorem ub_:∀ {ls:List Nat},dupS ls=true->ls.Nodup
 |[],_=>List.nodup_nil
 | l :: r, h => by
   simp only[dupS,zzg_,yyh_,List.contains_eq_mem,decide_eq_false_iff_not]at h
   exact List.nodup_cons.2 ⟨h.1,ub_ h.2⟩
structure handOk(bx:List (List V))(ys:List V)(mask:List Bool)(sel:List Nat)(args:List V)(bs:List (List V)):Prop where
 eq:args.map (ren (fun b=>sel.getD b 0))=fzs mask ys
 ok:args.all okA=true
 ptr:args.all (ptrA sel.length)=true
 nd:dupS sel=true
 lt:sel.all (fun i=>decide (i<bx.length))=true
 bse:bs=sel.map (fun i=>(bx[i]?).getD [])
 cb:bs.all (·.all yH_)=true
def vH_(sel:List Nat)(bs:List (List V)):Bool:=decide (sel.length<=bs.length)&&bs.all (·.all yH_)
section
variable{P:Program}{F:Fr}{g:Gh}{w:World}{S:St}{a:Act}
theorem nu_{g1:Gh}(hp:g1.φ=g.φ){r:Root}{p:List Nat}{k:Nat}(h:Own F g1 w S a r p k):Own F g w S a r p k:=by
 obtain⟨x,u,hh,ho⟩:=h
 refine⟨x,u,?_,ho⟩
 cases r with
 |t t=>exact hh
 | l l =>
   refine⟨hh.1,?_⟩
   rw[<-hh.2]
   cases l with
   |var i=>rfl
   |cell b o=>simp only[z8_,hp]
theorem rc_(h:Rel F g w S a){vs:List Value}{f:FuncId}{d:Nat}(hd:d<F.N)(hdv:d∉F.sv){ys:List V}{tm1:Nat->V}(ht:Tooks F g w S a tm1 ys vs)
 {mask:List Bool} {sel:List Nat} {args:List V} {bs:List (List V)} (ho:handOk S.bx ys mask sel args bs) {Q:V->List (List V)->Prop} (hc:AC P f args bs Q) (hQ:∀r bs',Q r bs'->vH_ sel bs'=true) :
 Calls P f vs.toArray w fun e w'=>∃v r bs',e=.returned v/\Q r bs'/\Ends F g w S a (aftS { S with tm:=tm1 } d r sel bs') (a.put (some d) v) w':=by
 obtain⟨g1,h1,f1,f2,f3,f4⟩:=Tooks.freezeM h ht (fun i=>mask.getD i false)
 have hl1:args.length=ys.length:=by have:=congrArg List.length ho.eq;rw[u8_]at this;simpa using this
 have hlen:args.length=vs.toArray.size:=by have:=ht.len;simp;omega
 have hat:∀ {i:Nat} {y:V} {v:Value},args[i]?=some y->vs.toArray[i]?=some v->okA y=true/\∃y0,ys[i]?=some y0/\vs[i]?=some v/\ren (fun b=>sel.getD b 0) y=fzB (mask.getD i false) y0:=by
  intro i y v hy hv
  refine⟨zzh_.1 ho.ok y (zzd_ hy),?_⟩
  have e:=congrArg (fun l=>l[i]?) ho.eq
  simp only[zzs_,hy,zzz_,p7_]at e
  cases hys:ys[i]? with
  |none=>rw[hys]at e;cases e
  | some y0 =>
    rw[hys]at e
    simp only[zzz_,yya_]at e
    exact⟨y0,rfl,by simpa using hv,e⟩
 have hown:∀ {i:Nat} {y:V} {v:Value} {p:List Nat} {k:Nat},args[i]?=some y->vs.toArray[i]?=some v->zD_ y v p k->∃y0,ys[i]?=some y0/\vs[i]?=some v/\mask.getD i false=false/\zD_ y0 v p k:=by
  intro i y v p k hy hv hoo
  obtain⟨hok,y0,k1,k2,k3⟩:=hat hy hv
  have h3:=(tk_ (f:=fun b=>sel.getD b 0) (nv_ hok)).2 hoo
  rw[k3]at h3
  obtain⟨q1,q2,_⟩:=ht.rep i y0 v k1 k2
  obtain⟨m1,m2⟩:=nH_ q1 q2 h3
  exact⟨y0,k1,k2,m1,m2⟩
 have hand:Handed F g1 w { S with tm:=tm1 } a sel args vs.toArray bs:=by
  refine⟨hlen,fun i y v hy hv=>?_,fun x hx=>zzh_.1 ho.ok x hx,fun x hx=>zzh_.1 ho.ptr x hx,fun i y v p k hy hv hoo=>?_,fun i i' y y' v v' p p' k e1 e2 e3 e4 e5 e6=>?_,ub_ ho.nd,fun i hi=>by simpa using zzh_.1 ho.lt i hi,ho.bse,fun cs hcs x hx=>zzh_.1 (zzh_.1 ho.cb cs hcs) x hx⟩
  .obtain⟨hok,y0,k1,k2,k3⟩:=hat hy hv
   have:=f4 i y0 v k1 k2
   rw[<-k3]at this
   exact pN_ this hok rfl (fun _=>rfl)
  .obtain⟨y0,k1,k2,k3,k4⟩:=hown hy hv hoo
   obtain⟨a1,a2,a3,a4,a5,a6,a7⟩:=k4
   obtain⟨⟨r,q,q1⟩,q2⟩:=ht.own i y0 v p k _ k1 k2 ⟨a1,a2,a3,a4,a5,a6,a7,rfl⟩
   obtain⟨m1,m2,m3⟩:=h.ownI _ _ _ q1.own
   refine⟨?_,m2,fun b hb=>by rw[f2];exact m3 b hb,fun r q ho'=>q2 r q (nu_ f2 ho')⟩
   by_cases he:g1.I k=g.I k
   .rw[he];exact m1
   .exfalso
    obtain⟨_,i',y',v',p',b1,b2,b3,b4⟩:=f3 k he
    have:=(ht.inj i' i y' y0 v' v p' p k b2 b3 b4 k1 k2 ⟨a1,a2,a3,a4,a5,a6,a7⟩).1
    subst this
    rw[k3]at b1
    cases b1
  .obtain⟨y0,k1,k2,k3,k4⟩:=hown e1 e2 e3
   obtain⟨y0',k1',k2',k3',k4'⟩:=hown e4 e5 e6
   exact ht.inj i i' y0 y0' v v' p p' k k1 k2 k4 k1' k2' k4'
 refine(hc _ w _ (hand.bd h1)).mono ?_
 rintro e w' ⟨v,r,bs',g',rfl,hq,hok,hb,hex⟩
 have hbk:=hQ r bs' hq
 simp only[vH_,zzg_,zzp_]at hbk
 have back:Back F g1 w { S with tm:=tm1 } a sel args vs.toArray bs g' w' r v bs':=⟨hand,hok,hb,hex,hbk.1,fun cs hcs x hx=>zzh_.1 (zzh_.1 hbk.2 cs hcs) x hx⟩
 refine⟨v,r,bs',rfl,hq,aftG g1 g' sel S.bx.length,back.rel h1 hd hdv,back.fw h1 hd hdv f1 (fun k hk=>?_),fun b hb=>by rw[Back.phi_old g1 hb,f2]⟩
 rcases hk with ⟨r',p',ho'⟩|⟨c,hc',e⟩
 .rcases hand.ownc ho' with ⟨i,y,v,rfl,e1,e2,e3⟩|⟨c,o,rfl,e1,e2,rfl,e3⟩
  .obtain⟨y0,k1,k2,k3,k4⟩:=hown e1 e2 e3
   obtain⟨a1,a2,a3,a4,a5,a6,a7⟩:=k4
   obtain⟨⟨r,q,q1⟩,_⟩:=ht.own i y0 v p' k _ k1 k2 ⟨a1,a2,a3,a4,a5,a6,a7,rfl⟩
   exact .inl ⟨_,_,q1.own⟩
  .exact(f1.owned k (.inl ⟨_,_,e3⟩)).resolve_right (by have:=(h1.ownI _ _ _ e3).2.1;omega)
 .refine(f1.owned k (.inr ⟨_,(hand.sel_lt hc').1,e⟩)).resolve_right ?_
  have:=(zU_ h1 (hand.sel_lt hc').1).1
  have e':g1.φ (sel.getD c 0)=k:=e
  omega
theorem ou_(h:Rel F g w S a){xs:Array Operand}{qs:List Opd}{f:FuncId}{d:Nat}(hx:opds F xs.toList=some qs)(hd:d<F.N)(hdv:d∉F.sv){ys:List V}{tm1:Nat->V}(hk:takes S S.tm qs=some (ys,tm1))
 {mask:List Bool} {sel:List Nat} {args:List V} {bs:List (List V)} (ho:handOk S.bx ys mask sel args bs) {Q:V->List (List V)->Prop} (hc:AC P f args bs Q) (hQ:∀r bs',Q r bs'->vH_ sel bs'=true) :
 Calls P f (xs.map a.eval) w fun e w'=>∃v r bs',e=.returned v/\Q r bs'/\Ends F g w S a (aftS { S with tm:=tm1 } d r sel bs') (a.put (some d) v) w':=by
 have ht:=v1_ h xs.toList qs S.tm tm1 ys hx (fun t=>Less.refl _) (fun _ _=>rfl) hk
 have:=rc_ h hd hdv ht ho hc hQ
 have e:(xs.toList.map a.eval).toArray=xs.map a.eval:=by rw[<-Array.toList_map]
 rw[e]at this
 exact this
theorem Tooks.snoc{tm1:Nat->V}{ys:List V}{vs:List Value}(ht:Tooks F g w S a tm1 ys vs){b:Nat}(hb:b<S.bx.length):Tooks F g w S a tm1 (ys++[.ptr b 0]) (vs++[.pointer (some ⟨g.φ b,0,none⟩)]):=by
 have hl:=ht.len
 have hcase:∀ {i:Nat} {y:V} {v:Value},(ys++[V.ptr b 0])[i]?=some y->(vs++[Value.pointer (some ⟨g.φ b,0,none⟩)])[i]?=some v->(ys[i]?=some y/\vs[i]?=some v)\/(y=.ptr b 0/\v=.pointer (some ⟨g.φ b,0,none⟩)):=by
  intro i y v hy hv
  rcases yym_ i ys.length with h|h
  .rw[zzo_ h]at hy
   rw[zzo_ (by omega)]at hv
   exact .inl ⟨hy,hv⟩
  .rw[zzv_ h]at hy
   rw[zzv_ (by omega)]at hv
   have:i-ys.length=0:=by
    have:=(zzc_.1 hy).1
    simp at this;omega
   rw[this]at hy
   rw[show i-vs.length=0 by omega]at hv
   simp at hy hv
   exact .inr ⟨hy.symm,hv.symm⟩
 have hns:∀p e z xs,(V.ptr b 0).sub p≠some (.own true e z xs):=fun p e z xs hs=>by cases p<;>simp[V.sub]at hs
 refine⟨by simp[hl],fun i y v hy hv=>?_,fun i y v p k m hy hv ho=>?_,fun i i' y y' v v' p p' k e1 e2 e3 e4 e5 e6=>?_,ht.less,ht.tv⟩
 .rcases hcase hy hv with ⟨h1,h2⟩|⟨rfl,rfl⟩
  .exact ht.rep i y v h1 h2
  .refine⟨?_,(by intro us e;cases e),fun p x hs hl=>?_,fun p b' o hs=>?_⟩
   .rw[<-vn_ (o:=0) (by omega)];exact .ptr
   .cases p<;>simp[V.sub]at hs;subst hs;rfl
   .cases p<;>simp[V.sub]at hs;obtain⟨rfl,rfl⟩:=hs;exact hb
 .rcases hcase hy hv with ⟨h1,h2⟩|⟨rfl,rfl⟩
  .exact ht.own i y v p k m h1 h2 ho
  .obtain⟨e,z,xs,u,q,_⟩:=ho;exact absurd q (hns _ _ _ _)
 .rcases hcase e1 e2 with ⟨h1,h2⟩|⟨rfl,rfl⟩
  .rcases hcase e4 e5 with ⟨h3,h4⟩|⟨rfl,rfl⟩
   .exact ht.inj i i' y y' v v' p p' k h1 h2 e3 h3 h4 e6
   .obtain⟨e,z,xs,u,q,_⟩:=e6;exact absurd q (hns _ _ _ _)
  .obtain⟨e,z,xs,u,q,_⟩:=e3;exact absurd q (hns _ _ _ _)
end
end
end Go.Proofs.Ytnbppaolinopeaa
