/- Parts of the proof of a law of chapter 30, put behind one another. -/
import Derived.Test.YtpfjlnmnolbiaaaZG
import Derived.Test.YtpfjlnmnolbiaaaZF
import Derived.Deep.RegionHeld3
import Derived.OrdersHeld
import Derived.StillTail
import Derived.Deep.AppendLies
import Derived.Laws.MakeOwn
import Derived.Below
import Derived.Test.YtpfjlnmnolbiaaaZD
import Derived.ProofKit
import Derived.ChangeArms
import Derived.WideShapes
import Derived.Test.YtpfjlnmnolbiaaaZE
set_option linter.unusedVariables false
set_option maxHeartbeats 64000000
set_option maxRecDepth 100000
set_option linter.unusedSimpArgs false
namespace Go.Proofs.Ytpfjlnmnolbiaaa.QP
section
variable{n:Nat}{Q:List Nat}{T:Nat}{B:Nat->Bt}{M:Nat->Nat->Ms}
def w7_(b:Bt)(g:Sp)(again:Bool):List Sp:=if again then ins g b.queue else b.queue
def hd(L:List Sp)(a:Nat):Bool:=match L with|[]=>false|x::_=>x.s==a
theorem lH_(b:Bt)(g:Sp)(again:Bool)(a:Nat):Vof (backV b g again).1 a=if hd (w7_ b g again) a then .g else if hasS (w7_ b g again) a then .q else .n:=by
 unfold backV
 show Vof (match w7_ b g again with|[]=>_|x::r=>_:Bt×Out).1 a=_
 cases w7_ b g again with
 |nil=>simp[Vof,hasS,hd]
 | cons x r =>
   cases e:(x.s==a)
   .simp[Vof,hasS,hd,e]
   .simp[Vof,hasS,hd,e]
theorem qD_(b:Bt)(g:Sp)(again:Bool)(a:Nat):dnM (got (backV b g again).2 ⟨0,0⟩ a)=if hd (w7_ b g again) a then [.yes] else []:=by
 unfold backV
 show dnM (got (match w7_ b g again with|[]=>_|x::r=>_:Bt×Out).2 ⟨0,0⟩ a)=_
 cases w7_ b g again with
 |nil=>simp[got,dnM,hd]
 |cons x r=>cases e:(x.s==a)<;>simp[got,dnM,toDn,hd,e]
theorem ls_{L:List Sp}{a:Nat}(h:hd L a=true):hasS L a=true:=by
 cases L with
 |nil=>cases h
 |cons x r=>simp[hd]at h;simp[hasS,h]
theorem NInv.back{i j:Nat}{k:Kd}{s:Sp}{rest:Ms}{again:Bool}(h:NInv n Q T B M)(hi:i<n)(hj:j<n)(hM:M i j=(k,s)::rest)(hk:(k=.yld/\again=true)\/(k=.rel/\again=false)) :
 ∃g,(B j).given=[g]/\g.s=i/\NInv n Q T (upd1 B j (backV (B j) g again).1) (put (pop M i j) j (backV (B j) g again).2 ⟨0,0⟩):=by
 have old:=h.sh i j hi hj
 have hvo:=h.vo j hj
 have hao:=h.ao j hj
 have hVg:Vof (B j) i=.g:=by
  rcases hk with ⟨rfl,_⟩|⟨rfl,_⟩
  .have ed:upM (M i j)=.yld::upM rest:=by rw[hM];simp[upM,toUp]
   rw[ed]at old
   exact old.yld.1
  .have ed:upM (M i j)=.rel::upM rest:=by rw[hM];simp[upM,toUp]
   rw[ed]at old
   exact old.rel.1
 have hgv:hasS (B j).given i=true:=by
  unfold Vof at hVg
  cases e:hasS (B j).given i
  .rw[e]at hVg
   cases e2:hasS (B j).queue i<;>rw[e2]at hVg<;>simp at hVg
  .rfl
 obtain⟨g,hgm,hgs⟩:=xD_.1 hgv
 have hg:(B j).given=[g]:=by
  cases hc:(B j).given with
  |nil=>rw[hc]at hgm;simp at hgm
  | cons x r =>
    have hr:=u4_ hvo hc
    subst hr
    rw[hc]at hgm
    rw[List.mem_singleton.1 hgm]
 refine⟨g,hg,hgs,?_⟩
 have hds:=hvo.ds
 rw[hg]at hds
 obtain⟨d1,d2⟩:=List.pairwise_cons.1 hds
 have hqi:hasS (B j).queue i=false:=by
  cases e:hasS (B j).queue i
  .rfl
  .obtain⟨x,hx,hxs⟩:=xD_.1 e
   exact absurd (hgs.trans hxs.symm) (d1 x hx)
 have hf:(backV (B j) g again).1.qu=(B j).qu/\(backV (B j) g again).1.votes=(B j).votes/\(backV (B j) g again).1.fail=(B j).fail/\(backV (B j) g again).1.inqd=(B j).inqd/\(backV (B j) g again).1.stamp=(B j).stamp/\(backV (B j) g again).1.using'=(B j).using'/\(backV (B j) g again).1.time=(B j).time:=by
  unfold backV
  split<;>exact⟨rfl,rfl,rfl,rfl,rfl,rfl,rfl⟩
 have hA':AOk Q j (backV (B j) g again).1:=by
  obtain⟨f1,f2,f3,f4,f5,f6,f7⟩:=hf
  refine⟨by rw[f1];exact hao.qu,by rw[f1,f2];exact hao.vq,by rw[f1,f3];exact hao.fq,by rw[f2,f3];exact hao.fv,by rw[f2,f4];exact hao.iv,by rw[f1,f5,f6];exact hao.s0,by rw[f1,f5,f7];exact hao.s1,by rw[f1,f2,f6];exact hao.us,by rw[f4,f6];exact hao.ui⟩
 have hbl:∀a,hasS (w7_ (B j) g again) a=((again&&decide (i=a))||hasS (B j).queue a):=fun a=>by
  unfold w7_
  cases again
  .simp
  .simp[tj_,hgs]
 have hko:∀o∈(backV (B j) g again).2,toUp o.1=none:=by
  unfold backV
  split
  .simp
  .simp[toUp]
 have hup:∃u0,toUp k=some u0/\toDn k=none/\∀r u d,Shape r .g (u0::u) d->Shape r (if again then .q else .n) u d:=by
  rcases hk with ⟨rfl,rfl⟩|⟨rfl,rfl⟩
  .exact⟨.yld,rfl,rfl,fun r u d hs=>hs.yld.2⟩
  .exact⟨.rel,rfl,rfl,fun r u d hs=>hs.rel.2⟩
 obtain⟨u0,hu1,hu2,hu3⟩:=hup
 refine h.hearV hi hj hM hu1 hu2 ⟨hf.1,hf.2.1⟩ hA' (hvo.back hg again) hko (fun r u d hs=>?_) fun a r u d han hne hs=>?_
 .rw[hVg]at hs
  have hs:=hu3 r u d hs
  rw[lH_,qD_]
  cases again
  .have h1:hasS (w7_ (B j) g false) i=false:=by rw[hbl,hqi];rfl
   have h2:hd (w7_ (B j) g false) i=false:=by
    cases e:hd (w7_ (B j) g false) i
    .rfl
    .rw[ls_ e]at h1;cases h1
   rw[h1,h2]
   simpa using hs
  .have h1:hasS (w7_ (B j) g true) i=true:=by rw[hbl];simp
   rw[h1]
   cases hd (w7_ (B j) g true) i
   .simpa using hs
   .simpa using hs.promote
 ·have e:Vof (B j) a=if hasS (B j).queue a then .q else .n:=by
   have:hasS (B j).given a=false:=by
    rw[hg]
    have:¬g.s=a:=fun q=>hne (by rw[<-q,hgs])
    simp[hasS,this]
   simp[Vof,this]
  have h1:hasS (w7_ (B j) g again) a=hasS (B j).queue a:=by
   rw[hbl,decide_eq_false (fun q:i=a=>hne q.symm)];simp
  rw[e]at hs
  rw[lH_,qD_,h1]
  cases h2:hd (w7_ (B j) g again) a
  .simpa using hs
  .have:=ls_ h2
   rw[h1]at this
   rw[this]at hs ⊢
   simpa using hs.promote
theorem NInv.alone(h:NInv n Q T B M)(hQ:∀p∈Q,∀q∈Q,∃v,v<n/\p.testBit v=true/\q.testBit v=true){i k:Nat}(hi:i<n)(hk:k<n)(ui:(B i).using'=true)(uk:(B k).using'=true):i=k:=by
 obtain⟨i1,i2⟩:=(h.ao i hi).us.1 ui
 obtain⟨k1,k2⟩:=(h.ao k hk).us.1 uk
 obtain⟨v,hv,b1,b2⟩:=hQ _ ((h.ao i hi).qu.resolve_left i1) _ ((h.ao k hk).qu.resolve_left k1)
 have r1:Rof (B i) v=.h:=by unfold Rof;rw[i2,b1];rfl
 have r2:Rof (B k) v=.h:=by unfold Rof;rw[k2,b2];rfl
 have s1:=h.sh i v hi hv
 have s2:=h.sh k v hk hv
 rw[r1]at s1
 rw[r2]at s2
 have g1:=s1.has
 have g2:=s2.has
 have has:∀a,Vof (B v) a=.g->hasS (B v).given a=true:=fun a e=>by
  unfold Vof at e
  cases e1:hasS (B v).given a
  .rw[e1]at e
   cases e2:hasS (B v).queue a<;>rw[e2]at e<;>simp at e
  .rfl
 obtain⟨x,hx,hxs⟩:=xD_.1 (has i g1)
 obtain⟨y,hy,hys⟩:=xD_.1 (has k g2)
 cases hc:(B v).given with
 |nil=>rw[hc]at hx;simp at hx
 | cons z r =>
   have hr:=u4_ (h.vo v hv) hc
   subst hr
   rw[hc]at hx hy
   rw[<-hxs,<-hys,List.mem_singleton.1 hx,List.mem_singleton.1 hy]
end
theorem NInv.start{n:Nat}{Q:List Nat}:NInv n Q 0 (fun _=>⟨0,0,0,0,0,⟨0,0⟩,false,false,[],[]⟩) (fun _ _=>[]):=by
 refine⟨fun i v _ _=>?_,fun i _=>?_,fun i _=>?_,fun i v m hm=>by simp at hm⟩
 .have e1:Rof ⟨0,0,0,0,0,⟨0,0⟩,false,false,[],[]⟩ v=.o:=by simp[Rof]
  have e2:Vof ⟨0,0,0,0,0,⟨0,0⟩,false,false,[],[]⟩ i=.n:=by simp[Vof,hasS]
  rw[e1,e2]
  exact .n0 OI.nil
 .exact⟨.inl rfl,by simp,by simp,by simp,by simp,fun _=>⟨rfl,rfl⟩,fun e=>absurd rfl e,by simp,fun _=>rfl⟩
 .exact⟨by simp,by simp,by simp,by simp,by simp[Ds],by simp[Asc],zzl_ _⟩
end Go.Proofs.Ytpfjlnmnolbiaaa.QP
namespace Go.Proofs.Ytpfjlnmnolbiaaa
open Go.RowKit Go.Proofs
def toVt(v:Nat)(m:QP.Kd×QP.Sp):Vt:=⟨kdI m.1,v,m.2.t,m.2.s⟩
def toMs(M:Nat->Nat->QP.Ms)(a v:Nat):List Vt:=(M a v).map (toVt v)
def x8_(st:QP.Sp)(o:QP.Kd×Nat):Vt:=if o.1=.ask then ⟨1,o.2,st.t,st.s⟩ else vl_ o
theorem oe_(M:Nat->Nat->QP.Ms)(j:Nat)(out:QP.Out)(st:QP.Sp):yB_ (toMs M) j (out.map (x8_ st))=toMs (QP.put M j out st):=by
 funext a v
 unfold yB_ toMs QP.put QP.got
 by_cases ha:a=j
 .rw[if_pos ha,if_pos ha,List.map_append]
  congr 1
  induction out with
  |nil=>rfl
  | cons o r ih =>
    have hto:(x8_ st o).to=(o.2:Int):=by unfold x8_ vl_;split<;>rfl
    rw[List.map_cons,List.filter_cons,List.filter_cons,hto]
    by_cases hv:o.2=v
    .have e1:((o.2:Int)==(v:Int))=true:=by simp[hv]
     have e2:(o.2==v)=true:=by simp[hv]
     rw[e1,e2,if_pos rfl,if_pos rfl,List.map_cons,List.map_cons,<-ih]
     congr 1
     unfold x8_ toVt vl_
     split
     .next hk=>simp only[hk,if_true,kdI,hv]
     .next hk=>simp only[hk,if_false,hv];rfl
    .have e1:((o.2:Int)==(v:Int))=false:=by simp;omega
     have e2:(o.2==v)=false:=by simpa using hv
     rw[e1,e2]
     simp only[yyi_,if_false]
     exact ih
 .rw[if_neg ha,if_neg ha]
theorem i9_(M:Nat->Nat->QP.Ms)(i j:Nat):toMs (QP.pop M i j)=updM (toMs M) i j (toMs M i j).tail:=by
 funext a v
 unfold toMs QP.pop updM
 by_cases h:a=i/\v=j
 .rw[if_pos h,if_pos h,h.1,h.2]
  cases M i j<;>rfl
 .rw[if_neg h,if_neg h]
theorem nout{out:QP.Out}(h:∀o∈out,o.1≠.ask)(st:QP.Sp):out.map (x8_ st)=out.map vl_:=by
 refine List.map_congr_left fun o ho=>?_
 unfold x8_
 rw[if_neg (h o ho)]
theorem mX_(b:QP.Bt)(s:QP.Sp):∀o∈(QP.askV b s).2,o.1≠.ask:=by
 intro o ho
 unfold QP.askV at ho
 split at ho
 .simp at ho
  subst ho
  intro q;cases q
 .next g r hg =>
  split at ho
  .rcases zzw_.1 ho with ho|ho
   .unfold QP.falFst at ho
    split at ho
    .simp at ho
    .split at ho
     .simp at ho
      subst ho
      intro q;cases q
     .simp at ho
   .split at ho
    .simp at ho
    .simp at ho
     subst ho
     intro q;cases q
  .simp at ho
   subst ho
   intro q;cases q
theorem sK_(b:QP.Bt)(g:QP.Sp)(again:Bool):∀o∈(QP.backV b g again).2,o.1≠.ask:=by
 intro o ho
 unfold QP.backV at ho
 split at ho
 .simp at ho
 .simp at ho
  subst ho
  intro q;cases q
theorem lT_{n:Nat}{out:QP.Out}(h:∀o∈out,o.2<n)(st:QP.Sp):∀m∈out.map (x8_ st),0<=m.to/\m.to<(n:Int):=by
 intro m hm
 obtain⟨o,ho,rfl⟩:=List.mem_map.1 hm
 have:=h o ho
 have e:(x8_ st o).to=(o.2:Int):=by unfold x8_ vl_;split<;>rfl
 rw[e]
 omega
namespace QP
def hearQ(n:Nat)(b:Bt)(i:Nat)(m:Kd×Sp):Bt×Out :=
 match m.1 with
 |.ask=>askV b m.2
 |.yes=>(yesA b i,[])
 |.fal=>failA n b i
 |.inq=>inqA n b i
 |.yld=>match b.given with|[]=>(b,[])|g::_=>backV b g true
 |.rel=>match b.given with|[]=>(b,[])|g::_=>backV b g false
inductive Stp(n:Nat)(Q:List Nat)(B:Nat->Bt)(M:Nat->Nat->Ms):(Nat->Bt)->(Nat->Nat->Ms)->Prop
 |idle:Stp n Q B M B M
 |want {j q:Nat} (hj:j<n) (h0:(B j).qu=0) (hq:q∈Q):Stp n Q B M (upd1 B j (wantB n (B j) j q).1) (put M j (wantB n (B j) j q).2 (wantB n (B j) j q).1.stamp)
 |done {j:Nat} (hj:j<n) (hu:(B j).using'=true):Stp n Q B M (upd1 B j (doneB n (B j)).1) (put M j (doneB n (B j)).2 ⟨0,0⟩)
 |hear {i j:Nat} {m:Kd×Sp} {rest:Ms} (hi:i<n) (hj:j<n) (hM:M i j=m::rest):Stp n Q B M (upd1 B j (hearQ n (B j) i m).1) (put (pop M i j) j (hearQ n (B j) i m).2 ⟨0,0⟩)
theorem NInv.mono{n:Nat}{Q:List Nat}{T T':Nat}{B:Nat->Bt}{M:Nat->Nat->Ms}(h:NInv n Q T B M)(hT:T<=T'):NInv n Q T' B M :=
 ⟨h.sh,h.ao,fun i hi=>(h.vo i hi).mono hT,fun i v m hm=>⟨fun e=>⟨((h.ms i v m hm).1 e).1,yyd_ ((h.ms i v m hm).1 e).2 hT⟩,(h.ms i v m hm).2⟩⟩
theorem NInv.hear{n:Nat}{Q:List Nat}{T:Nat}{B:Nat->Bt}{M:Nat->Nat->Ms}(h:NInv n Q T B M){i j:Nat}{m:Kd×Sp}{rest:Ms}(hi:i<n)(hj:j<n)(hM:M i j=m::rest) :
 NInv n Q T (upd1 B j (hearQ n (B j) i m).1) (put (pop M i j) j (hearQ n (B j) i m).2 ⟨0,0⟩):=by
 obtain⟨k,s⟩:=m
 cases k with
 |ask=>exact(h.ask hi hj hM).2
 | yes =>
   show NInv n Q T (upd1 B j (yesA (B j) i)) (put (pop M i j) j [] ⟨0,0⟩)
   rw[of_]
   exact(h.yes hi hj hM).2
 |fal=>exact(h.fail hi hj hM).2
 |inq=>exact h.inq hi hj hM
 | yld =>
   obtain⟨g,h1,h2,h3⟩:=h.back (again:=true) hi hj hM (.inl ⟨rfl,rfl⟩)
   have e:hearQ n (B j) i (.yld,s)=backV (B j) g true:=by unfold hearQ;simp only[h1]
   rw[e];exact h3
 | rel =>
   obtain⟨g,h1,h2,h3⟩:=h.back (again:=false) hi hj hM (.inr ⟨rfl,rfl⟩)
   have e:hearQ n (B j) i (.rel,s)=backV (B j) g false:=by unfold hearQ;simp only[h1]
   rw[e];exact h3
theorem NInv.stp{n:Nat}{Q:List Nat}{T:Nat}{B B':Nat->Bt}{M M':Nat->Nat->Ms}(h:NInv n Q T B M)(hs:Stp n Q B M B' M')(h0:∀q∈Q,q≠0):NInv n Q (T+1) B' M':=by
 cases hs with
 |idle=>exact h.mono (Nat.le_succ _)
 |want hj h0' hq=>exact h.want hj h0' hq (h0 _ hq)
 |done hj hu=>exact(h.done hj hu).mono (Nat.le_succ _)
 |hear hi hj hM=>exact(h.hear hi hj hM).mono (Nat.le_succ _)
structure OutOk(n:Nat)(out:Out):Prop where
 to:∀o∈out,o.2<n
 len:out.length<=n+2
theorem kF_(n s:Nat):(mem n s).length<=n:=by
 unfold mem
 have:=List.length_filter_le (fun v=>s.testBit v) (List.range n)
 simpa using this
theorem mem_out(n s:Nat)(k:Kd):OutOk n ((mem n s).map fun v=>(k,v)) :=
 ⟨fun o ho=>by
  obtain⟨v,hv,rfl⟩:=List.mem_map.1 ho
  exact(kE_.1 hv).1,by rw[List.length_map];have:=kF_ n s;omega⟩
theorem OutOk.nil(n:Nat):OutOk n []:=⟨fun o ho=>by simp at ho,by simp⟩
theorem NInv.outs{n:Nat}{Q:List Nat}{T:Nat}{B:Nat->Bt}{M:Nat->Nat->Ms}(h:NInv n Q T B M){i j:Nat}{m:Kd×Sp}{rest:Ms}(hi:i<n)(hj:j<n)(hM:M i j=m::rest):OutOk n (hearQ n (B j) i m).2:=by
 obtain⟨k,s⟩:=m
 have hr:=(h.vo j hj).rng
 cases k with
 | ask =>
   obtain⟨h1,h2,h3⟩:=(h.ask hi hj hM).1
   show OutOk n (askV (B j) s).2
   have hs:s.s<n:=by omega
   unfold askV
   split
   .exact⟨fun o ho=>by simp at ho;rw[ho];exact hs,by simp⟩
   .next g r hg =>
    have hgs:g.s<n:=(hr g (by rw[hg];simp)).1
    split
    .refine⟨fun o ho=>?_,?_⟩
     .rcases zzw_.1 ho with ho|ho
      .unfold falFst at ho
       split at ho
       .simp at ho
       .next x r' hx =>
        have:=(hr x (by rw[hx];simp)).1
        split at ho
        .simp at ho;rw[ho];exact this
        .simp at ho
      .split at ho
       .simp at ho
       .simp at ho;rw[ho];exact hgs
     ·have h1:(falFst g (B j).queue).length≤1:=by
       unfold falFst
       split
       .simp
       .split<;>simp
      rw[zzr_]
      split<;>simp<;>omega
    .exact⟨fun o ho=>by simp at ho;rw[ho];exact hs,by simp⟩
 |yes=>exact .nil n
 |fal=>exact mem_out n _ _
 | inq =>
   show OutOk n (inqA n (B j) i).2
   unfold inqA
   split
   .exact .nil n
   .split
    .exact .nil n
    .exact mem_out n _ _
 | yld =>
   obtain⟨g,h1,h2,h3⟩:=h.back (again:=true) hi hj hM (.inl ⟨rfl,rfl⟩)
   have e:hearQ n (B j) i (.yld,s)=backV (B j) g true:=by unfold hearQ;simp only[h1]
   rw[e]
   have hgs:g.s<n:=by omega
   unfold backV
   split
   .exact .nil n
   .next x r hx =>
    refine⟨fun o ho=>?_,by simp⟩
    simp at ho
    rw[ho]
    have hx':x∈ins g (B j).queue:=by rw[if_pos rfl]at hx;rw[hx];simp
    rcases xc_.1 hx' with rfl|hx'
    .exact hgs
    .exact(hr x (by simp[hx'])).1
 | rel =>
   obtain⟨g,h1,h2,h3⟩:=h.back (again:=false) hi hj hM (.inr ⟨rfl,rfl⟩)
   have e:hearQ n (B j) i (.rel,s)=backV (B j) g false:=by unfold hearQ;simp only[h1]
   rw[e]
   unfold backV
   split
   .exact .nil n
   .next x r hx =>
    refine⟨fun o ho=>?_,by simp⟩
    simp at ho
    rw[ho]
    have hx':x∈(B j).queue:=by simp at hx;rw[hx];simp
    exact(hr x (by simp[hx'])).1
theorem kS_(out:Out)(st:Sp)(v:Nat):(got out st v).length<=out.length:=by
 unfold got
 rw[List.length_map]
 exact List.length_filter_le ..
theorem ra_{M:Nat->Nat->Ms}{j:Nat}{out:Out}{st:Sp}{L c:Nat}(h:∀a b,(M a b).length<=L)(hc:out.length<=c)(a b:Nat):(put M j out st a b).length<=L+c:=by
 unfold put
 split
 .rw[zzr_];have:=h a b;have:=kS_ out st b;omega
 .have:=h a b;omega
theorem Stp.len{n:Nat}{Q:List Nat}{T:Nat}{B B':Nat->Bt}{M M':Nat->Nat->Ms}(h:NInv n Q T B M)(hs:Stp n Q B M B' M'){L:Nat}(hL:∀a b,(M a b).length<=L)(a b:Nat):(M' a b).length<=L+(n+2):=by
 cases hs with
 |idle=>have:=hL a b;omega
 |want hj h0' hq=>exact ra_ hL (mem_out n _ _).len a b
 |done hj hu=>exact ra_ hL (mem_out n _ _).len a b
 | hear hi hj hM =>
   refine ra_ (fun a b=>?_) (h.outs hi hj hM).len a b
   unfold pop
   split
   .rw[List.length_tail];have:=hL a b;omega
   .exact hL a b
inductive Rch(n:Nat)(Q:List Nat):Nat->(Nat->Bt)->(Nat->Nat->Ms)->Prop
 |start:Rch n Q 0 (fun _=>⟨0,0,0,0,0,⟨0,0⟩,false,false,[],[]⟩) (fun _ _=>[])
 |step {k:Nat} {B B':Nat->Bt} {M M':Nat->Nat->Ms} (h:Rch n Q k B M) (hs:Stp n Q B M B' M'):Rch n Q (k+1) B' M'
theorem Rch.inv{n:Nat}{Q:List Nat}(h0:∀q∈Q,q≠0):∀ {k:Nat} {B:Nat->Bt} {M:Nat->Nat->Ms},Rch n Q k B M->NInv n Q k B M:=by
 intro k B M h
 induction h with
 |start=>exact NInv.start
 |step h hs ih=>exact ih.stp hs h0
theorem Rch.len{n:Nat}{Q:List Nat}(h0:∀q∈Q,q≠0):∀ {k:Nat} {B:Nat->Bt} {M:Nat->Nat->Ms},Rch n Q k B M->∀a b,(M a b).length<=k*(n+2):=by
 intro k B M h
 induction h with
 |start=>intro a b;simp
 | step h hs ih =>
   intro a b
   have:=hs.len (h.inv h0) ih a b
   rw[yyn_,Nat.one_mul]
   exact this
end QP
theorem kP_{n:Nat}{Q:List Nat}{T:Nat}{B:Nat->QP.Bt}{M:Nat->Nat->QP.Ms}(hm:Md n Q)(hT:T<=1073741824)(h:QP.NInv n Q T B M){i j:Nat}(hi:i<n)(hj:j<n){m:QP.Kd×QP.Sp}{rest:QP.Ms}(hM:M i j=m::rest) :
 zt_ n (zi Q) j i (toVt j m) (toBl (B j))=okR (toBl (QP.hearQ n (B j) i m).1) ((QP.hearQ n (B j) i m).2.map vl_)/\∀o∈(QP.hearQ n (B j) i m).2,o.1≠.ask:=by
 obtain⟨k,s⟩:=m
 have hok:=uQ_ hm hj hT (h.ao j hj) (h.vo j hj)
 have hv:vtr (n:Int) (i:Int)=true:=by simp[vtr];omega
 have hs:=rP_ hm (h.ao j hj)
 have hms:=h.ms i j (k,s) (by rw[hM];simp)
 have htn:((i:Nat):Int).toNat=i:=by simp
 have head:∀R,(∀(_:True),(if (toVt j (k,s)).k=1 then
  if prp n (toVt j (k,s)).sg=false\/(toVt j (k,s)).ss≠i then errR 1 else if askE (toBl (B j)) (toVt j (k,s)).sg then errR 11 else okR (askS (toBl (B j)) (toVt j (k,s)).sg) (askM (toBl (B j)) (toVt j (k,s)).sg)
  else if (toVt j (k,s)).k<1\/6<(toVt j (k,s)).k\/(toVt j (k,s)).st≠0\/(toVt j (k,s)).ss≠0 then errR 1
  else if (toVt j (k,s)).k=5\/(toVt j (k,s)).k=6 then
   if yZ_ (toBl (B j)) i then errR 14 else okR (zY_ (toBl (B j)) ((toVt j (k,s)).k==5)).next (yk_ (zY_ (toBl (B j)) ((toVt j (k,s)).k==5)).queue)
  else if (ansR (toBl (B j)) ((2^i:Nat):Int) (toVt j (k,s)).k).1≠0 then errR (ansR (toBl (B j)) ((2^i:Nat):Int) (toVt j (k,s)).k).1
  else okR ((ansR (toBl (B j)) ((2^i:Nat):Int) (toVt j (k,s)).k).2.1.gave (ansR (toBl (B j)) ((2^i:Nat):Int) (toVt j (k,s)).k).2.2) (yldO (mbU (ansR (toBl (B j)) ((2^i:Nat):Int) (toVt j (k,s)).k).2.2 9)))=R) ->
   zt_ n (zi Q) j i (toVt j (k,s)) (toBl (B j))=R:=by
  intro R hR
  rw[<-hR trivial]
  unfold zt_
  rw[if_neg (by rw[hok];simp),if_neg (by rw[hv];simp),htn]
 have z:k≠.ask->s=⟨0,0⟩:=hms.2
 cases k with
 | ask =>
   obtain⟨⟨h1,h2,h3⟩,h4⟩:=h.ask hi hj hM
   obtain⟨e1,e2⟩:=iN_ (B j) s
   refine⟨head _ fun _=>?_,?_⟩
   ·have hp:prp n (toVt j (.ask,s)).sg=true:=by
     simp[prp,vtr,toVt,Vt.sg]
     omega
    have hE:askE (toBl (B j)) (toVt j (.ask,s)).sg=false:=by
     have hne:∀x∈(B j).given++(B j).queue,((x.s:Int)==(s.s:Int))=false:=fun x hx=>by
      have:=h3 x hx
      simp;omega
     unfold askE
     rw[Bool.or_eq_false_iff]
     constructor
     .rw[List.any_eq_false]
      intro y hy
      obtain⟨x,hx,rfl⟩:=List.mem_map.1 hy
      have:=hne x (by simp[hx])
      simpa[toVt,Vt.sg,toSg] using this
     .rw[List.any_eq_false]
      intro y hy
      obtain⟨x,hx,rfl⟩:=List.mem_map.1 hy
      have:=hne x (by simp[hx])
      simpa[toVt,Vt.sg,toSg] using this
    rw[if_pos (show (toVt j (QP.Kd.ask,s)).k=1 from rfl),if_neg (by
     rintro(q|q)
     .rw[hp]at q;cases q
     .exact q (by show ((s.s:Nat):Int)=_;rw[h1])),hE]
    show okR (askS (toBl (B j)) (toSg s)) (askM (toBl (B j)) (toSg s))=_
    rw[e1,e2]
    rfl
   .exact mX_ _ _
 | yes =>
   obtain rfl:=z (by decide)
   obtain⟨⟨h1,h2⟩,h3⟩:=h.yes hi hj hM
   have:=jr_ hs hi h1 h2
   obtain⟨a1,a2,a3⟩:=this
   refine⟨head _ fun _=>?_,by simp[QP.hearQ]⟩
   have e:(toVt j (.yes,(⟨0,0⟩:QP.Sp))).k=2:=rfl
   rw[e,if_neg (by omega),if_neg (by simp[toVt]),if_neg (by omega),if_neg (by simpa using a1),a2,a3]
   rfl
 | fal =>
   obtain rfl:=z (by decide)
   obtain⟨⟨h1,h2⟩,h3⟩:=h.fail hi hj hM
   obtain⟨a1,a2,a3⟩:=iA_ hs hi h1 h2
   refine⟨head _ fun _=>?_,?_⟩
   .have e:(toVt j (.fal,(⟨0,0⟩:QP.Sp))).k=3:=rfl
    rw[e,if_neg (by omega),if_neg (by simp[toVt]),if_neg (by omega),if_neg (by simpa using a1),a2,a3]
    rfl
   .intro o ho
    simp only[QP.hearQ,QP.failA,QP.give,List.mem_map]at ho
    obtain⟨v,_,rfl⟩:=ho
    intro q;cases q
 | inq =>
   obtain rfl:=z (by decide)
   have h3:=h.inq hi hj hM
   obtain⟨a1,a2,a3⟩:=io_ hs hi
   refine⟨head _ fun _=>?_,?_⟩
   .have e:(toVt j (.inq,(⟨0,0⟩:QP.Sp))).k=4:=rfl
    rw[e,if_neg (by omega),if_neg (by simp[toVt]),if_neg (by omega),if_neg (by simpa using a1),a2,a3]
    rfl
   .intro o ho
    have ho:o∈(QP.inqA n (B j) i).2:=ho
    unfold QP.inqA at ho
    split at ho
    .simp at ho
    .split at ho
     .simp at ho
     .simp only[QP.give,List.mem_map]at ho
      obtain⟨v,_,rfl⟩:=ho
      intro q;cases q
 | yld =>
   obtain rfl:=z (by decide)
   obtain⟨g,h1,h2,h3⟩:=h.back (again:=true) hi hj hM (.inl ⟨rfl,rfl⟩)
   obtain⟨e1,e2⟩:=np_ (B j) g [] h1 true
   have eQ:QP.hearQ n (B j) i (.yld,⟨0,0⟩)=QP.backV (B j) g true:=by unfold QP.hearQ;simp only[h1]
   rw[eQ]
   refine⟨head _ fun _=>?_,?_⟩
   .have e:(toVt j (.yld,(⟨0,0⟩:QP.Sp))).k=5:=rfl
    have hE:yZ_ (toBl (B j)) i=false:=by simp[yZ_,toBl,h1,toSg,h2]
    rw[e,if_neg (by omega),if_neg (by simp[toVt]),if_pos (by omega),hE]
    show okR (zY_ (toBl (B j)) true).next (yk_ (zY_ (toBl (B j)) true).queue)=_
    rw[e1,e2]
   .exact sK_ _ _ _
 | rel =>
   obtain rfl:=z (by decide)
   obtain⟨g,h1,h2,h3⟩:=h.back (again:=false) hi hj hM (.inr ⟨rfl,rfl⟩)
   obtain⟨e1,e2⟩:=np_ (B j) g [] h1 false
   have eQ:QP.hearQ n (B j) i (.rel,⟨0,0⟩)=QP.backV (B j) g false:=by unfold QP.hearQ;simp only[h1]
   rw[eQ]
   refine⟨head _ fun _=>?_,?_⟩
   .have e:(toVt j (.rel,(⟨0,0⟩:QP.Sp))).k=6:=rfl
    have hE:yZ_ (toBl (B j)) i=false:=by simp[yZ_,toBl,h1,toSg,h2]
    rw[e,if_neg (by omega),if_neg (by simp[toVt]),if_pos (by omega),hE]
    show okR (zY_ (toBl (B j)) false).next (yk_ (zY_ (toBl (B j)) false).queue)=_
    rw[e1,e2]
   .exact sK_ _ _ _
namespace QP
theorem iC_:∀(n:Nat) (l:List Sp),Ds l->(∀x∈l,x.s<n)->l.length<=n:=by
 intro n
 induction n with
 | zero =>
   intro l _ h
   cases l with
   |nil=>simp
   |cons x r=>have:=h x (by simp);omega
 | succ n ih =>
   intro l hd h
   have h1:(l.filter fun x=>decide (x.s<n)).length<=n:=ih _ (List.Pairwise.filter _ hd) fun x hx=>by simpa using(List.mem_filter.1 hx).2
   have h2:(l.filter fun x=>!decide (x.s<n)).length<=1:=by
    have hp:Ds (l.filter fun x=>!decide (x.s<n)):=List.Pairwise.filter _ hd
    have he:∀x∈l.filter fun x=>!decide (x.s<n),x.s=n:=fun x hx=>by
     have h3:=List.mem_filter.1 hx
     have:=h x h3.1
     have:=h3.2
     simp at this
     omega
    revert hp he
    generalize l.filter (fun x=>!decide (x.s<n))=L
    intro hp he
    match L,hp,he with
    |[],_,_=>simp
    |[_],_,_=>simp
    | x :: y :: r, hp, he =>
      have:=(List.pairwise_cons.1 hp).1 y (by simp)
      rw[he x (by simp),he y (by simp)]at this
      exact absurd rfl this
   have h3:∀l:List Sp,l.length=(l.filter fun x=>decide (x.s<n)).length+(l.filter fun x=>!decide (x.s<n)).length:=by
    intro l
    induction l with
    |nil=>rfl
    |cons x r ih=>by_cases e:x.s<n<;>simp[e]<;>omega
   have:=h3 l
   omega
theorem VOk.lens{n T:Nat}{b:Bt}(h:VOk n T b):b.given.length<=1/\b.queue.length<=n:=by
 have:=iC_ n (b.given++b.queue) h.ds fun x hx=>(h.rng x hx).1
 rw[zzr_]at this
 exact⟨h.g1,by omega⟩
end QP
theorem tO_{n T:Nat}{b:QP.Bt}(h:QP.VOk n T b)(hn:n<=9):(toBl b).sm/\(toBl b).given.length<=1000/\(toBl b).queue.length<=1000:=by
 have:=h.lens
 simp only[Bl.sm,toBl,List.length_map]
 omega
theorem lR_{n:Nat}{Q:List Nat}{T:Nat}{B:Nat->QP.Bt}{M:Nat->Nat->QP.Ms}(hm:Md n Q)(hT:T<1073741824)(h:QP.NInv n Q T B M){j q:Nat}(hj:j<n)(h0:(B j).qu=0)(hq:q∈Q) :
 yU_ n (zi Q) j q (toBl (B j)) (askO (toBl (B j)) j (mbU (q:Int) 9))=okR (toBl (QP.wantB n (B j) j q).1) ((QP.wantB n (B j) j q).2.map (x8_ (QP.wantB n (B j) j q).1.stamp)):=by
 have hok:=uQ_ hm hj (by omega) (h.ao j hj) (h.vo j hj)
 have hr:=hm.cot.rng q hq
 have htm:=(h.vo j hj).tm
 unfold yU_
 rw[if_neg (by rw[hok];simp),if_neg (by
  intro hc
  exact hc (List.mem_map.2 ⟨q,hq,rfl⟩)),if_neg (by
  intro hc
  apply hc
  show (((B j).qu:Nat):Int)=0
  rw[h0];rfl),if_neg (by
  show ¬(((B j).time:Nat):Int)=1073741824
  omega),td_ hm.k1.2 hr.2]
 congr 1
 unfold askO QP.wantB
 simp only[List.map_map]
 refine List.map_congr_left fun v _=>?_
 simp only[Function.comp,x8_,if_true]
 rfl
theorem j8_{n:Nat}{Q:List Nat}{T:Nat}{B:Nat->QP.Bt}{M:Nat->Nat->QP.Ms}(hm:Md n Q)(hT:T<=1073741824)(h:QP.NInv n Q T B M){j:Nat}(hj:j<n)(hu:(B j).using'=true) :
 xI_ n (zi Q) j (toBl (B j)) (relO (mbU (toBl (B j)).qu 9))=okR (toBl (QP.doneB n (B j)).1) ((QP.doneB n (B j)).2.map (x8_ ⟨0,0⟩)):=by
 have hok:=uQ_ hm hj hT (h.ao j hj) (h.vo j hj)
 have hs:=rP_ hm (h.ao j hj)
 unfold xI_
 rw[if_neg (by rw[hok];simp),if_neg (by
  show ¬(B j).using'=false
  rw[hu];simp)]
 show okR _ (relO (mbU (((B j).qu:Nat):Int) 9))=_
 rw[td_ hm.k1.2 hs.qu]
 congr 1
 unfold relO QP.doneB
 simp only[List.map_map]
 refine List.map_congr_left fun v _=>?_
 simp only[Function.comp,x8_]
 rw[if_neg (by intro q;cases q)]
 rfl
theorem pK_(B:Nat->QP.Bt)(j:Nat)(b:QP.Bt):updB (fun k=>toBl (B k)) j (toBl b)=fun k=>toBl (QP.upd1 B j b k):=by
 funext k
 unfold updB QP.upd1
 split<;>rfl
section
abbrev PNet(T:Nat->Nat)(g:Gh)(w:World)(X n:Nat)(Q:List Nat)(B:Nat->QP.Bt)(M:Nat->Nat->QP.Ms)(h:Hd):Prop:=Net T g w X n (zi Q) (fun k=>toBl (B k)) (toMs M) h
structure Kp(T:Nat->Nat)(g:Gh)(w:World)(T':Nat->Nat)(g':Gh)(w':World):Prop where
 os:w'.os=w.os
 tape:w'.tape=w.tape
 output:w'.output=w.output
 size:w.heap.size<=w'.heap.size
 fr:∀k,k<w.heap.size->T k=0->T' k=0/\w'.heap[k]?=w.heap[k]?
 same:∀k,k<w.heap.size->g'.I k=g.I k
theorem Kp.refl(T:Nat->Nat)(g:Gh)(w:World):Kp T g w T g w:=⟨rfl,rfl,rfl,zzl_ _,fun _ _ h=>⟨h,rfl⟩,fun _ _=>rfl⟩
theorem Kp.trans{T T1 T2:Nat->Nat}{g g1 g2:Gh}{w w1 w2:World}(h:Kp T g w T1 g1 w1)(h':Kp T1 g1 w1 T2 g2 w2):Kp T g w T2 g2 w2 :=
 ⟨h'.os.trans h.os,h'.tape.trans h.tape,h'.output.trans h.output,yyd_ h.size h'.size,fun k hk h0=>⟨(h'.fr k (zzk_ hk h.size) (h.fr k hk h0).1).1,(h'.fr k (zzk_ hk h.size) (h.fr k hk h0).1).2.trans (h.fr k hk h0).2⟩,fun k hk=>(h'.same k (zzk_ hk h.size)).trans (h.same k hk)⟩
theorem ws_(M:Nat->Nat->QP.Ms)(a b:Nat):(toMs M a b).length=(M a b).length:=by simp[toMs]
theorem uh_(Q:List Nat):(zi Q).length=Q.length:=by simp[zi]
section
variable{T:Nat->Nat}{g:Gh}{w:World}{X n:Nat}{Q:List Nat}{B:Nat->QP.Bt}{M:Nat->Nat->QP.Ms}{h:Hd}{Tm L:Nat}
theorem j7_(hn:PNet T g w X n Q B M h)(hm:Md n Q)(hI:QP.NInv n Q Tm B M)(hT:Tm<=1073741824)(hL:∀a b,(M a b).length<=L)(hL2:L<=99000){i:Nat}(hi:i<n)(hu:(B i).using'=true) :
 Calls Try.prog 11 #[.pointer (some ⟨X,0,none⟩),.int .i64 i] w fun e w'=>∃T' g' h',e=.returned (.bool true)/\PNet T' g' w' X n Q (QP.upd1 B i (QP.doneB n (B i)).1) (QP.put M i (QP.doneB n (B i)).2 ⟨0,0⟩) h'/\Kp T g w T' g' w':=by
 have hI2:=hI.done hi hu
 have n9:=hn.n9
 have ho:=QP.mem_out n (B i).qu .rel
 have he:(QP.doneB n (B i)).2=(QP.mem n (B i).qu).map fun v=>(.rel,v):=rfl
 rw[<-he]at ho
 have h1:=(hI2.ao i hi)
 have h2:=(hI2.vo i hi)
 have e1:QP.upd1 B i (QP.doneB n (B i)).1 i=(QP.doneB n (B i)).1:=by simp[QP.upd1]
 rw[e1]at h1 h2
 have hlen:((QP.doneB n (B i)).2.map (x8_ ⟨0,0⟩)).length<=11:=by rw[List.length_map];have:=ho.len;omega
 refine(pe_ hn hi (b:=toBl (QP.doneB n (B i)).1) (l:=(QP.doneB n (B i)).2.map (x8_ ⟨0,0⟩)) (by rw[uh_];have:=hm.l64;omega) (tO_ (hI.vo i hi) n9).1 (tO_ h2 n9).1 (j8_ hm hT hI hi hu) (lT_ ho.to _) (by omega) (fun a b=>by rw[ws_];have:=hL a b;omega)).mono ?_
 rintro e w' ⟨T',g',h',rfl,hn',q1,q2,q3,q4,q5,q6⟩
 rw[pK_,oe_]at hn'
 exact⟨T',g',h',by rw[uQ_ hm hi hT h1 h2],hn',⟨q1,q2,q3,q4,q5,q6⟩⟩
theorem pg_(hn:PNet T g w X n Q B M h)(hm:Md n Q)(hI:QP.NInv n Q Tm B M)(hT:Tm<=1073741824)(hL:∀a b,(M a b).length<=L)(hL2:L<=99000){i j:Nat}(hi:i<n)(hj:j<n){m:QP.Kd×QP.Sp}{rest:QP.Ms}(hM:M i j=m::rest) :
 Calls Try.prog 12 #[.pointer (some ⟨X,0,none⟩),.int .i64 i,.int .i64 j] w fun e w'=>∃T' g' h',e=.returned (.bool true)/\PNet T' g' w' X n Q (QP.upd1 B j (QP.hearQ n (B j) i m).1) (QP.put (QP.pop M i j) j (QP.hearQ n (B j) i m).2 ⟨0,0⟩) h'/\Kp T g w T' g' w':=by
 have hI2:=hI.hear hi hj hM
 have n9:=hn.n9
 have ho:=hI.outs hi hj hM
 have h1:=(hI2.ao j hj)
 have h2:=(hI2.vo j hj)
 have e1:QP.upd1 B j (QP.hearQ n (B j) i m).1 j=(QP.hearQ n (B j) i m).1:=by simp[QP.upd1]
 rw[e1]at h1 h2
 obtain⟨hR,hna⟩:=kP_ hm hT hI hi hj hM
 rw[<-nout hna ⟨0,0⟩]at hR
 have hlen:((QP.hearQ n (B j) i m).2.map (x8_ ⟨0,0⟩)).length<=11:=by rw[List.length_map];have:=ho.len;omega
 have hM':toMs M i j=toVt j m::rest.map (toVt j):=by simp[toMs,hM]
 refine(tt_ hn hi hj hM' (b:=toBl (QP.hearQ n (B j) i m).1) (l:=(QP.hearQ n (B j) i m).2.map (x8_ ⟨0,0⟩)) (by rw[uh_];have:=hm.l64;omega) (tO_ (hI.vo j hj) n9).2.1 (tO_ (hI.vo j hj) n9).2.2 (tO_ h2 n9).1 hR (lT_ ho.to _) (by omega) (fun a b=>by rw[ws_];have:=hL a b;omega)).mono ?_
 rintro e w' ⟨T',g',h',rfl,hn',q1,q2,q3,q4,q5,q6⟩
 have e2:updM (toMs M) i j (rest.map (toVt j))=toMs (QP.pop M i j):=by rw[i9_,hM'];rfl
 rw[pK_,e2,oe_]at hn'
 exact⟨T',g',h',by rw[uQ_ hm hj hT h1 h2],hn',⟨q1,q2,q3,q4,q5,q6⟩⟩
end
end
theorem rr_:∀(l:List Int),flat (iv l)=l.map fun x=>.s (.int .i64 x)
 |[]=>rfl
 | x :: r => by
   have:=rr_ r
   simp only[iv,List.map_cons,flat]at this ⊢
   rw[this]
   rfl
theorem xB_{g:Gh}{w:World}{l:List Int}{v:Value}(h:Rep g w (.list 1 (iv l)) v):∃A c,v=.slice A l.length c/\l.length<=c/\c<=maxLen/\∀p (hp:p<l.length),∃b o,A=some ⟨b,o,none⟩/\0<g.I b/\w.cell? ⟨b,o+p,none⟩=some (.int .i64 l[p]):=by
 cases h with
 | list vals hc hm hA hz hi hcell hrep =>
   refine⟨_,_,by rw[iv_length],by rw[iv_length]at hc;exact hc,hm,fun p hp=>?_⟩
   have hj:p<(flat (iv l)).length:=by rw[rr_,List.length_map];exact hp
   obtain⟨b,q,r1,r2,r3⟩:=hcell p hj
   have:=(hrep p (.s (.int .i64 l[p])) (by rw[rr_,zzs_,zzf_ hp];rfl)).of_s rfl
   exact⟨b,q,r1,by omega,by rw[r3,this]⟩
theorem lZ_{T:Nat->Nat}{g:Gh}{w:World}{X n:Nat}{Q:List Nat}{B:Nat->QP.Bt}{M:Nat->Nat->QP.Ms}{h:Hd}{Tm L:Nat}(hn:PNet T g w X n Q B M h)(hm:Md n Q)(hI:QP.NInv n Q Tm B M)(hT:Tm<1073741824)(hL:∀a b,(M a b).length<=L)(hL2:L<=99000){c i j:Nat}(hc:c<8)(hi:i<1000)(hj:j<1000)(hQ:0<Q.length) :
 Calls Try.prog 29 #[.pointer (some ⟨X,0,none⟩),.int .i64 c,.int .i64 i,.int .i64 j] w fun e w'=>∃T' g' h' B' M',e=.returned (.bool true)/\PNet T' g' w' X n Q B' M' h'/\Kp T g w T' g' w'/\QP.Stp n Q B M B' M':=by
 have mx:=zp_
 have n9:=hn.n9
 have n1:=hm.k1.1
 have x2:=hn.x2
 have hbcn:=hn.bcn
 have hn0:¬(n:Int)=0:=by omega
 have hnb:((n:Int)==0)=false:=by simp;omega
 have hri:(i:Int).tmod (n:Int)=((i%n:Nat):Int):=by rw[Int.tmod_eq_emod_of_nonneg (by omega)];rfl
 have hrj:(j:Int).tmod (n:Int)=((j%n:Nat):Int):=by rw[Int.tmod_eq_emod_of_nonneg (by omega)];rfl
 have hI0:i%n<n:=Nat.mod_lt _ (by omega)
 have hJ0:j%n<n:=Nat.mod_lt _ (by omega)
 have hwi:IntKind.i64.wrap ((i%n:Nat):Int)=((i%n:Nat):Int):=by rw[yye_];omega
 have hwj:IntKind.i64.wrap ((j%n:Nat):Int)=((j%n:Nat):Int):=by rw[yye_];omega
 generalize i%n=I at *
 generalize j%n=J at *
 obtain⟨W0,hW⟩:∃W0,W0=w.drew:=⟨_,rfl⟩
 have hnW:PNet T g W0 X n Q B M h:=by
  rw[hW]
  exact hn.grow (zzl_ _) (fun _ _=>rfl) (fun _ _=>rfl) hn.Ilt
 have hK0:Kp T g w T g W0:=by rw[hW];exact⟨rfl,rfl,rfl,zzl_ _,fun _ _ h=>⟨h,rfl⟩,fun _ _=>rfl⟩
 have HN:=Lib.hid hnW
 have HK0:=Lib.hid hK0
 have HI:=Lib.hid hI
 have HL:=Lib.hid hL
 have HM:=Lib.hid hm
 have HW:=Lib.hid hW.symm
 have hiz:(I:Int)<n:=by omega
 have hjz:(J:Int)<n:=by omega
 clear hn hnW hK0 hI hL hm hW
 go_enter Try.func29,Try.ntmps29
 go_wp2
 go_region
 rw[HW.out]
 clear HW x2
 have x2:=HN.out.x2
 have x3:=HN.out.x3
 have m1:=HN.out.m1 hI0
 have m2:=HN.out.m2 hI0 hJ0
 have hmcn:=HN.out.mcn
 have hrcn:=HN.out.rcn I hI0
 have HKf:=Lib.hid (fun T' g' w' (k:Kp T g W0 T' g' w')=>HK0.out.trans k)
 by_cases hc6:(c:Int)<6
 case pos =>
  obtain⟨A,C,hmv⟩:∃A C,h.mv I J=.slice A (M I J).length C:=by
   rcases HN.out.vv I J hI0 hJ0 with ⟨e1,A,e2⟩|⟨k,off,cap,cur,e2,_⟩
   .exact⟨A,0,by rw[e2,<-ws_,e1];rfl⟩
   .exact⟨_,_,by rw[e2,ws_]⟩
  rw[hmv]at m2
  cases hMe:M I J with
  | nil =>
    rw[hMe]at m2
    have hd0:(((([]:QP.Ms).length:Nat):Int)==0)=true:=rfl
    go_wp2
    go_ret
    exact⟨T,g,h,B,M,rfl,HN.out,HK0.out,.idle⟩
  | cons m rest =>
    rw[hMe]at m2
    have hcall:=pg_ HN.out HM.out HI.out (by omega) HL.out hL2 hI0 hJ0 hMe
    have HC:=Lib.hid hcall
    have hst:=QP.Stp.hear (Q:=Q) (B:=B) hI0 hJ0 hMe
    have HS:=Lib.hid hst
    clear hcall hst
    have hll:((((m::rest:QP.Ms).length:Nat):Int)==0)=false:=by rw[List.length_cons];simp;omega
    have hl2:¬(((m::rest:QP.Ms).length:Nat):Int)=0:=by rw[List.length_cons];omega
    generalize (m::rest).length=ml at *
    go_wp2_with ((go_at_call 12
                  refine HC.out.mono ?_
                  rintro e w' ⟨T',g',h',rfl,hn',hk⟩
                  have HR:=Lib.hid (And.intro hn' hk)
                  clear hn' hk))
    all_goals go_wp2
    all_goals go_ret
    all_goals exact⟨T',g',h',_,_,rfl,HR.out.1,HK0.out.trans HR.out.2,HS.out⟩
 case neg =>
  obtain⟨v0,v1,v2,v3,v4,v5,v6,v7,v8,v9,v10,a0,a1,a2,a3,a4,a5,a6,a7,a8,a9,a10,hrv,⟨o0,o1,o2,o3,o4,o5,o6,o7,o8,o9,o10⟩,e7,e1⟩:=HN.out.st hI0
  cases hu:(B I).using' with
  | true =>
    have e7':v7=.bool true:=by rw[e7];show Value.bool (B I).using'=_;rw[hu]
    rw[e7']at a7
    have hcall:=j7_ HN.out HM.out HI.out (by omega) HL.out hL2 hI0 hu
    have HC:=Lib.hid hcall
    have hst:=QP.Stp.done (n:=n) (Q:=Q) (M:=M) hI0 hu
    have HS:=Lib.hid hst
    clear hcall hst e7 e7' e1
    go_wp2_with ((go_at_call 11
                  refine HC.out.mono ?_
                  rintro e w' ⟨T',g',h',rfl,hn',hk⟩
                  have HR:=Lib.hid (And.intro hn' hk)
                  clear hn' hk))
    all_goals go_wp2
    all_goals go_ret
    all_goals exact⟨T',g',h',_,_,rfl,HR.out.1,HK0.out.trans HR.out.2,HS.out⟩
  | false =>
    have e7':v7=.bool false:=by rw[e7];show Value.bool (B I).using'=_;rw[hu]
    rw[e7']at a7
    have e1':v1=.int .i64 ((B I).qu:Nat):=e1
    rw[e1']at a1
    by_cases hq0:(B I).qu=0
    case neg =>
     have hd0:((((B I).qu:Nat):Int)==0)=false:=by simp;omega
     have hd1:¬(((B I).qu:Nat):Int)=0:=by omega
     clear e7 e7' e1 e1'
     go_wp2
     go_ret
     exact⟨rfl,T,g,h,B,M,HN.out,HK0.out,.idle⟩
    case pos =>
     rw[hq0]at a1
     have hq1:((0:Nat):Int)=0:=rfl
     go_wp2
     have hn:=HN.out
     have x0:=hn.x0
     have x1:=hn.x1
     have hbc2:=hn.bcn
     obtain⟨QA,QC,hqv,hqc1,hqc2,hqcell⟩:=xB_ hn.hq
     have hlq:(zi Q).length=Q.length:=uh_ Q
     have hq64:=HM.out.l64
     have hQr:(((I:Int)+(J:Int)).tmod (Q.length:Int))=(((I+J)%Q.length:Nat):Int):=by rw[Int.tmod_eq_emod_of_nonneg (by omega)];rfl
     have hQ0:(I+J)%Q.length<Q.length:=Nat.mod_lt _ (by omega)
     have hwij:IntKind.i64.wrap ((I:Int)+(J:Int))=(I:Int)+(J:Int):=by rw[yye_];omega
     have hwp:IntKind.i64.wrap (((I+J)%Q.length:Nat):Int)=(((I+J)%Q.length:Nat):Int):=by rw[yye_];omega
     have hQn0:¬(Q.length:Int)=0:=by omega
     have hQnb:((Q.length:Int)==0)=false:=by rw[beq_eq_false_iff_ne];omega
     obtain⟨qb,qo,hQA,hqI,hqc⟩:=hqcell ((I+J)%Q.length) (by rw[hlq];exact hQ0)
     have hqe:(zi Q)[(I+J)%Q.length]'(by rw[hlq];exact hQ0)=((Q[(I+J)%Q.length]:Nat):Int):=by simp[zi]
     rw[hqe]at hqc
     have hqm:Q[(I+J)%Q.length]∈Q:=yyp_ _
     clear hqe
     generalize Q[(I+J)%Q.length]=qx at hqc hqm
     clear hqcell
     generalize hpe:(I+J)%Q.length=p at *
     rw[hQA,hlq]at hqv
     rw[hlq]at hqc1
     have hpz:(p:Int)<(Q.length:Int):=by omega
     have hqbl:qb<W0.heap.size:=hn.Ilt qb hqI
     have hR:=lR_ HM.out hT HI.out hI0 hq0 hqm
     have hI2:=HI.out.want (n:=n) hI0 hq0 hqm (by have:=HM.out.cot.rng qx hqm;omega)
     have ho:=QP.mem_out n qx .ask
     have hst:=QP.Stp.want (n:=n) (M:=M) hI0 hq0 hqm
     have hA2:=hI2.ao I hI0
     have hV2:=hI2.vo I hI0
     have e1u:QP.upd1 B I (QP.wantB n (B I) I qx).1 I=(QP.wantB n (B I) I qx).1:=by simp[QP.upd1]
     rw[e1u]at hA2 hV2
     have hoe:(QP.wantB n (B I) I qx).2=(QP.mem n qx).map fun v=>(.ask,v):=rfl
     rw[<-hoe]at ho
     have hbo:bOk n (zi Q) I (toBl (QP.wantB n (B I) I qx).1)=true:=uQ_ HM.out hI0 (by omega) hA2 hV2
     have hsm2:=(tO_ hV2 n9).1
     have hput:yB_ (toMs M) I ((QP.wantB n (B I) I qx).2.map (x8_ (QP.wantB n (B I) I qx).1.stamp))=toMs (QP.put M I (QP.wantB n (B I) I qx).2 (QP.wantB n (B I) I qx).1.stamp):=oe_ ..
     have hupd:=pK_ B I (QP.wantB n (B I) I qx).1
     have hlen:((QP.wantB n (B I) I qx).2.map (x8_ (QP.wantB n (B I) I qx).1.stamp)).length<=11:=by rw[List.length_map];have:=ho.len;omega
     have hto:=lT_ ho.to (QP.wantB n (B I) I qx).1.stamp
     have hlM:∀a b,(toMs M a b).length+((QP.wantB n (B I) I qx).2.map (x8_ (QP.wantB n (B I) I qx).1.stamp)).length<=100000:=fun a b=>by rw[ws_];have:=HL.out a b;omega
     generalize toBl (QP.wantB n (B I) I qx).1=b at hR hbo hsm2 hupd
     generalize (QP.wantB n (B I) I qx).2.map (x8_ (QP.wantB n (B I) I qx).1.stamp)=l at hR hput hlen hto hlM
     generalize (QP.wantB n (B I) I qx).1=b1 at hst hput hupd
     generalize (QP.wantB n (B I) I qx).2=l1 at hst hput
     have hcall:∀wx,Below W0.heap.size W0 wx->Calls Try.prog 15 #[.agg #[v0,.int .i64 0,v2,v3,v4,v5,v6,.bool false,v8,v9,v10],.agg #[.int .i64 n,.slice (some ⟨qb,qo,none⟩) Q.length QC],.int .i64 I,.int .i64 qx] wx fun e w'=>∃g' r0 r1 r2 r3 r4 r5 r6 r7 r8 r9 r10 A C,e=.returned (.tuple #[.agg #[r0,r1,r2,r3,r4,r5,r6,r7,r8,r9,r10],.slice A l.length C,.int .i64 0])/\Gv g wx b l w' g' r0 r1 r2 r3 r4 r5 r6 r7 r8 r9 r10 A C:=by
      intro wx hbx
      have hIk:=hn.keepI hbx
      refine(xk_ (rx_ (toBl (B I)) n (zi Q) I qx (by omega) (tO_ (HI.out.vo I hI0) n9).1) (g:=g) (w:=wx) (vals:=#[.agg #[v0,.int .i64 0,v2,v3,v4,v5,v6,.bool false,v8,v9,v10],.agg #[.int .i64 n,.slice (some ⟨qb,qo,none⟩) Q.length QC],.int .i64 I,.int .i64 qx]) rfl ?_ ?_ fun k hk=>zzk_ (hn.Ilt k hk) hbx.size).mono ?_
      .intro x hx
       simp at hx
       rcases hx with rfl|rfl|rfl|rfl<;>rfl
      .intro x u c hu hc
       match x,hu,hc with
       | 0, hu, hc =>
         cases hu
         cases hc
         have:=xZ_ hrv hIk
         rw[e7',e1',hq0]at this
         exact this
       | 1, hu, hc =>
         cases hu
         cases hc
         refine .agg rfl (by intro c hc;simp at hc;rcases hc with rfl|rfl<;>rfl) (fun x u c hu hc=>?_)
         match x,hu,hc with
         |0,hu,hc=>cases hu;cases hc;exact .s rfl
         |1,hu,hc=>cases hu;cases hc;exact zu_ (hqv ▸ hn.hq) rfl hIk
       |2,hu,hc=>cases hu;cases hc;exact .s rfl
       |3,hu,hc=>cases hu;cases hc;exact .s rfl
      .rintro e w' ⟨v,r,g',rfl,rfl,hr,hbel,hg,hlt⟩
       rw[hR]at hr
       obtain⟨r0,r1,r2,r3,r4,r5,r6,r7,r8,r9,r10,A,C,rfl,hv⟩:=kQ_ hr hbel hg hlt
       exact⟨g',r0,r1,r2,r3,r4,r5,r6,r7,r8,r9,r10,A,C,rfl,hv⟩
     rw[hqv]at x1
     have hB1:Below W0.heap.size W0 W0.drew:=⟨rfl,rfl,rfl,zzl_ _,fun _ _=>rfl⟩
     have hB2:Below W0.heap.size W0 (W0.drew.alloc (.cells #[.int .i64 0,.int .i64 0,.int .i64 0,.int .i64 0,.int .i64 0,.int .i64 0,.int .i64 0,.bool false,.slice none 0 0,.slice none 0 0,.bool false] 39)):=⟨rfl,rfl,rfl,by simp,fun k hk=>Below.heap_alloc W0.drew _ k hk⟩
     have hZ2:(W0.drew.alloc (.cells #[.int .i64 0,.int .i64 0,.int .i64 0,.int .i64 0,.int .i64 0,.int .i64 0,.int .i64 0,.bool false,.slice none 0 0,.slice none 0 0,.bool false] 39)).heap[W0.heap.size]?=some (.cells z39 39 (0,0)):=heap_alloc_new W0.drew (.cells z39 39)
     have hz2:W0.heap.size<(W0.drew.alloc (.cells #[.int .i64 0,.int .i64 0,.int .i64 0,.int .i64 0,.int .i64 0,.int .i64 0,.int .i64 0,.bool false,.slice none 0 0,.slice none 0 0,.bool false] 39)).heap.size:=by simp
     have hXl:X<W0.heap.size:=(hn.tz X (by rw[hn.tag.x];omega)).1
     have hBl:h.bk<W0.heap.size:=(hn.tz _ (by rw[hn.tag.b];omega)).1
     have hS:∀wx,Below W0.heap.size W0 wx->wx.cell? ⟨X,0,none⟩=some (.int .i64 n)/\wx.cell? ⟨X,1,none⟩=some (Value.slice (some ⟨qb,qo,none⟩) Q.length QC)/\wx.cell? ⟨X,2,none⟩=some (.slice (some ⟨h.bk,0,none⟩) n h.bc)/\wx.cell? ⟨h.bk,I*11,none⟩=some v0/\wx.cell? ⟨h.bk,I*11+1,none⟩=some (.int .i64 0)/\wx.cell? ⟨h.bk,I*11+2,none⟩=some v2/\wx.cell? ⟨h.bk,I*11+3,none⟩=some v3/\wx.cell? ⟨h.bk,I*11+4,none⟩=some v4/\wx.cell? ⟨h.bk,I*11+5,none⟩=some v5/\wx.cell? ⟨h.bk,I*11+6,none⟩=some v6/\wx.cell? ⟨h.bk,I*11+7,none⟩=some (.bool false)/\wx.cell? ⟨h.bk,I*11+8,none⟩=some v8/\wx.cell? ⟨h.bk,I*11+9,none⟩=some v9/\wx.cell? ⟨h.bk,I*11+10,none⟩=some v10/\wx.cell? ⟨qb,qo+p,none⟩=some (.int .i64 qx):=fun wx hb=>⟨z0_ hb x0 hXl,z0_ hb x1 hXl,z0_ hb x2 hXl,z0_ hb a0 hBl,z0_ hb a1 hBl,z0_ hb a2 hBl,z0_ hb a3 hBl,z0_ hb a4 hBl,z0_ hb a5 hBl,z0_ hb a6 hBl,z0_ hb a7 hBl,z0_ hb a8 hBl,z0_ hb a9 hBl,z0_ hb a10 hBl,z0_ hb hqc hqbl⟩
     have HS:=Lib.hid hS
     have HC:=Lib.hid hcall
     have HST:=Lib.hid hst
     have HX:=Lib.hid (And.intro hbo (And.intro hsm2 (And.intro hput (And.intro hupd (And.intro hto hlM)))))
     clear hS x0 x1 x2 a0 a1 a2 a3 a4 a5 a6 a7 a8 a9 a10 hn hcall hst hbo hsm2 hput hupd hto hlM hR hrv e7 e7' e1 e1' o0 o1 o2 o3 o4 o5 o6 o7 o8 o9 o10 hqc hQA hI2 ho hA2 hV2 e1u hoe hqv
     generalize hnQ:Q.length=nQ at *
     have HNQ:=Lib.hid hnQ
     clear hnQ
     have hQn1:¬nQ=0:=by omega
     have hQn2:(nQ==0)=false:=by rw[beq_eq_false_iff_ne];omega
     go_region_held3 (fun wx=>wx.cell? ⟨X,0,none⟩=some (.int .i64 n)/\wx.cell? ⟨X,1,none⟩=some (.slice (some ⟨qb,qo,none⟩) nQ QC)/\wx.cell? ⟨X,2,none⟩=some (.slice (some ⟨h.bk,0,none⟩) n h.bc)/\wx.cell? ⟨h.bk,I*11,none⟩=some v0/\wx.cell? ⟨h.bk,I*11+1,none⟩=some (.int .i64 0)/\wx.cell? ⟨h.bk,I*11+2,none⟩=some v2/\wx.cell? ⟨h.bk,I*11+3,none⟩=some v3/\wx.cell? ⟨h.bk,I*11+4,none⟩=some v4/\wx.cell? ⟨h.bk,I*11+5,none⟩=some v5/\wx.cell? ⟨h.bk,I*11+6,none⟩=some v6/\wx.cell? ⟨h.bk,I*11+7,none⟩=some (.bool false)/\wx.cell? ⟨h.bk,I*11+8,none⟩=some v8/\wx.cell? ⟨h.bk,I*11+9,none⟩=some v9/\wx.cell? ⟨h.bk,I*11+10,none⟩=some v10/\wx.cell? ⟨qb,qo+p,none⟩=some (.int .i64 qx))
      ((refine HS.out _ ?_;assumption))
      (first
      | (go_at_call 15
         refine(HC.out _ hB1).mono ?_
         rintro e w' ⟨g',r0,r1,r2,r3,r4,r5,r6,r7,r8,r9,r10,A,C,rfl,hv⟩
         have hB3:=hB1.trans (Below.mono1 hv.below hB1.size)
         obtain⟨y1,y2,y3,y4,y5,y6,y7,y8,y9,y10,W,z0,z1,z2,z3,z4,z5,z6,z7,z8,z9,z10,hW1,hW2,hW3⟩:=mS_ (P:=Try.prog) w' hv.one
         have hB4:Below W0.heap.size W0 (w'.alloc (.cells #[.int .i64 0,.int .i64 0,.int .i64 0,.int .i64 0,.int .i64 0,.int .i64 0,.int .i64 0,.bool false,.slice none 0 0,.slice none 0 0,.bool false] 39)):=hB3.trans (Below.mono1 (zK_ w' _) hB3.size)
         have hB5:Below W0.heap.size W0 W:=hB3.trans (Below.mono1 hW1 hB3.size)
         have HA:=Lib.hid (hv.aft1 HN.out hB1 hW1)
         have HO:=Lib.hid hv.one
         have HW:=Lib.hid (And.intro hB3.size hW3)
         clear hv hW1 hW2 hW3)
      | (go_at_call 15
         refine(HC.out _ hB2).mono ?_
         rintro e w' ⟨g',r0,r1,r2,r3,r4,r5,r6,r7,r8,r9,r10,A,C,rfl,hv⟩
         have hB3:=hB2.trans (Below.mono1 hv.below hB2.size)
         obtain⟨y1,y2,y3,y4,y5,y6,y7,y8,y9,y10,W,z0,z1,z2,z3,z4,z5,z6,z7,z8,z9,z10,hW1,hW2,hW3,hW4,hW5,hW6⟩:=hv.box1 (P:=Try.prog) hZ2
         have HA:=Lib.hid (hv.aft2 HN.out hB2 (zzl_ _) hz2 hW1 hW2 hW3 hW4 hW5)
         have hB5:Below W0.heap.size W0 W:=⟨HA.out.os,HA.out.tape,HA.out.output,HA.out.size,HA.out.fr⟩
         have HO:=Lib.hid hv.one
         have HW:=Lib.hid (And.intro (zzl_ W0.heap.size) hW6)
         clear hv hW1 hW2 hW3 hW4 hW5 hW6))
     all_goals
      obtain⟨q0,q1,q2,q3,q4,q5,q6,q7,q8,q9,q10⟩:=va_ HW.out.2
      have hcall2:=wT_ HA.out.net hI0 (by have:=HNQ.out;rw[uh_];omega) HX.out.2.1 HA.out.rb HA.out.rl HX.out.2.2.2.2.1 (by omega) HX.out.2.2.2.2.2
      have HC2:=Lib.hid hcall2
      clear hcall2
      go_wp2_with ((go_at_call 31
                    refine HC2.out.mono ?_
                    rintro e w2 ⟨T',g2,h',rfl,hk⟩
                    have HK:=Lib.hid hk
                    clear hk))
      all_goals go_wp2
      all_goals go_ret
      all_goals
       obtain⟨t1,t2,t3,t4,t5,t6,t7⟩:=HK.out
       have ha:=HA.out
       obtain⟨q1,q2,q3,q4,_⟩:=HX.out
       rw[q4,q3]at t1
       have hk2:Kp T g W0 T' g2 w2:=⟨t2.trans ha.os,t3.trans ha.tape,t4.trans ha.output,yyd_ ha.size t5,fun k hk h0=>⟨(t6 k (zzk_ hk ha.size) h0).1,(t6 k (zzk_ hk ha.size) h0).2.trans (ha.fr k hk)⟩,fun k hk=>(t7 k (zzk_ hk ha.size)).trans (ha.same k hk)⟩
       refine⟨T',g2,h',_,_,?_,t1,HK0.out.trans hk2,HST.out⟩
       first|rfl|(simp only[q1];rfl)|(rw[q1];rfl)
end Go.Proofs.Ytpfjlnmnolbiaaa
namespace Go.Proofs.Ytpfjlnmnolbiaaa
open Go Go.Proofs
section
variable{P:Program}{l:List Oper}{n:Nat}{Q:Exit->Act->World->Prop}
end
end Go.Proofs.Ytpfjlnmnolbiaaa
namespace Go.Proofs.Ytpfjlnmnolbiaaa
open Go Go.Proofs
structure Orow where
 v:Value
 e:TypeId
 z:Nat
 n:Nat
 xs:List Value
structure Bs(w0:World)(X:Nat)(O:List Orow)(L:List (Nat×Obj))(w:World):Prop where
 os:w.os=w0.os
 tape:w.tape=w0.tape
 output:w.output=w0.output
 size:w0.heap.size<=w.heap.size
 old:∀k,k<w0.heap.size->k≠X->w.heap[k]?=w0.heap[k]?
 own:∀r∈O,w.ownsRow w0.heap.size r.e r.z r.v r.n r.xs
 loose:∀q∈L,w0.heap.size<=q.1/\q.1<w.heap.size/\w.heap[q.1]?=some q.2
 ndO:∀(i j:Nat) (r s:Orow) (k:Nat),O[i]?=some r->O[j]?=some s->r.v.ownBlock=some k->s.v.ownBlock=some k->i=j
 ndL:L.Pairwise fun p q=>p.1<q.1
 ndOL:∀r∈O,∀q∈L,r.v.ownBlock≠some q.1
section
variable{w0 w:World}{X:Nat}{O:List Orow}{L:List (Nat×Obj)}
theorem Bs.drew(h:Bs w0 X O L w):Bs w0 X O L w.drew:=⟨h.os,h.tape,h.output,h.size,h.old,h.own,h.loose,h.ndO,h.ndL,h.ndOL⟩
theorem Bs.grown{w':World}(h:Bs w0 X O L w)(hg:w.grownBy w' none):Bs w0 X O L w':=by
 have hb:∀k,k<w.heap.size->w'.heap[k]?=w.heap[k]?:=fun k hk=>hg.block k hk (by simp)
 refine⟨hg.os.trans h.os,hg.tape.trans h.tape,hg.output.trans h.output,yyd_ h.size hg.size,fun k hk hx=>(hb k (zzk_ hk h.size)).trans (h.old k hk hx),fun r hr=>(h.own r hr).kept hg ?_,fun q hq=>?_,h.ndO,h.ndL,h.ndOL⟩
 .cases r.v.ownBlock<;>simp
 .obtain⟨h1,h2,h3⟩:=h.loose q hq
  exact⟨h1,zzk_ h2 hg.size,(hb q.1 h2).trans h3⟩
theorem Bs.alloc(h:Bs w0 X O L w)(cs:Array Value)(t:TypeId):Bs w0 X O (L++[(w.heap.size,.cells cs t (0,0))]) (w.alloc (.cells cs t)):=by
 have h':=h.grown (World.grownBy_alloc w (.cells cs t) none)
 refine⟨h'.os,h'.tape,h'.output,h'.size,h'.old,h'.own,fun q hq=>?_,h.ndO,?_,fun r hr q hq=>?_⟩
 .rcases zzw_.1 hq with hq|hq
  .exact h'.loose q hq
  .have:=List.mem_singleton.1 hq
   subst this
   exact⟨h.size,by simp,heap_alloc_new w _⟩
 .rw[List.pairwise_append]
  refine⟨h.ndL,by simp,fun a ha b hb=>?_⟩
  have:=List.mem_singleton.1 hb
  subst this
  exact(h.loose a ha).2.1
 .rcases zzw_.1 hq with hq|hq
  .exact h.ndOL r hr q hq
  .have:=List.mem_singleton.1 hq
   subst this
   intro e
   have:=((h.own r hr).lt _ e).2
   simp at this
theorem Bs.append{P:Program}(h:Bs w0 X O L w)(hX:X<w0.heap.size){j:Nat}{r:Orow}(hj:O[j]?=some r)(t ty:TypeId)(i:TypeInfo)(z:Value)(bytes:Nat)(ht:P.underlying t=some (.slice r.e))(hi:P.info? r.e=some i)(hz:i.zero=some z)
 (hsize:i.size=r.z) (hby:i.bytes=bytes) (hzs:z.cells.size=r.z) (hsz:0<r.z) {k:Nat} {cs:Array Value} {e':TypeId} (hk:(k,Obj.cells cs e' (0,0))∈L) (hl:cs.size=r.z) (h1:∀u∈cs.toList,u.oneCell'=true)
 (hn:r.n+1<=1000) (hb:bytes<=100000) :
 ∃g cap w',(Builtin.append_ #[t,t] ty #[r.v,.slice (some ⟨k,0,none⟩) 1 1]).run P w=.ok (.slice (some ⟨g,0,none⟩) (r.n+1) cap) w'/\Bs w0 X (O.set j ⟨.slice (some ⟨g,0,none⟩) (r.n+1) cap,r.e,r.z,r.n+1,r.xs++cs.toList⟩) L w'/\w'.heap[X]?=w.heap[X]?:=by
 obtain⟨k1,k2,k3⟩:=h.loose _ hk
 have hrm:r∈O:=zzd_ hj
 have hjl:=(zzc_.1 hj).1
 have hown:=h.own r hrm
 have hbb:(r.n+1)*bytes<=140737488355328:=by
  have:(r.n+1)*bytes<=1000*100000:=Nat.mul_le_mul hn hb
  omega
 obtain⟨g,cap,w',q1,q2,q3,q4,q5⟩:=run_append_lies (P:=P) w t ty w0.heap.size r.e i z r.z bytes ht hi hz hsize hby hzs hsz r.v r.n r.xs hown ⟨k,0,none⟩ 1 1 cs.toList (by simp[hl]) (World.news_of_block k3) h1 (by omega) (by simp[maxLen];omega) hbb h.size w.heap.size rfl
 have hrow:∀b,r.v.ownBlock=some b->w0.heap.size<=b:=fun b hb=>(hown.lt b hb).1
 have hkeep:∀b,b<w.heap.size->r.v.ownBlock≠some b->w'.heap[b]?=w.heap[b]?:=fun b hb hne=>q3.block b hb fun e=>hne e.symm
 have hob:∀c n' cap',(Value.slice (some ⟨c,0,none⟩) n' cap').ownBlock=some c:=fun _ _ _=>rfl
 -- the new row's block
 have hg:∀(i':Nat) (r':Orow),O[i']?=some r'->i'≠j->r'.v.ownBlock≠some g:=by
  intro i' r' hi' hne e
  rcases q4 with q4|q4
  .exact hne (h.ndO i' j r' r g hi' hj e q4)
  .have:=((h.own r' (zzd_ hi')).lt g e).2
   omega
 refine⟨g,cap,w',q1,⟨q3.os.trans h.os,q3.tape.trans h.tape,q3.output.trans h.output,yyd_ h.size q3.size,fun b hb' hx=>?_,fun r' hr'=>?_,fun q hq=>?_,fun i1 i2 r1 r2 b e1 e2 e3 e4=>?_,h.ndL,fun r' hr' q hq=>?_⟩,?_⟩
 .rw[hkeep b (zzk_ hb' h.size) (fun e=>by have:=hrow b e;omega)]
  exact h.old b hb' hx
 .obtain⟨i',hi'⟩:=List.mem_iff_getElem?.1 hr'
  rw[List.getElem?_set]at hi'
  split at hi'
  .cases hi'
   exact q2
  .next hne =>
   refine(h.own r' (zzd_ hi')).kept q3 ?_
   cases e1:r'.v.ownBlock with
   |none=>exact .inl rfl
   | some b =>
     refine .inr fun e2=>hne ?_
     exact(h.ndO i' j r' r b hi' hj e1 e2.symm).symm
 .obtain⟨a1,a2,a3⟩:=h.loose q hq
  exact⟨a1,zzk_ a2 q3.size,(hkeep q.1 a2 (h.ndOL r hrm q hq)).trans a3⟩
 .rw[List.getElem?_set]at e1 e2
  split at e1
  .next h1' =>
   split at e2
   .next h2'=>exact h1'.symm.trans h2'
   .next h2' =>
    cases e1
    rw[hob]at e3
    cases e3
    exact absurd e4 (hg i2 r2 e2 (Ne.symm h2'))
  .next h1' =>
   split at e2
   .next h2' =>
    cases e2
    rw[hob]at e4
    cases e4
    exact absurd e3 (hg i1 r1 e1 (Ne.symm h1'))
   .exact h.ndO i1 i2 r1 r2 b e1 e2 e3 e4
 .obtain⟨i',hi'⟩:=List.mem_iff_getElem?.1 hr'
  rw[List.getElem?_set]at hi'
  split at hi'
  .cases hi'
   rw[hob]
   rintro e
   cases e
   rcases q4 with q4|q4
   .exact h.ndOL r hrm q hq q4
   .have:=(h.loose q hq).2.1
    omega
  .exact h.ndOL r' (zzd_ hi') q hq
 .exact hkeep X (zzk_ hX h.size) fun e=>by have:=hrow X e;omega
theorem Bs.setX(h:Bs w0 X O L w)(hX:X<w0.heap.size)(o:Nat)(v:Value):Bs w0 X O L (w.setCell ⟨X,o,none⟩ v):=by
 have hb:∀k,k≠X->(w.setCell ⟨X,o,none⟩ v).heap[k]?=w.heap[k]?:=fun k hk=>by
  simp[World.setCell,yyu_,Ne.symm hk]
 have hs:(w.setCell ⟨X,o,none⟩ v).heap.size=w.heap.size:=by simp[World.setCell]
 refine⟨h.os,h.tape,h.output,by rw[hs];exact h.size,fun k hk hx=>(hb k hx).trans (h.old k hk hx),fun r hr=>?_,fun q hq=>?_,h.ndO,h.ndL,h.ndOL⟩
 .obtain⟨a,b⟩:=h.own r hr
  refine⟨a,?_⟩
  rcases b with b|⟨g,cap,cur,e1,e2,e3,e4⟩
  .exact .inl b
  .exact .inr ⟨g,cap,cur,e1,e2,(hb g (by omega)).trans e3,e4⟩
 .obtain⟨a1,a2,a3⟩:=h.loose q hq
  exact⟨a1,by rw[hs];exact a2,(hb q.1 (by omega)).trans a3⟩
theorem Bs.sub(h:Bs w0 X O L w){L':List (Nat×Obj)}(hs:L'.Sublist L):Bs w0 X O L' w :=
 ⟨h.os,h.tape,h.output,h.size,h.old,h.own,fun q hq=>h.loose q (hs.subset hq),h.ndO,h.ndL.sublist hs,fun r hr q hq=>h.ndOL r hr q (hs.subset hq)⟩
end
end Go.Proofs.Ytpfjlnmnolbiaaa
namespace Go.Proofs.Ytpfjlnmnolbiaaa
open Go.RowKit Go.Proofs
structure Sm(k:Nat)(Q:List Nat):Prop where
 k7:k<=7
 ne:0<Q.length
 q4:∀q∈Q,(QP.mem k q).length<=4
theorem k4_:Sm 3 (xm_ 3):=⟨by decide,by decide +kernel,by decide +kernel⟩
theorem k3_:Sm 5 (xm_ 5):=⟨by decide,by decide +kernel,by decide +kernel⟩
theorem k5_:Sm 2 (xm_ 2):=⟨by decide,by decide +kernel,by decide +kernel⟩
theorem k7_:Sm (2*2) (zH_ (2*2) (grid 2 2)):=⟨by decide,by decide +kernel,by decide +kernel⟩
theorem k6_:Sm (2*3) (zH_ (2*3) (grid 2 3)):=⟨by decide,by decide +kernel,by decide +kernel⟩
theorem jG_:Sm (2^3-1) (tQ 3):=⟨by decide,by decide +kernel,by decide +kernel⟩
theorem sF_(n:Int):PC Try.prog 27 [.s (.int .i64 n)] (fun r=>∃k Q,(Md k Q/\Sm k Q)/\r=cP (k:Nat) (zi Q)):=by
 have k0:=nA_ n 6 (by omega) (by omega)
 have hb:=Int.emod_nonneg n (b:=6) (by omega)
 have hc:=Int.emod_lt_of_pos n (b:=6) (by omega)
 refine zn_ c27 zp_ rfl ?_
 simp -implicitDefEqProofs [a27,F27]
 refine z1_ ?_
 simp
 refine zc_ k0 (by simp) (by simp) ?_
 rintro _ rfl
 generalize n%6=m at hb hc
 have h6:m=0\/m=1\/m=2\/m=3\/m=4\/m=5:=by omega
 rcases h6 with rfl|rfl|rfl|rfl|rfl|rfl
 .simp
  refine z1_ ?_
  simp
  refine zc_ (r9_ (n:=3) (by omega) (by omega)) (by simp) (by simp) ?_
  rintro _ rfl
  simp[cP]
  exact⟨_,_,⟨vt_ (n:=3) (by omega) (by omega),k4_⟩,rfl,rfl⟩
 .simp
  refine z1_ ?_
  simp
  refine zc_ (jX_ (r:=2) (c:=2) (by omega) (by omega)) (by simp) (by simp) ?_
  rintro _ rfl
  simp[cP]
  exact⟨_,_,⟨hs_ (r:=2) (c:=2) (by omega) (by omega),k7_⟩,rfl,rfl⟩
 .simp
  refine z1_ ?_
  simp
  refine zc_ (r9_ (n:=5) (by omega) (by omega)) (by simp) (by simp) ?_
  rintro _ rfl
  simp[cP]
  exact⟨_,_,⟨vt_ (n:=5) (by omega) (by omega),k3_⟩,rfl,rfl⟩
 .simp
  refine z1_ ?_
  simp
  refine zc_ (jW_ (k:=3) (.inr (.inr rfl))) (by simp) (by simp) ?_
  rintro _ rfl
  simp[cP]
  exact⟨_,_,⟨h4_ (k:=3) (.inr (.inr rfl)),jG_⟩,rfl,rfl⟩
 .simp
  refine z1_ ?_
  simp
  refine zc_ (r9_ (n:=2) (by omega) (by omega)) (by simp) (by simp) ?_
  rintro _ rfl
  simp[cP]
  exact⟨_,_,⟨vt_ (n:=2) (by omega) (by omega),k5_⟩,rfl,rfl⟩
 .simp
  refine z1_ ?_
  simp
  refine zc_ (m3_) (by simp) (by simp) ?_
  rintro _ rfl
  simp[cP]
  exact⟨_,_,⟨kR_,k6_⟩,rfl,rfl⟩
section
theorem ug_{g:Gh}{w:World}(hlt:∀k,0<g.I k->k<w.heap.size)(m:Int):Calls Try.prog 27 #[.int .i64 m] w fun e w'=>∃(n:Nat) (Q:List Nat) (QA:Option Addr) (QC:Nat) (g':Gh),e=.returned (.agg #[.int .i64 n,.slice QA Q.length QC])/\Md n Q/\Sm n Q/\Rep g' w' (.list 1 (iv (zi Q))) (.slice QA Q.length QC)/\Below w.heap.size w w'/\(∀k,k<w.heap.size->g'.I k=g.I k)/\∀k,0<g'.I k->k<w'.heap.size:=by
 refine(xk_ (sF_ m) (g:=g) (w:=w) (vals:=#[.int .i64 m]) rfl ?_ ?_ hlt).mono ?_
 .intro x hx
  simp at hx
  subst hx
  rfl
 .intro i x v hx hv
  match i,hx,hv with
  |0,hx,hv=>cases hx;cases hv;exact .s rfl
 .rintro e w' ⟨v,r,g',rfl,⟨n,Q,⟨hm,hs⟩,rfl⟩,hr,hb,hg,hI⟩
  cases hr with
  | agg e1 e2 e3 =>
    rename_i vs
    obtain⟨a,c,rfl⟩:∃a c,vs=#[a,c]:=by
     have:vs.toList.length=2:=by have:=e1;simp at this;simp;omega
     match hv:vs.toList,this with
     |[a,c],_=>exact⟨a,c,Array.ext' (by simpa using hv)⟩
    have ha:=(e3 0 _ a rfl rfl).of_s rfl
    subst ha
    have hc:=e3 1 _ c rfl rfl
    obtain⟨A,C,rfl,_⟩:=xB_ hc
    rw[uh_] at *
    exact⟨n,Q,A,C,g',rfl,hm,hs,hc,hb,hg,hI⟩
theorem New_calls{w:World}:Calls Try.prog 25 #[] w fun e w'=>e=.returned (.agg #[.int .i64 0,.int .i64 0,.int .i64 0,.int .i64 0,.int .i64 0,.int .i64 0,.int .i64 0,.bool false,.slice none 0 0,.slice none 0 0,.bool false])/\w.grownBy w' none:=by
 go_enter Try.func25,Try.ntmps25
 go_wp2
 have hc:∀j,(w.alloc (.cells z39 39)).cell? ⟨w.heap.size,j,none⟩=z39[j]?:=fun j=>by
  have:=heap_alloc_new w (.cells z39 39)
  simp only[World.cell?,this]
  rfl
 have hc':=hc
 simp only[z39]at hc'
 refine bodyPost_ret (v:=.agg z39) (by simp[results,Try.results25,go_sem,hc',z39]) rfl ⟨rfl,World.grownBy_alloc _ _ _⟩
def mkO(n:Nat)(bv mv:Value)(p:Nat)(rk:Nat->Nat):List Orow:=[⟨bv,39,11,p,(List.range p).flatMap fun _=>z39.toList⟩,⟨mv,42,1,p,(List.range p).map fun i=>.slice (some ⟨rk i,0,none⟩) n n⟩]
def nils(n:Nat):Array Value:=Array.replicate n (.slice none 0 0)
def mkL(n p:Nat)(rk:Nat->Nat):List (Nat×Obj):=(List.range p).map fun i=>(rk i,.cells (nils n) 41 (0,0))
structure Mk(w0:World)(X n:Nat)(qv:Value)(p:Nat)(w:World):Prop where
 ex:∃bv mv rk,Bs w0 X (mkO n bv mv p rk) (mkL n p rk) w/\w.heap[X]?=some (.cells #[.int .i64 n,qv,bv,mv] 33 (0,0))
theorem kD_{w0 V:World}{X n:Nat}{qv bv mv:Value}{p gb cb gm cm kr:Nat}{rk:Nat->Nat}{O:List Orow}{L:List (Nat×Obj)}(h:Bs w0 X O L V)
 (hx:V.heap[X]?=some (.cells #[.int .i64 n,qv,.slice (some ⟨gb,0,none⟩) (p+1) cb,.slice (some ⟨gm,0,none⟩) (p+1) cm] 33 (0,0)))
 (hO:O=((mkO n bv mv p rk).set 0 ⟨.slice (some ⟨gb,0,none⟩) (p+1) cb,39,11,p+1,((List.range p).flatMap fun _=>z39.toList)++z39.toList⟩).set 1 ⟨.slice (some ⟨gm,0,none⟩) (p+1) cm,42,1,p+1,((List.range p).map fun i=>.slice (some ⟨rk i,0,none⟩) n n)++[.slice (some ⟨kr,0,none⟩) n n]⟩)
 (hL:∃R,L=mkL n p rk++R/\(kr,Obj.cells (nils n) 41 (0,0))∈R):Mk w0 X n qv (p+1) V:=by
 obtain⟨R,rfl,hR⟩:=hL
 have e1:O=mkO n (.slice (some ⟨gb,0,none⟩) (p+1) cb) (.slice (some ⟨gm,0,none⟩) (p+1) cm) (p+1) fun i=>if i=p then kr else rk i:=by
  rw[hO]
  have h1:(List.range p).map (fun i=>Value.slice (some ⟨rk i,0,none⟩) n n)=(List.range p).map fun i=>Value.slice (some ⟨if i=p then kr else rk i,0,none⟩) n n:=by
   refine List.map_congr_left fun i hi=>?_
   have:=List.mem_range.1 hi
   rw[if_neg (by omega)]
  simp[mkO,yyv_,h1]
 have e2:mkL n (p+1) (fun i=>if i=p then kr else rk i)=mkL n p rk++[(kr,.cells (nils n) 41 (0,0))]:=by
  have h1:(List.range p).map (fun i=>((if i=p then kr else rk i,Obj.cells (nils n) 41 (0,0)):Nat×Obj))=(List.range p).map fun i=>(rk i,.cells (nils n) 41 (0,0)):=by
   refine List.map_congr_left fun i hi=>?_
   have:=List.mem_range.1 hi
   rw[if_neg (by omega)]
  simp[mkL,yyv_,h1]
 rw[e1]at h
 refine⟨_,_,_,h.sub ?_,hx⟩
 rw[e2]
 exact List.Sublist.append (List.Sublist.refl _) (List.singleton_sublist.2 hR)
theorem nS_{n:Nat}(hn:n<=9){w:World}:(Instr.makeSlice 42 (.int .i64 n) (.int .i64 n)).run Try.prog w=.ok (.slice (some ⟨w.heap.size,0,none⟩) n n) (w.alloc (.cells (nils n) 41)):=by
 obtain⟨i0,hi0,hz0,hzs,hzb⟩:∃i0,Try.prog.info? 41=some i0/\i0.zero=some (.slice none 0 0)/\i0.size=1/\i0.bytes=24:=⟨_,rfl,by kernel_rfl,by kernel_rfl,by kernel_rfl⟩
 have:=run_make (P:=Try.prog) w 42 41 i0 _ Try.underlying42 hi0 hz0 .i64 .i64 n n (by omega) (Int.le_refl _) (by rw[hzb];omega) (by omega)
 rw[this]
 have e:madeCells (Value.slice none 0 0).cells ((n:Int).toNat*i0.size)=nils n:=by
  rw[hzs]
  simp[madeCells,nils,Value.cells]
  apply Array.ext
  .simp
  .intro i h1 h2
   simp[Nat.mod_one]
 rw[e]
 simp
section
variable{w0 w:World}{X n p kr k:Nat}{O:List Orow}{L:List (Nat×Obj)}{xo:Option Obj}{r:Orow}
theorem Bs.al(h:Bs w0 X O L w)(hx:w.heap[X]?=xo)(hX:X<w0.heap.size)(cs:Array Value)(t:TypeId):∃V k,w.alloc (.cells cs t)=V/\w.heap.size=k/\Bs w0 X O (L++[(k,.cells cs t (0,0))]) V/\V.heap[X]?=xo :=
 ⟨_,_,rfl,rfl,h.alloc cs t,(Below.heap_alloc w (.cells cs t) X (zzk_ hX h.size)).trans hx⟩
theorem Bs.al39(h:Bs w0 X O L w)(hx:w.heap[X]?=xo)(hX:X<w0.heap.size):∃V k,w.alloc (.cells #[.int .i64 0,.int .i64 0,.int .i64 0,.int .i64 0,.int .i64 0,.int .i64 0,.int .i64 0,.bool false,.slice none 0 0,.slice none 0 0,.bool false] 39)=V/\w.heap.size=k/\Bs w0 X O (L++[(k,.cells z39 39 (0,0))]) V/\V.heap[X]?=xo:=h.al hx hX z39 39
theorem Bs.al41(h:Bs w0 X O L w)(hx:w.heap[X]?=xo)(hX:X<w0.heap.size)(n:Nat):∃V k,w.alloc (.cells (nils n) 41)=V/\w.heap.size=k/\Bs w0 X O (L++[(k,.cells (nils n) 41 (0,0))]) V/\V.heap[X]?=xo:=h.al hx hX _ 41
theorem Bs.al42(h:Bs w0 X O L w)(hx:w.heap[X]?=xo)(hX:X<w0.heap.size)(kr n:Nat):∃V k,w.alloc (.cells #[.slice (some ⟨kr,0,none⟩) n n] 42)=V/\w.heap.size=k/\Bs w0 X O (L++[(k,.cells #[.slice (some ⟨kr,0,none⟩) n n] 42 (0,0))]) V/\V.heap[X]?=xo:=h.al hx hX _ 42
theorem Bs.ap39(h:Bs w0 X O L w)(hx:w.heap[X]?=xo)(hX:X<w0.heap.size){v:Value}{xs:List Value}(hj:O[0]?=some ⟨v,39,11,p,xs⟩)(hk:(k,Obj.cells z39 39 (0,0))∈L)(hp:p+1<=1000) :
 ∃g c V,(Builtin.append_ #[30,30] 30 #[v,.slice (some ⟨k,0,none⟩) 1 1]).run Try.prog w=.ok (.slice (some ⟨g,0,none⟩) (p+1) c) V/\Bs w0 X (O.set 0 ⟨.slice (some ⟨g,0,none⟩) (p+1) c,39,11,p+1,xs++z39.toList⟩) L V/\V.heap[X]?=xo:=by
 obtain⟨i39,i39h,i39z,i39s,i39b⟩:∃i,Try.prog.info? 39=some i/\i.zero=some (.agg z39)/\i.size=11/\i.bytes=120:=⟨_,rfl,by kernel_rfl,by kernel_rfl,by kernel_rfl⟩
 obtain⟨g,c,V,h1,h2,h3⟩:=h.append (P:=Try.prog) hX (j:=0) hj 30 30 i39 _ 120 Try.underlying30 i39h i39z i39s i39b rfl (by simp) hk rfl (by intro u hu;simp[z39]at hu;rcases hu with rfl|rfl|rfl|rfl|rfl|rfl|rfl|rfl|rfl|rfl|rfl<;>rfl) hp (by omega)
 exact⟨g,c,V,h1,h2,h3.trans hx⟩
theorem Bs.ap42(h:Bs w0 X O L w)(hx:w.heap[X]?=xo)(hX:X<w0.heap.size){v:Value}{xs:List Value}(hj:O[1]?=some ⟨v,42,1,p,xs⟩)(hk:(k,Obj.cells #[.slice (some ⟨kr,0,none⟩) n n] 42 (0,0))∈L)(hp:p+1<=1000) :
 ∃g c V,(Builtin.append_ #[31,31] 31 #[v,.slice (some ⟨k,0,none⟩) 1 1]).run Try.prog w=.ok (.slice (some ⟨g,0,none⟩) (p+1) c) V/\Bs w0 X (O.set 1 ⟨.slice (some ⟨g,0,none⟩) (p+1) c,42,1,p+1,xs++[.slice (some ⟨kr,0,none⟩) n n]⟩) L V/\V.heap[X]?=xo:=by
 obtain⟨i42,i42h,i42z,i42s,i42b⟩:∃i,Try.prog.info? 42=some i/\i.zero=some (.slice none 0 0)/\i.size=1/\i.bytes=24:=⟨_,rfl,by kernel_rfl,by kernel_rfl,by kernel_rfl⟩
 obtain⟨g,c,V,h1,h2,h3⟩:=h.append (P:=Try.prog) hX (j:=1) hj 31 31 i42 _ 24 Try.underlying31 i42h i42z i42s i42b rfl (by simp) hk rfl (by intro u hu;simp at hu;subst hu;rfl) hp (by omega)
 exact⟨g,c,V,h1,h2,h3.trans hx⟩
theorem Bs.st(h:Bs w0 X O L w)(hX:X<w0.heap.size){qv bv mv:Value}(hx:w.heap[X]?=some (.cells #[.int .i64 n,qv,bv,mv] 33 (0,0))){gb cb gm cm:Nat}{rk:Nat->Nat}
 (hO:O=((mkO n bv mv p rk).set 0 ⟨.slice (some ⟨gb,0,none⟩) (p+1) cb,39,11,p+1,((List.range p).flatMap fun _=>z39.toList)++z39.toList⟩).set 1 ⟨.slice (some ⟨gm,0,none⟩) (p+1) cm,42,1,p+1,((List.range p).map fun i=>.slice (some ⟨rk i,0,none⟩) n n)++[.slice (some ⟨kr,0,none⟩) n n]⟩)
 (hL:∃R,L=mkL n p rk++R/\(kr,Obj.cells (nils n) 41 (0,0))∈R) :
 ∃V7 V8,(w.cell? ⟨X,2,none⟩=some bv/\w.frozen? ⟨X,2,none⟩=false)/\w.setCell ⟨X,2,none⟩ (.slice (some ⟨gb,0,none⟩) (p+1) cb)=V7/\(V7.cell? ⟨X,3,none⟩=some mv/\V7.frozen? ⟨X,3,none⟩=false)/\V7.setCell ⟨X,3,none⟩ (.slice (some ⟨gm,0,none⟩) (p+1) cm)=V8/\Mk w0 X n qv (p+1) V8:=by
 have h7:=h.setX hX 2 (.slice (some ⟨gb,0,none⟩) (p+1) cb)
 have x7:(w.setCell ⟨X,2,none⟩ (.slice (some ⟨gb,0,none⟩) (p+1) cb)).heap[X]?=some (.cells #[.int .i64 n,qv,.slice (some ⟨gb,0,none⟩) (p+1) cb,mv] 33 (0,0)):=by simp[World.setCell,yyu_,hx]
 have h8:=h7.setX hX 3 (.slice (some ⟨gm,0,none⟩) (p+1) cm)
 have x8:((w.setCell ⟨X,2,none⟩ (.slice (some ⟨gb,0,none⟩) (p+1) cb)).setCell ⟨X,3,none⟩ (.slice (some ⟨gm,0,none⟩) (p+1) cm)).heap[X]?=some (.cells #[.int .i64 n,qv,.slice (some ⟨gb,0,none⟩) (p+1) cb,.slice (some ⟨gm,0,none⟩) (p+1) cm] 33 (0,0)):=by
  generalize w.setCell ⟨X,2,none⟩ (.slice (some ⟨gb,0,none⟩) (p+1) cb)=V at x7
  simp[World.setCell,yyu_,x7]
 refine⟨_,_,⟨by simp[World.cell?,hx],by simp[World.frozen?,hx]⟩,rfl,⟨?_,?_⟩,rfl,kD_ h8 x8 hO hL⟩
 .simp only[World.cell?,x7];rfl
 .simp only[World.frozen?,x7];rfl
end
end
theorem mB_{α:Type}(L:List α):∀(p i j:Nat),i<p->j<L.length->((List.range p).flatMap fun _=>L)[i*L.length+j]?=L[j]?:=by
 intro p
 induction p with
 |zero=>intro i j hi;omega
 | succ p ih =>
   intro i j hi hj
   have hlen:((List.range p).flatMap fun _=>L).length=p*L.length:=by simp[List.length_flatMap,List.map_const']
   rw[yyv_,List.flatMap_append]
   by_cases h:i<p
   ·have:i*L.length+j<p*L.length:=by
     have:(i+1)*L.length<=p*L.length:=yyg_ _ h
     rw[yyn_]at this
     omega
    rw[zzo_ (by omega)]
    exact ih i j h hj
   .have e:i=p:=by omega
    subst e
    rw[zzv_ (by omega),hlen]
    simp
def tagF(n X bk mb:Nat)(rk:Nat->Nat)(k:Nat):Nat :=
 if k=X then 1 else if k=bk then 2 else if k=mb then 3 else match (List.range n).find? (fun i=>rk i==k) with|some i=>4+i|none=>0
def B0:Nat->QP.Bt:=fun _=>⟨0,0,0,0,0,⟨0,0⟩,false,false,[],[]⟩
def M0:Nat->Nat->QP.Ms:=fun _ _=>[]
theorem ih_{g1:Gh}{w1 w0 w:World}{X n:Nat}{Q:List Nat}{qv:Value}(h:Mk w0 X n qv n w)(hm:Md n Q)(hX:X=w1.heap.size)(hb:Below w1.heap.size w1 w0)(h0:w0.heap.size=w1.heap.size+1)(hq:Rep g1 w1 (.list 1 (iv (zi Q))) qv)(hlt:∀k,0<g1.I k->k<w1.heap.size) :
 ∃T hd,PNet T g1 w X n Q B0 M0 hd/\(∀k,k<w1.heap.size->T k=0)/\Below w1.heap.size w1 w:=by
 obtain⟨bv,mv,rk,hB,hx⟩:=h.ex
 have hn1:=hm.k1
 have ob:=hB.own _ (show _∈mkO n bv mv n rk from .head _)
 have om:=hB.own _ (show _∈mkO n bv mv n rk from .tail _ (.head _))
 obtain⟨b1,b2⟩:=ob
 obtain⟨m1,m2⟩:=om
 simp only at b1 b2 m1 m2
 rcases b2 with ⟨_,e⟩|⟨bk,bc,cb,rfl,bb,bh,bcn,bcm,bs,bt⟩
 .omega
 rcases m2 with ⟨_,e⟩|⟨mb,mc,cm,rfl,mm,mh,mcn,mcm,ms,mt⟩
 .omega
 have hrow:∀i,i<n->w0.heap.size<=rk i/\rk i<w.heap.size/\w.heap[rk i]?=some (.cells (nils n) 41 (0,0)):=fun i hi=>hB.loose (rk i,.cells (nils n) 41 (0,0)) (by simp[mkL];exact⟨i,hi,rfl⟩)
 have hinj:∀i j,i<n->j<n->rk i=rk j->i=j:=by
  have hp:=hB.ndL
  unfold mkL at hp
  rw[List.pairwise_map]at hp
  intro i j hi hj e
  rcases Nat.lt_trichotomy i j with h|h|h
  .have:=List.pairwise_iff_getElem.1 hp i j (by simpa using hi) (by simpa using hj) h
   simp at this
   omega
  .exact h
  .have:=List.pairwise_iff_getElem.1 hp j i (by simpa using hj) (by simpa using hi) h
   simp at this
   omega
 have hbr:∀i,i<n->rk i≠bk:=fun i hi e=>hB.ndOL _ (show _∈mkO n _ _ n rk from .head _) (rk i,.cells (nils n) 41 (0,0)) (by simp[mkL];exact⟨i,hi,rfl⟩) (by simp[Value.ownBlock,e])
 have hmr:∀i,i<n->rk i≠mb:=fun i hi e=>hB.ndOL _ (show _∈mkO n _ _ n rk from .tail _ (.head _)) (rk i,.cells (nils n) 41 (0,0)) (by simp[mkL];exact⟨i,hi,rfl⟩) (by simp[Value.ownBlock,e])
 have hbm:mb≠bk:=fun e=>by
  have:=hB.ndO 0 1 _ _ bk rfl rfl rfl (by simp[Value.ownBlock,e])
  omega
 have hXlt:X<w0.heap.size:=by omega
 have hT0:∀k,k<w1.heap.size->tagF n X bk mb rk k=0:=by
  intro k hk
  unfold tagF
  rw[if_neg (by omega),if_neg (by omega),if_neg (by omega)]
  cases e:(List.range n).find? (fun i=>rk i==k) with
  |none=>rfl
  | some i =>
    have h1:=List.find?_some e
    have h2:=List.mem_range.1 (List.mem_of_find?_eq_some e)
    have:=(hrow i h2).1
    simp at h1
    omega
 have hgb:∀k,k<w1.heap.size->w.heap[k]?=w1.heap[k]?:=fun k hk=>(hB.old k (by omega) (by omega)).trans (hb.block k hk)
 have hI:∀b o,o<g1.I b->o<g1.I b/\w.cell? ⟨b,o,none⟩=w1.cell? ⟨b,o,none⟩:=fun b o ho=>⟨ho,yyb_ (a:=⟨b,o,none⟩) (hgb b (hlt b (by omega)))⟩
 have hnil:∀z,Rep g1 w (.list z []) (.slice none 0 0):=fun z=>.list (fun _=>.slice none 0 0) (by simp) (by simp[maxLen]) (fun _=>rfl) (by simp) (by simp[flat]) (by simp[flat]) (by simp[flat])
 refine⟨tagF n X bk mb rk,⟨bk,bc,mb,mc,qv,rk,fun _=>n,fun _ _=>.slice none 0 0⟩,⟨hn1.2,fun k hk=>by have:=hlt k hk;have:=hB.size;omega,⟨?_,?_,?_,fun i hi=>?_,fun i j k _ _ hk=>by simp[rb]at hk⟩,fun k hk=>?_,hx,zu_ hq rfl hI,⟨bcn,bcm⟩,⟨mcn,mcm⟩,fun i _=>⟨zzl_ _,by simp[maxLen];omega⟩,⟨cb,bh,bs,fun i hi j u hu=>?_⟩,⟨cm,mh,fun i hi=>?_⟩,fun i hi=>⟨nils n,(hrow i hi).2.2,fun j hj=>by simp[nils,hj]⟩,fun i j _ _=>.inl ⟨rfl,none,rfl⟩⟩,hT0,⟨hB.os.trans hb.os,hB.tape.trans hb.tape,hB.output.trans hb.output,by have:=hB.size;have:=hb.size;omega,hgb⟩⟩
 .simp[tagF]
 .show tagF n X bk mb rk bk=2
  unfold tagF
  rw[if_neg (by omega),if_pos rfl]
 .show tagF n X bk mb rk mb=3
  unfold tagF
  rw[if_neg (by omega),if_neg hbm,if_pos rfl]
 .show tagF n X bk mb rk (rk i)=4+i
  have:=(hrow i hi).1
  unfold tagF
  rw[if_neg (by omega),if_neg (hbr i hi),if_neg (hmr i hi)]
  cases e:(List.range n).find? (fun a=>rk a==rk i) with
  | none =>
    have:=List.find?_eq_none.1 e i (List.mem_range.2 hi)
    simp at this
  | some a =>
    have h1:=List.find?_some e
    have h2:=List.mem_range.1 (List.mem_of_find?_eq_some e)
    simp at h1
    rw[hinj a i h2 hi h1]
 .have hk1:¬k<w1.heap.size:=fun h=>hk (hT0 k h)
  refine⟨?_,?_⟩
  .unfold tagF at hk
   split at hk
   .next e=>rw[e];exact zzk_ hXlt hB.size
   .split at hk
    .next e=>rw[e];exact(zzm_.1 bh).1
    .split at hk
     .next e=>rw[e];exact(zzm_.1 mh).1
     .split at hk
      .next i e =>
       have h1:=List.find?_some e
       have h2:=List.mem_range.1 (List.mem_of_find?_eq_some e)
       simp at h1
       rw[<-h1]
       exact(hrow i h2).2.1
      .exact absurd rfl hk
  .by_cases h:0<g1.I k
   .exact absurd (hlt k h) hk1
   .omega
 ·have hj:j<11:=by
   have:=(zzc_.1 hu).1
   simpa[Bl.cs] using this
  have hz:z39.toList.length=11:=rfl
  have h1:=mB_ z39.toList n i j hi (by rw[hz];exact hj)
  rw[hz,<-bt,zzu_,if_pos (by omega),Array.getElem?_toList]at h1
  match j,hj,hu with
  |0,_,hu=>cases hu;exact⟨_,h1.trans rfl,rfl,.s rfl⟩
  |1,_,hu=>cases hu;exact⟨_,h1.trans rfl,rfl,.s rfl⟩
  |2,_,hu=>cases hu;exact⟨_,h1.trans rfl,rfl,.s rfl⟩
  |3,_,hu=>cases hu;exact⟨_,h1.trans rfl,rfl,.s rfl⟩
  |4,_,hu=>cases hu;exact⟨_,h1.trans rfl,rfl,.s rfl⟩
  |5,_,hu=>cases hu;exact⟨_,h1.trans rfl,rfl,.s rfl⟩
  |6,_,hu=>cases hu;exact⟨_,h1.trans rfl,rfl,.s rfl⟩
  |7,_,hu=>cases hu;exact⟨_,h1.trans rfl,rfl,.s rfl⟩
  |8,_,hu=>cases hu;exact⟨_,h1.trans rfl,rfl,hnil _⟩
  |9,_,hu=>cases hu;exact⟨_,h1.trans rfl,rfl,hnil _⟩
  |10,_,hu=>cases hu;exact⟨_,h1.trans rfl,rfl,.s rfl⟩
 .have h1:((List.range n).map fun i=>Value.slice (some ⟨rk i,0,none⟩) n n)[i]?=some (.slice (some ⟨rk i,0,none⟩) n n):=by simp[hi]
  rw[<-mt,zzu_,if_pos (by omega),Array.getElem?_toList]at h1
  exact h1
structure Tp(g:Gh)(w:World)(K:Nat)(xs:List Int)(k:Nat):Prop where
 ex:∃lv ty,w.heap[K]?=some (.cells #[lv,.int .i64 k] ty (0,0))/\Rep g w (.list 1 (iv xs)) lv
 Ilt:∀b,0<g.I b->b<w.heap.size
 IK:g.I K=0
structure Kt(K:Nat)(g:Gh)(w:World)(g':Gh)(w':World):Prop where
 os:w'.os=w.os
 tape:w'.tape=w.tape
 output:w'.output=w.output
 size:w.heap.size<=w'.heap.size
 fr:∀k,k<w.heap.size->k≠K->w'.heap[k]?=w.heap[k]?
 same:∀k,k<w.heap.size->g'.I k=g.I k
theorem p1_{g:Gh}{w:World}{K:Nat}{xs:List Int}{k:Nat}(h:Tp g w K xs k)(hk:k<=1000)(hx:xs.length<=1000):Calls Try.prog 28 #[.pointer (some ⟨K,0,none⟩)] w fun e w'=>e=.returned (.bool (decide (k<xs.length)))/\Below w.heap.size w w':=by
 obtain⟨lv,ty,h1,h2⟩:=h.ex
 obtain⟨A,c,rfl,hc1,hc2,_⟩:=xB_ h2
 have c0:w.cell? ⟨K,0,none⟩=some (.slice A xs.length c):=by simp[World.cell?,h1]
 have c1:w.cell? ⟨K,1,none⟩=some (.int .i64 k):=by simp[World.cell?,h1]
 have hd:decide ((k:Int)<(xs.length:Int))=decide (k<xs.length):=by
  rw[yyt_];simp
 clear h h1 h2
 go_enter Try.func28,Try.ntmps28
 go_wp2
 go_region
 go_wp2
 go_ret
 exact⟨by first|rfl|(rw[hd];rfl),⟨rfl,rfl,rfl,zzl_ _,fun _ _=>rfl⟩⟩
theorem p0_{g:Gh}{w:World}{K:Nat}{xs:List Int}{k:Nat}(h:Tp g w K xs k)(hk:k<=1000)(hx:xs.length<=1000){m:Int}(hm:1<=m)(hm2:m<=1000000):Calls Try.prog 30 #[.pointer (some ⟨K,0,none⟩),.int .i64 m] w fun e w'=>∃g',e=.returned (.int .i64 (nx xs k m))/\Tp g' w' K xs (nat1 xs k)/\Kt K g w g' w':=by
 obtain⟨lv,ty,h1,h2⟩:=h.ex
 obtain⟨A,c,rfl,hc1,hc2,hcell⟩:=xB_ h2
 have c0:w.cell? ⟨K,0,none⟩=some (.slice A xs.length c):=by simp[World.cell?,h1]
 have c1:w.cell? ⟨K,1,none⟩=some (.int .i64 k):=by simp[World.cell?,h1]
 have cf:w.frozen? ⟨K,1,none⟩=false:=by simp[World.frozen?,h1]
 have HT:=Lib.hid h
 have H1:=Lib.hid h1
 have H2:=Lib.hid h2
 by_cases hlt:k<xs.length
 .have hg:¬(k:Int)>=(xs.length:Int):=by omega
  obtain⟨b,o,rfl,hbI,hcb⟩:=hcell k hlt
  have w1:IntKind.i64.wrap ((k:Int)+1)=(k:Int)+1:=by rw[yye_];omega
  have w2:IntKind.i64.wrap ((k:Int)+1-1)=(k:Int):=by rw[yye_];omega
  have w3:(k:Int)+1-1=k:=by omega
  have w4:IntKind.i64.wrap (k:Int)=(k:Int):=by rw[yye_];omega
  have hkz:(k:Int)<xs.length:=by omega
  have hbK:b≠K:=by rintro rfl;have:=h.IK;omega
  have h1d:w.drew.heap[K]?=some (.cells #[.slice (some ⟨b,o,none⟩) xs.length c,.int .i64 k] ty (0,0)):=h1
  obtain⟨W,hW⟩:∃W,w.drew.setCell ⟨K,1,none⟩ (.int .i64 ((k:Int)+1))=W:=⟨_,rfl⟩
  have k0:W.heap[K]?=some (.cells #[.slice (some ⟨b,o,none⟩) xs.length c,.int .i64 ((k:Int)+1)] ty (0,0)):=by rw[<-hW];simp[World.setCell,yyu_,h1d]
  have kf:∀j,j≠K->W.heap[j]?=w.heap[j]?:=fun j hj=>by
   show _=w.drew.heap[j]?
   rw[<-hW];simp[World.setCell,yyu_,Ne.symm hj]
  have ks:W.heap.size=w.heap.size:=by
   show _=w.drew.heap.size
   rw[<-hW];simp[World.setCell]
  have ko:W.os=w.os/\W.tape=w.tape/\W.output=w.output:=by rw[<-hW];exact⟨rfl,rfl,rfl⟩
  have d0:W.cell? ⟨K,0,none⟩=some (.slice (some ⟨b,o,none⟩) xs.length c):=by simp[World.cell?,k0]
  have d1:W.cell? ⟨K,1,none⟩=some (.int .i64 ((k:Int)+1)):=by simp[World.cell?,k0]
  have d2:W.cell? ⟨b,o+k,none⟩=some (.int .i64 xs[k]):=(yyb_ (a:=⟨b,o+k,none⟩) (kf b hbK)).trans hcb
  have hcall:∀wx:World,W.heap.size<=wx.heap.size->Calls Try.prog 10 #[.int .i64 xs[k],.int .i64 m] wx fun e w'=>e=.returned (.int .i64 (xs[k]%m))/\Below wx.heap.size wx w':=by
   intro wx hwx
   refine(xk_ (nA_ xs[k] m hm (by omega)) (g:=g) (w:=wx) (vals:=#[.int .i64 xs[k],.int .i64 m]) rfl ?_ ?_ fun b' hb'=>?_).mono ?_
   .intro x hx'
    simp at hx'
    rcases hx' with rfl|rfl<;>rfl
   .intro i x v hx' hv
    match i,hx',hv with
    |0,hx',hv=>cases hx';cases hv;exact .s rfl
    |1,hx',hv=>cases hx';cases hv;exact .s rfl
   .have:=h.Ilt b' hb'
    omega
   .rintro e w' ⟨v,r,g',rfl,rfl,hr,hb',_⟩
    have:=hr.of_s rfl
    subst this
    exact⟨rfl,hb'⟩
  have HC:=Lib.hid hcall
  clear h h1 h2 hcell hcall
  have e0:w.drew.cell? ⟨K,0,none⟩=some (.slice (some ⟨b,o,none⟩) xs.length c):=c0
  have e1:w.drew.cell? ⟨K,1,none⟩=some (.int .i64 k):=c1
  have ef:w.drew.frozen? ⟨K,1,none⟩=false:=cf
  go_enter Try.func30,Try.ntmps30
  go_wp2
  go_region
  go_wp2
  have hKl:K<W.heap.size:=(zzm_.1 k0).1
  have hbl:b<W.heap.size:=by rw[ks];exact HT.out.Ilt b hbI
  have hS:∀wx,Below W.heap.size W wx->wx.cell? ⟨K,0,none⟩=some (.slice (some ⟨b,o,none⟩) xs.length c)/\wx.cell? ⟨K,1,none⟩=some (.int .i64 ((k:Int)+1))/\wx.cell? ⟨b,o+k,none⟩=some (.int .i64 xs[k]):=fun wx hb=>⟨z0_ hb d0 hKl,z0_ hb d1 hKl,z0_ hb d2 hbl⟩
  have hB1:Below W.heap.size W W.drew:=⟨rfl,rfl,rfl,zzl_ _,fun _ _=>rfl⟩
  have HS:=Lib.hid hS
  clear hS
  go_region_held3 (fun wx=>wx.cell? ⟨K,0,none⟩=some (.slice (some ⟨b,o,none⟩) xs.length c)/\wx.cell? ⟨K,1,none⟩=some (.int .i64 ((k:Int)+1))/\wx.cell? ⟨b,o+k,none⟩=some (.int .i64 xs[k]))
   ((refine HS.out _ ?_;assumption))
   (first
   | (go_at_call 10
      refine(HC.out W.drew (zzl_ _)).mono ?_
      rintro e w2 ⟨rfl,hb2⟩
      have hB2:Below W.heap.size W w2:=hB1.trans hb2))
  all_goals go_wp2
  all_goals go_ret
  all_goals
   have hnx:nx xs k m=xs[k]%m:=by simp[nx,hlt]
   have hn1:nat1 xs k=k+1:=by simp[nat1,hlt]
   have hfr:∀j,j<w.heap.size->j≠K->w2.heap[j]?=w.heap[j]?:=fun j hj hne=>(hB2.block j (by omega)).trans (kf j hne)
   refine⟨g,by rw[hnx];rfl,⟨⟨.slice (some ⟨b,o,none⟩) xs.length c,ty,?_,?_⟩,fun b' hb'=>?_,HT.out.IK⟩,⟨hB2.os.trans ko.1,hB2.tape.trans ko.2.1,hB2.output.trans ko.2.2,by have:=hB2.size;omega,hfr,fun _ _=>rfl⟩⟩
   .rw[hB2.block K hKl,k0,hn1];rfl
   .refine zu_ H2.out rfl fun b' o' ho=>⟨ho,yyb_ (a:=⟨b',o',none⟩) (hfr b' (HT.out.Ilt b' (by omega)) ?_)⟩
    rintro rfl
    have:=HT.out.IK
    omega
   .have:=HT.out.Ilt b' hb'
    have:=hB2.size
    omega
 .have hg:(k:Int)>=(xs.length:Int):=by omega
  clear h h1 h2 hcell
  go_enter Try.func30,Try.ntmps30
  go_wp2
  go_region
  go_wp2
  go_ret
  have hnx:nx xs k m=0:=by simp[nx,hlt]
  have hn1:nat1 xs k=k:=by simp[nat1,hlt]
  refine⟨g,by rw[hnx];rfl,⟨⟨_,ty,by rw[hn1];exact H1.out,zu_ H2.out rfl fun b' o' ho=>⟨ho,rfl⟩⟩,HT.out.Ilt,HT.out.IK⟩,⟨rfl,rfl,rfl,zzl_ _,fun _ _ _=>rfl,fun _ _=>rfl⟩⟩
section
theorem Net.other{T:Nat->Nat}{g g':Gh}{w w':World}{X n K:Nat}{q:List Int}{B:Nat->Bl}{M:Nat->Nat->List Vt}{h:Hd}(hn:Net T g w X n q B M h)(hT:T K=0)(hK:g.I K=0)(hs:w.heap.size<=w'.heap.size)(hb:∀k,k<w.heap.size->k≠K->w'.heap[k]?=w.heap[k]?)(hg:∀k,k<w.heap.size->g'.I k=g.I k)(hlt:∀k,0<g'.I k->k<w'.heap.size):Net T g' w' X n q B M h:=by
 have hTK:∀k,T k≠0->k≠K:=fun k h0 e=>h0 (e ▸ hT)
 have hI:∀b o,o<g.I b->o<g'.I b/\w'.cell? ⟨b,o,none⟩=w.cell? ⟨b,o,none⟩:=fun b o ho=>by
  have hl:=hn.Ilt b (by omega)
  exact⟨by rw[hg b hl];exact ho,yyb_ (a:=⟨b,o,none⟩) (hb b hl (by rintro rfl;omega))⟩
 have hTb:∀k,T k≠0->w'.heap[k]?=w.heap[k]?:=fun k hk=>hb k (hn.tz k hk).1 (hTK k hk)
 refine⟨hn.n9,hlt,hn.tag,fun k hk=>⟨zzk_ (hn.tz k hk).1 hs,by rw[hg k (hn.tz k hk).1];exact(hn.tz k hk).2⟩,(hTb X (by rw[hn.tag.x];omega)).trans hn.hX,zu_ hn.hq rfl hI,hn.bcn,hn.mcn,hn.rcn,?_,?_,fun i hi=>?_,fun i j hi hj=>?_⟩
 .obtain⟨cur,h1,h2,h3⟩:=hn.bb
  refine⟨cur,(hTb _ (by rw[hn.tag.b];omega)).trans h1,h2,fun i hi j u hu=>?_⟩
  obtain⟨c,q1,q2,q3⟩:=h3 i hi j u hu
  exact⟨c,q1,q2,zu_ q3 (wc_ _ u (zzd_ hu)) hI⟩
 .obtain⟨cur,h1,h2⟩:=hn.mm
  exact⟨cur,(hTb _ (by rw[hn.tag.m];omega)).trans h1,h2⟩
 .obtain⟨cur,h1,h2⟩:=hn.rr i hi
  exact⟨cur,(hTb _ (by rw[hn.tag.r i hi];omega)).trans h1,h2⟩
 .exact(hn.vv i j hi hj).keep fun k hk=>hTb k (by rw[hn.tag.v i j k hi hj hk];omega)
structure Pl(g:Gh)(w:World)(K X n:Nat)(Q:List Nat)(xs:List Int)(k j:Nat)(B:Nat->QP.Bt)(M:Nat->Nat->QP.Ms)(T:Nat->Nat)(g':Gh)(h:Hd)(w':World):Prop where
 net:PNet T g' w' X n Q B M h
 tp:Tp g' w' K xs k
 TK:T K=0
 Kl:w.heap.size<=K/\K<w'.heap.size
 below:Below w.heap.size w w'
 T0:∀b,b<w.heap.size->T b=0
 same:∀b,b<w.heap.size->g'.I b=g.I b
 rch:QP.Rch n Q j B M
section
variable{g:Gh}{w:World}{K X n:Nat}{Q:List Nat}{xs:List Int}{k j:Nat}{B:Nat->QP.Bt}{M:Nat->Nat->QP.Ms}{T:Nat->Nat}{g':Gh}{h:Hd}{w':World}
theorem Pl.net_kt(hp:Pl g w K X n Q xs k j B M T g' h w'){g2:Gh}{w2:World}{k2:Nat}(ht:Tp g2 w2 K xs k2)(hk:Kt K g' w' g2 w2) :
 PNet T g2 w2 X n Q B M h/\Below w.heap.size w w2/\(∀b,b<w.heap.size->g2.I b=g.I b)/\K<w2.heap.size:=by
 have s1:=hp.below.size
 have s2:=hk.size
 refine⟨hp.net.other hp.TK hp.tp.IK hk.size hk.fr hk.same ht.Ilt,hp.below.trans ⟨hk.os,hk.tape,hk.output,hk.size,fun b hb=>hk.fr b (by omega) (by have:=hp.Kl.1;omega)⟩,fun b hb=>(hk.same b (by omega)).trans (hp.same b hb),by have:=hp.Kl.2;omega⟩
theorem Tp.kp(ht:Tp g' w' K xs k)(hK:K<w'.heap.size)(hTK:T K=0)(hg:∀b,0<g'.I b->T b=0){T2:Nat->Nat}{g2:Gh}{w2:World}(hk:Kp T g' w' T2 g2 w2)(hlt:∀b,0<g2.I b->b<w2.heap.size):Tp g2 w2 K xs k:=by
 obtain⟨lv,ty,h1,h2⟩:=ht.ex
 refine⟨⟨lv,ty,(hk.fr K hK hTK).2.trans h1,zu_ h2 rfl fun b o ho=>?_⟩,hlt,(hk.same K hK).trans ht.IK⟩
 have hb:=ht.Ilt b (by omega)
 exact⟨by rw[hk.same b hb];exact ho,yyb_ (a:=⟨b,o,none⟩) (hk.fr b hb (hg b (by omega))).2⟩
end
theorem sG_(B:Nat->Bl):∀m,(∀i,i<m->(B i).using'=false)->cntU B m=0
 |0,_=>rfl
 |m+1,h=>by simp[cntU,sG_ B m fun i hi=>h i (by omega),h m (by omega)]
theorem qx_(B:Nat->Bl):∀m,(∀i k,i<m->k<m->(B i).using'=true->(B k).using'=true->i=k)->cntU B m<=1
 |0,_=>by simp[cntU]
 | m + 1, h => by
   cases hu:(B m).using' with
   |false=>simp[cntU,hu];exact qx_ B m fun i k hi hk=>h i k (by omega) (by omega)
   | true =>
     have:=sG_ B m fun i hi=>by
      cases e:(B i).using' with
      |false=>rfl
      |true=>have:=h i m (by omega) (by omega) e hu;omega
     simp[cntU,hu,this]
theorem kI_{n:Nat}{Q:List Nat}(hm:Md n Q):∀p∈Q,∀q∈Q,∃v,v<n/\p.testBit v=true/\q.testBit v=true:=by
 intro p hp q hq
 have h0:=hm.cot.meet p hp q hq
 obtain⟨v,hv⟩:=Nat.exists_testBit_of_ne_zero h0
 rw[Nat.testBit_and,zzg_]at hv
 refine⟨v,?_,hv.1,hv.2⟩
 rcases yym_ v n with h|h
 .exact h
 .have:=Nat.testBit_lt_two_pow (zzk_ (hm.cot.rng p hp).2 (yyf_ (by omega) h))
  rw[this]at hv
  exact absurd hv.1 (by simp)
theorem mM_{n:Nat}{Q:List Nat}{Tm:Nat}{B:Nat->QP.Bt}{M:Nat->Nat->QP.Ms}(h:QP.NInv n Q Tm B M)(hm:Md n Q):cntU (fun k=>toBl (B k)) n<=1 :=
 qx_ _ n fun _ _ hi hk ui uk=>h.alone (kI_ hm) hi hk ui uk
theorem qe_{n:Nat}{Q:List Nat}(hm:Md n Q):∀q∈Q,q≠0:=fun q hq=>by have:=(hm.cot.rng q hq).1;omega
section
variable{g:Gh}{w:World}{K X n:Nat}{Q:List Nat}{xs:List Int}{k j:Nat}{B:Nat->QP.Bt}{M:Nat->Nat->QP.Ms}{T:Nat->Nat}{g':Gh}{h:Hd}{w':World}
theorem Pl.free(hp:Pl g w K X n Q xs k j B M T g' h w'):∀b,0<g'.I b->T b=0:=fun b hb=>by
 by_cases h0:T b=0
 .exact h0
 .have:=(hp.net.tz b h0).2;omega
theorem Pl.next(hp:Pl g w K X n Q xs k j B M T g' h w')(hk:k<=1000)(hx:xs.length<=1000){m:Int}(hm:1<=m)(hm2:m<=1000000) :
 Calls Try.prog 30 #[.pointer (some ⟨K,0,none⟩),.int .i64 m] w' fun e w2=>∃g2,e=.returned (.int .i64 (nx xs k m))/\Pl g w K X n Q xs (nat1 xs k) j B M T g2 h w2:=by
 refine(p0_ hp.tp hk hx hm hm2).mono ?_
 rintro e w2 ⟨g2,rfl,ht,hkt⟩
 obtain⟨a1,a2,a3,a4⟩:=hp.net_kt ht hkt
 exact⟨g2,rfl,a1,ht,hp.TK,⟨hp.Kl.1,a4⟩,a2,hp.T0,a3,hp.rch⟩
theorem Pl.bel(hp:Pl g w K X n Q xs k j B M T g' h w'){w2:World}(hb:Below w'.heap.size w' w2):Pl g w K X n Q xs k j B M T g' h w2:=by
 obtain⟨lv,ty,h1,h2⟩:=hp.tp.ex
 refine⟨hp.net.below hb,⟨⟨lv,ty,(hb.block K hp.Kl.2).trans h1,zu_ h2 rfl (hp.net.keepI hb)⟩,fun b hb'=>zzk_ (hp.tp.Ilt b hb') hb.size,hp.tp.IK⟩,hp.TK,⟨hp.Kl.1,zzk_ hp.Kl.2 hb.size⟩,hp.below.trans (Below.mono1 hb hp.below.size),hp.T0,hp.same,hp.rch⟩
theorem Pl.more(hp:Pl g w K X n Q xs k j B M T g' h w')(hk:k<=1000)(hx:xs.length<=1000) :
 Calls Try.prog 28 #[.pointer (some ⟨K,0,none⟩)] w' fun e w2=>e=.returned (.bool (decide (k<xs.length)))/\Pl g w K X n Q xs k j B M T g' h w2:=by
 refine(p1_ hp.tp hk hx).mono ?_
 rintro e w2 ⟨rfl,hb⟩
 exact⟨rfl,hp.bel hb⟩
theorem Pl.alone(hp:Pl g w K X n Q xs k j B M T g' h w')(hm:Md n Q) :
 Calls Try.prog 13 #[.pointer (some ⟨X,0,none⟩)] w' fun e w2=>e=.returned (.bool true)/\Pl g w K X n Q xs k j B M T g' h w2:=by
 refine(rw_ hp.net).mono ?_
 rintro e w2 ⟨rfl,hb⟩
 exact⟨by rw[decide_eq_true (mM_ (hp.rch.inv (qe_ hm)) hm)],hp.bel hb⟩
theorem Pl.kp(hp:Pl g w K X n Q xs k j B M T g' h w'){j2:Nat}{B2:Nat->QP.Bt}{M2:Nat->Nat->QP.Ms}{T2:Nat->Nat}{g2:Gh}{h2:Hd}{w2:World}(hn:PNet T2 g2 w2 X n Q B2 M2 h2)(hk:Kp T g' w' T2 g2 w2)(hr:QP.Rch n Q j2 B2 M2):Pl g w K X n Q xs k j2 B2 M2 T2 g2 h2 w2:=by
 have s1:=hp.below.size
 have s2:=hk.size
 refine⟨hn,hp.tp.kp hp.Kl.2 hp.TK hp.free hk hn.Ilt,(hk.fr K hp.Kl.2 hp.TK).1,⟨hp.Kl.1,by have:=hp.Kl.2;omega⟩,hp.below.trans ⟨hk.os,hk.tape,hk.output,hk.size,fun b hb=>(hk.fr b (by omega) (hp.T0 b hb)).2⟩,fun b hb=>(hk.fr b (by omega) (hp.T0 b hb)).1,fun b hb=>(hk.same b (by omega)).trans (hp.same b hb),hr⟩
theorem Pl.step(hp:Pl g w K X n Q xs k j B M T g' h w')(hm:Md n Q)(hQ:0<Q.length)(hj:j<=1000){c a b:Nat}(hc:c<8)(ha:a<1000)(hb:b<1000) :
 Calls Try.prog 29 #[.pointer (some ⟨X,0,none⟩),.int .i64 c,.int .i64 a,.int .i64 b] w' fun e w2=>∃B2 M2 T2 g2 h2,e=.returned (.bool true)/\Pl g w K X n Q xs k (j+1) B2 M2 T2 g2 h2 w2:=by
 have h9:=hm.k1.2
 refine(lZ_ hp.net hm (hp.rch.inv (qe_ hm)) (by omega) (hp.rch.len (qe_ hm)) ?_ hc ha hb hQ).mono ?_
 .have:j*(n+2)<=1000*11:=Nat.mul_le_mul hj (by omega)
  omega
 .rintro e w2 ⟨T2,g2,h2,B2,M2,rfl,hn2,hk,hs⟩
  exact⟨B2,M2,T2,g2,h2,rfl,hp.kp hn2 hk (.step hp.rch hs)⟩
end
theorem oy_(xs:List Int)(k:Nat){m:Nat}(hm:0<m):∃c:Nat,nx xs k m=c/\c<m:=by
 have:=hr_ xs k (m:=m) (by omega)
 exact⟨(nx xs k m).toNat,by omega,by omega⟩
end
theorem if_{l:List Int}{k j:Nat}(hm:k<l.length)(hj:3*j<=k):3*(j+1)<=nat1 l (nat1 l (nat1 l k))\/(nat1 l (nat1 l (nat1 l k))=l.length/\3*(j+1)<=nat1 l (nat1 l (nat1 l k))+2):=by
 have e:∀m,nat1 l m=if m<l.length then m+1 else m:=fun _=>rfl
 have e1:nat1 l k=k+1:=by rw[e,if_pos hm]
 rw[e1]
 by_cases h1:k+1<l.length
 .have e2:nat1 l (k+1)=k+2:=by rw[e,if_pos h1]
  rw[e2]
  by_cases h2:k+2<l.length
  .rw[e,if_pos h2];omega
  .rw[e,if_neg h2];omega
 .have e2:nat1 l (k+1)=k+1:=by rw[e,if_neg h1]
  rw[e2,e2];omega
theorem kv_{g:Gh}{w:World}(hlt:∀k,0<g.I k->k<w.heap.size){l:List Int}{lv:Value}(hlv:Rep g w (.list 1 (iv l)) lv)(hl:l.length<=400)(nn:Int):Calls Try.prog 9 #[lv,.int .i64 nn] w fun e w' =>
 ∃X n Q K j B M T g' h,e=.returned (.tuple #[.pointer (some ⟨X,0,none⟩),.bool true])/\Md n Q/\Sm n Q/\j<=134/\Pl g w K X n Q l l.length j B M T g' h w':=by
 have mx:=zp_
 obtain⟨LA,LC,rfl,hlc1,hlc2,_⟩:=xB_ hlv
 have hcot:=ug_ hlt nn
 have HLV:=Lib.hid hlv
 have HC:=Lib.hid hcot
 clear hcot
 go_enter Try.func9,Try.ntmps9
 go_wp2_with ((go_at_call 27
               refine HC.out.mono ?_
               rintro e w1 ⟨n,Q,QA,QC,g1,rfl,hk⟩
               have HK:=Lib.hid hk
               clear hk))
 obtain⟨w0,hw0⟩:∃w0,w0=w1.alloc (.cells #[.int .i64 n,.slice QA Q.length QC,.slice none 0 0,.slice none 0 0] 33):=⟨_,rfl⟩
 obtain⟨X,hX⟩:∃X,X=w1.heap.size:=⟨_,rfl⟩
 rw[<-hw0,<-hX]
 have hXl:X<w0.heap.size:=by rw[hw0,hX];simp
 have hXb:w0.heap[X]?=some (.cells #[.int .i64 n,.slice QA Q.length QC,.slice none 0 0,.slice none 0 0] 33 (0,0)):=by rw[hw0,hX];exact heap_alloc_new w1 _
 have hB0:Below w1.heap.size w1 w0:=by rw[hw0];exact zK_ w1 _
 have hmk:Mk w0 X n (.slice QA Q.length QC) 0 w0:=by
  refine⟨.slice none 0 0,.slice none 0 0,fun _=>0,⟨rfl,rfl,rfl,zzl_ _,fun _ _ _=>rfl,fun r hr=>?_,fun q hq=>by simp[mkL]at hq,fun i j r s k hi hj h1 _=>?_,by simp[mkL],fun r _ q hq=>by simp[mkL]at hq⟩,hXb⟩
  .simp[mkO]at hr
   rcases hr with rfl|rfl<;>exact World.ownsRow_nil ..
  .have:=zzd_ hi
   simp[mkO]at this
   rcases this with rfl|rfl<;>simp[Value.ownBlock]at h1
 have HMK:=Lib.hid hmk
 have h01:w0.heap.size=w1.heap.size+1:=by rw[hw0];simp
 have HB:=Lib.hid (And.intro hX (And.intro hB0 h01))
 clear hmk hX hB0 hw0 hXb h01
 go_loopg [7] n (fun kx s7 wr=>∃p:Nat,s7=.int .i64 p/\p+kx=n/\Mk w0 X n (.slice QA Q.length QC) p wr)
 case atStart=>exact⟨0,rfl,by omega,HMK.out⟩
 case round =>
  obtain⟨p,rfl,hp,hI⟩:=hrel
  obtain⟨bv,mv,rk,hBs,hXc⟩:=hI.ex
  have hn9:n<=9:=HK.out.1.k1.2
  have x0:wr.cell? ⟨X,0,none⟩=some (.int .i64 n):=by simp[World.cell?,hXc]
  have x2:wr.cell? ⟨X,2,none⟩=some bv:=by simp[World.cell?,hXc]
  have x3:wr.cell? ⟨X,3,none⟩=some mv:=by simp[World.cell?,hXc]
  have HP:=Lib.hid hp
  have HBs:=Lib.hid hBs
  have HXc:=Lib.hid hXc
  clear hI hBs hXc hp
  by_cases hm:p<n
  .have hpz:(p:Int)<(n:Int):=by omega
   go_wp2
   refine vb_ (fun wx=>wx.cell? ⟨X,0,none⟩=some (.int .i64 n)/\wx.cell? ⟨X,2,none⟩=some bv/\wx.cell? ⟨X,3,none⟩=some mv) 23 (by kernel_rfl) ?_
   have s0:wr.drew.cell? ⟨X,0,none⟩=some (.int .i64 n)/\wr.drew.cell? ⟨X,2,none⟩=some bv/\wr.drew.cell? ⟨X,3,none⟩=some mv:=⟨x0,x2,x3⟩
   have b0:=HBs.out.drew
   clear x0 x2 x3
   have x0:wr.drew.heap[X]?=some (.cells #[.int .i64 n,.slice QA Q.length QC,bv,mv] 33 (0,0)):=HXc.out
   have hSof:∀Y:World,Y.heap[X]?=some (.cells #[.int .i64 n,.slice QA Q.length QC,bv,mv] 33 (0,0))->Y.cell? ⟨X,0,none⟩=some (.int .i64 n)/\Y.cell? ⟨X,2,none⟩=some bv/\Y.cell? ⟨X,3,none⟩=some mv:=fun Y hY=>by simp[World.cell?,hY]
   have hp1:p+1<=1000:=by omega
   have hwp:IntKind.i64.wrap ((p:Int)+1)=(p:Int)+1:=by rw[yye_];omega
   generalize wr.drew=V0 at b0 x0 s0 ⊢
   have b:=b0
   have x:=x0
   have s:=s0
   clear b0 x0 s0
   refine zR_ (i:=0) (v:=?_) rfl (by kernel_rfl) (fun _ _ _ h=>h) (by kernel_rfl) ?_ (fun _=>s) ?_
   rotate_left
   ·(intro w9;go_simp;first|done|with_reducible rfl)
   try simp only[Act.put,zze_,zzi_,zzj_]
   refine zR_ (i:=1) (v:=?_) rfl (by kernel_rfl) (fun _ _ _ h=>h) (by kernel_rfl) ?_ (fun _=>s) ?_
   rotate_left
   ·(intro w9;go_simp;first|done|with_reducible rfl)
   try simp only[Act.put,zze_,zzi_,zzj_]
   refine zR_ (i:=2) (v:=?_) rfl (by kernel_rfl) (fun _ _ _ h=>h) (by kernel_rfl) ?_ (fun _=>s) ?_
   rotate_left
   ·(intro w9;go_simp;first|done|with_reducible rfl)
   try simp only[Act.put,zze_,zzi_,zzj_]
   refine zR_ (i:=3) (v:=?_) rfl (by kernel_rfl) (fun _ _ _ h=>h) (by kernel_rfl) ?_ (fun _=>s) ?_
   rotate_left
   ·(intro w9;go_simp;first|done|with_reducible rfl)
   try simp only[Act.put,zze_,zzi_,zzj_]
   refine zR_ (i:=4) (v:=?_) rfl (by kernel_rfl) (fun _ _ _ h=>h) (by kernel_rfl) ?_ (fun _=>s) ?_
   rotate_left
   ·(intro w9;go_simp;first|done|with_reducible rfl)
   try simp only[Act.put,zze_,zzi_,zzj_]
   refine xJ_ (i:=5) (v:=?_) rfl (by kernel_rfl) (by kernel_rfl) (fun _ _ _ h=>h) (by kernel_rfl) ?_ (fun _=>s) ?_
   rotate_left
   ·(intro w9 hSw;(try dsimp only at hSw);go_simp;first|done|with_reducible rfl)
   try simp only[Act.put,zze_,zzi_,zzj_]
   refine zR_ (i:=9) (v:=?_) rfl (by kernel_rfl) (fun _ _ _ h=>h) (by kernel_rfl) ?_ (fun _=>s) ?_
   rotate_left
   ·(intro w9;go_simp;first|done|with_reducible rfl)
   try simp only[Act.put,zze_,zzi_,zzj_]
   refine zR_ (i:=10) (v:=?_) rfl (by kernel_rfl) (fun _ _ _ h=>h) (by kernel_rfl) ?_ (fun _=>s) ?_
   rotate_left
   ·(intro w9;go_simp;first|done|with_reducible rfl)
   try simp only[Act.put,zze_,zzi_,zzj_]
   refine zR_ (i:=11) (v:=?_) rfl (by kernel_rfl) (fun _ _ _ h=>h) (by kernel_rfl) ?_ (fun _=>s) ?_
   rotate_left
   ·(intro w9;go_simp;first|done|with_reducible rfl)
   try simp only[Act.put,zze_,zzi_,zzj_]
   refine xJ_ (i:=12) (v:=?_) rfl (by kernel_rfl) (by kernel_rfl) (fun _ _ _ h=>h) (by kernel_rfl) ?_ (fun _=>s) ?_
   rotate_left
   ·(intro w9 hSw;(try dsimp only at hSw);go_simp;first|done|with_reducible rfl)
   try simp only[Act.put,zze_,zzi_,zzj_]
   refine zR_ (i:=13) (v:=?_) rfl (by kernel_rfl) (fun _ _ _ h=>h) (by kernel_rfl) ?_ (fun _=>s) ?_
   rotate_left
   ·(intro w9;go_simp;first|done|with_reducible rfl)
   try simp only[Act.put,zze_,zzi_,zzj_]
   refine zR_ (i:=14) (v:=?_) rfl (by kernel_rfl) (fun _ _ _ h=>h) (by kernel_rfl) ?_ (fun _=>s) ?_
   rotate_left
   ·(intro w9;go_simp;first|done|with_reducible rfl)
   try simp only[Act.put,zze_,zzi_,zzj_]
   refine zR_ (i:=15) (v:=?_) rfl (by kernel_rfl) (fun _ _ _ h=>h) (by kernel_rfl) ?_ (fun _=>s) ?_
   rotate_left
   ·(intro w9;go_simp;first|done|with_reducible rfl)
   try simp only[Act.put,zze_,zzi_,zzj_]
   refine zR_ (i:=16) (v:=?_) rfl (by kernel_rfl) (fun _ _ _ h=>h) (by kernel_rfl) ?_ (fun _=>s) ?_
   rotate_left
   ·(intro w9;go_simp;first|done|with_reducible rfl)
   try simp only[Act.put,zze_,zzi_,zzj_]
   refine xJ_ (i:=17) (v:=?_) rfl (by kernel_rfl) (by kernel_rfl) (fun _ _ _ h=>h) (by kernel_rfl) ?_ (fun _=>s) ?_
   rotate_left
   ·(intro w9 hSw;(try dsimp only at hSw);go_simp;first|done|with_reducible rfl)
   try simp only[Act.put,zze_,zzi_,zzj_]
   repeat' first
    |(guard_target =~ AllG _ _ _ _ _ _ _ _ _ [];exact AllG.nil)
    |(guard_target =~ AllG _ _ _ _ _ _ _ _ _ _;refine uT_ rfl (fun K hK=>?_) ?_)
    | (guard_target =~ zA_ _ _ _ _ _ _ _ _ _
       refine zR_ (i:=21) (v:=?_) rfl (by decide +kernel) (fun _ _ _ h=>h) (by kernel_rfl) ?_ (fun _=>s) ?_
       rotate_left
       ·(intro w9;go_simp;first|done|with_reducible rfl)
       try simp only[Act.put,zze_,zzi_,zzj_]
       refine zR_ (i:=22) (v:=?_) rfl (by kernel_rfl) (fun _ _ _ h=>h) (by kernel_rfl) ?_ (fun _=>s) ?_
       rotate_left
       ·(intro w9;go_simp;first|done|with_reducible rfl)
       try simp only[Act.put,zze_,zzi_,zzj_]
       refine ps_ (by kernel_rfl) (by kernel_rfl) (by decide) ?_
       simp only[List.drop_succ_cons,List.drop_zero]
       obtain⟨V7,V8,⟨q2,f2⟩,e7,⟨q3,f3⟩,e8,hm8⟩:=b.st hXl x rfl ⟨_,by rw[zzq_,zzq_],by simp⟩
       have HM1:=Lib.hid hm8
       clear b x s hm8
       go_wp2
       go_roundg (gk-1)
       case measure=>have:=HP.out;omega
       case rel=>exact⟨p+1,rfl,by have:=HP.out;omega,HM1.out⟩)
    |(guard_target =~ zA_ _ _ _ _ _ _ _ _ _;refine xH_ (rs:=[6,18]) (by decide +kernel) ?_)
    |(guard_target =~ zA_ _ _ _ _ _ _ _ _ _;refine xH_ (rs:=[7,18]) (by decide +kernel) ?_)
    |(guard_target =~ zA_ _ _ _ _ _ _ _ _ _;refine xH_ (rs:=[8,18]) (by decide +kernel) ?_)
    |(guard_target =~ zA_ _ _ _ _ _ _ _ _ _;refine xH_ (rs:=[18]) (by decide +kernel) ?_)
    |(guard_target =~ zA_ _ _ _ _ _ _ _ _ _;refine xH_ (rs:=[19]) (by decide +kernel) ?_)
    |(guard_target =~ zA_ _ _ _ _ _ _ _ _ _;refine xH_ (rs:=[20]) (by decide +kernel) ?_)
    |(guard_target =~ zA_ _ _ _ _ _ _ _ _ _;refine xH_ (rs:=[8,19]) (by decide +kernel) ?_)
    |(guard_target =~ zA_ _ _ _ _ _ _ _ _ _;refine xH_ (rs:=[8]) (by decide +kernel) ?_)
    |(guard_target =~ zA_ _ _ _ _ _ _ _ _ _;refine xH_ (rs:=[7,19]) (by decide +kernel) ?_)
    |(guard_target =~ zA_ _ _ _ _ _ _ _ _ _;refine xH_ (rs:=[7]) (by decide +kernel) ?_)
    |(guard_target =~ zA_ _ _ _ _ _ _ _ _ _;refine xH_ (rs:=[6,19]) (by decide +kernel) ?_)
    |(guard_target =~ zA_ _ _ _ _ _ _ _ _ _;refine xH_ (rs:=[6]) (by decide +kernel) ?_)
    | (first
       | (obtain ⟨gb, cb, V, e, b', x'⟩ := b.ap39 x hXl rfl (k := kb) (by simp) hp1
          refine xM_ rfl _ _ 30 30 rfl _ _ rfl rfl e ?_
          clear e)
       | (obtain ⟨gm, cm, V, e, b', x'⟩ := b.ap42 x hXl rfl (k := ks) (kr := kr) (n := n) (by simp) hp1
          refine xM_ rfl _ _ 31 31 rfl _ _ rfl rfl e ?_
          clear e)
       | (go_simp
          first
          | (go_at_call 25
             refine New_calls.mono ?_
             rintro e V ⟨rfl,hg⟩
             have b':=b.grown hg
             have x':=(hg.block X (zzk_ hXl b.size) (by simp)).trans x
             clear hg)
          | (obtain ⟨V, kb, e, e1, b', x'⟩ := b.al39 x hXl
             rw[e,e1]
             clear e e1)
          | (obtain ⟨V, ks, e, e1, b', x'⟩ := b.al42 x hXl kr n
             rw[e,e1]
             clear e e1))
       | (refine nN_ rfl (by go_simp; rw [nS_ hn9]; rfl) ?_
          obtain⟨V,kr,e,e1,b',x'⟩:=b.al41 x hXl n
          rw[e,e1]
          clear e e1)
       clear b x s
       have b:=b'
       have x:=x'
       clear b' x'
       have s:=hSof _ x
       refine hK.out _ _ (fun _=>s) ?_
       clear hK K
       try simp only[Act.put,zze_,zzi_,zzj_])
  .have hpz:¬(p:Int)<(n:Int):=by omega
   have hpe:p=n:=by have:=HP.out;omega
   subst hpe
   obtain⟨T,hd,hnet,hT0,hbel⟩:=ih_ (g1:=g1) (w1:=w1) (Q:=Q) ⟨bv,mv,rk,HBs.out,HXc.out⟩ HK.out.1 HB.out.1 HB.out.2.1 HB.out.2.2 HK.out.2.2.1 HK.out.2.2.2.2.2
   clear x2 x3
   obtain⟨W,hW⟩:∃W,wr.alloc (.cells #[.slice LA l.length LC,.int .i64 0] 62)=W:=⟨_,rfl⟩
   have hbW:Below wr.heap.size wr W:=by rw[<-hW];exact zK_ wr _
   have hKb:W.heap[wr.heap.size]?=some (.cells #[.slice LA l.length LC,.int .i64 0] 62 (0,0)):=by rw[<-hW];exact heap_alloc_new wr _
   have hWs:W.heap.size=wr.heap.size+1:=by rw[<-hW];simp
   obtain⟨K,hK⟩:∃K,wr.heap.size=K:=⟨_,rfl⟩
   rw[hK]at hKb hWs
   have hnW:=hnet.below hbW
   have hb2:=HK.out.2.2.2.1
   have hwb:Below w.heap.size w wr:=hb2.trans (Below.mono1 hbel hb2.size)
   have hKT:T K=0:=by
    by_cases h0:T K=0
    .exact h0
    .have:=(hnet.tz K h0).1;omega
   have hIk:∀b o,o<g.I b->o<g1.I b/\W.cell? ⟨b,o,none⟩=w.cell? ⟨b,o,none⟩:=fun b o ho=>by
    have hb:=hlt b (by omega)
    refine⟨by rw[HK.out.2.2.2.2.1 b hb];exact ho,yyb_ (a:=⟨b,o,none⟩) ((hbW.block b ?_).trans (hwb.block b hb))⟩
    have:=hwb.size
    show b<wr.heap.size
    omega
   have hpl:Pl g w K X p Q l 0 0 B0 M0 T g1 hd W:=by
    refine⟨hnW,⟨⟨.slice LA l.length LC,62,hKb,zu_ HLV.out rfl hIk⟩,hnW.Ilt,?_⟩,hKT,⟨by have:=hwb.size;omega,by omega⟩,hwb.trans (Below.mono1 hbW hwb.size),fun b hb=>hT0 b (zzk_ hb hb2.size),HK.out.2.2.2.2.1,.start⟩
    by_cases h0:0<g1.I K
    .have:=hnet.Ilt K h0;omega
    .omega
   have HPL:=Lib.hid hpl
   have HMD:=Lib.hid HK.out.1
   have HSM:=Lib.hid HK.out.2.1
   have hXK:wr.heap.size=K:=hK
   clear hnet hT0 hbel hbW hKb hnW hb2 hwb hKT hIk hpl hWs HBs HXc HB HMK HP HC HLV
   go_wp2
   clear hW hXK hK
   go_loopg [] l.length (fun kx wx=>∃k j B M T g' h,k+kx=l.length/\(3*j<=k\/(k=l.length/\3*j<=k+2))/\Pl g w K X p Q l k j B M T g' h wx)
   case atStart=>exact⟨0,0,B0,M0,T,g1,hd,by omega,.inl (by omega),HPL.out⟩
   case round =>
    obtain⟨k,j,B,M,T',g',h',hk,hc3,hI⟩:=hrel
    have HI:=Lib.hid hI
    have HK1:=Lib.hid hk
    by_cases hm:k<l.length
    .obtain⟨c,hc,hc8⟩:=oy_ l k (m:=8) (by omega)
     obtain⟨a,ha,ha2⟩:=oy_ l (nat1 l k) (m:=210) (by omega)
     obtain⟨b,hb,hb2⟩:=oy_ l (nat1 l (nat1 l k)) (m:=210) (by omega)
     have hc':nx l k 8=(c:Int):=hc
     have ha':nx l (nat1 l k) 210=(a:Int):=ha
     have hb':nx l (nat1 l (nat1 l k)) 210=(b:Int):=hb
     have hn1:nat1 l k=k+1:=by simp[nat1,hm]
     have hn2:=oD_ (xs:=l) (k:=nat1 l k) (by omega)
     have hn3:=oD_ (xs:=l) (k:=nat1 l (nat1 l k)) (by omega)
     have z0:k<=1000:=by omega
     have z1:nat1 l k<=1000:=by omega
     have z2:nat1 l (nat1 l k)<=1000:=by omega
     have z3:l.length<=1000:=by omega
     have Z:k+1<=nat1 l (nat1 l (nat1 l k))/\nat1 l (nat1 l (nat1 l k))<=l.length:=by omega
     have hd1:decide (k<l.length)=true:=by simp[hm]
     have HH:=Lib.hid Z
     have hj:j<=1000:=by omega
     have Z4:3*(j+1)<=nat1 l (nat1 l (nat1 l k))\/(nat1 l (nat1 l (nat1 l k))=l.length/\3*(j+1)<=nat1 l (nat1 l (nat1 l k))+2):=by
      exact if_ hm (by omega)
     have HZ4:=Lib.hid Z4
     clear hc3 Z4
     clear hI hk hc ha hb hn1 hn2 hn3 Z
     go_wp2_with (first
      | (go_at_call 28
         refine(HI.out.more z0 z3).mono ?_
         rintro e w2 ⟨rfl,hp⟩
         have HI:=Lib.hid hp
         clear hp)
      | (go_at_call 30
         refine(HI.out.next (by assumption) z3 (by omega) (by omega)).mono ?_
         rintro e w2 ⟨g2,rfl,hp⟩
         have HI:=Lib.hid hp
         clear hp)
      | (go_at_call 29
         (try rw[hc',ha',hb'])
         refine(HI.out.step HMD.out HSM.out.ne hj hc8 (by omega) (by omega)).mono ?_
         rintro e w2 ⟨B2,M2,T2,g2,h2,rfl,hp⟩
         have HI:=Lib.hid hp
         clear hp)
      | (go_at_call 13
         refine(HI.out.alone HMD.out).mono ?_
         rintro e w2 ⟨rfl,hp⟩
         have HI:=Lib.hid hp
         clear hp))
     all_goals go_wp2
     all_goals go_roundg (l.length-nat1 l (nat1 l (nat1 l k)))
     case measure=>have:=HH.out;have:=HK1.out;omega
     case rel=>exact⟨nat1 l (nat1 l (nat1 l k)),j+1,B2,M2,T2,g2,h2,by have:=HH.out;omega,HZ4.out,HI.out⟩
    .have hd1:decide (k<l.length)=false:=by simp;omega
     have z0:k<=1000:=by omega
     have z3:l.length<=1000:=by omega
     have hke:k=l.length:=by omega
     have HJ:=Lib.hid (And.intro hke hc3)
     clear hI hk hc3 hke
     go_wp2_with (go_at_call 28
                  refine(HI.out.more z0 z3).mono ?_
                  rintro e w2 ⟨rfl,hp⟩
                  have HI:=Lib.hid hp
                  clear hp)
     go_wp2
     go_ret2
     exact⟨X,p,Q,K,j,B,M,T',g',h',rfl,HMD.out,HSM.out,by have:=HJ.out;omega,by have:=HI.out;rwa [HJ.out.1]at this⟩
def e3:List Int:=[3,5,6]
def aW:Bl:=⟨1,3,0,0,0,⟨1,0⟩,false,[],[],false⟩
def b1W:Bl:=⟨1,0,0,0,0,⟨0,0⟩,false,[⟨1,0⟩],[],false⟩
def b2W:Bl:=⟨1,0,0,0,0,⟨0,0⟩,false,[⟨1,0⟩],[⟨1,2⟩],false⟩
theorem md3:Md 3 [3,5,6]:=by have:=vt_ (n:=3) (by omega) (by omega);rwa [ij_]at this
theorem ok3:okB 3 e3=true:=md3.ok
theorem bOk3(s:Int)(b:Bl):bOk 3 e3 s b=(vtr 3 s&&decide (0<=b.time)&&decide (b.time<=1073741824)&&aok e3 s b&&vok 3 b):=by unfold bOk;rw[ok3];rfl
theorem w1:yU_ 3 e3 0 3 noB (askO noB 0 (mbU 3 9))=okR aW [⟨1,0,1,0⟩,⟨1,1,1,0⟩]:=by
 have h1:bOk 3 e3 0 noB=true:=by rw[bOk3];decide +kernel
 have h2:mbU 3 9=[0,1]:=by decide +kernel
 unfold yU_
 rw[if_neg (by rw[h1];simp),if_neg (by decide),if_neg (by decide),if_neg (by decide),h2]
 rfl
theorem h1W:zt_ 3 e3 1 0 ⟨1,0,1,0⟩ noB=okR b1W [⟨2,0,0,0⟩]:=by
 have h1:bOk 3 e3 1 noB=true:=by rw[bOk3];decide +kernel
 unfold zt_
 rw[if_neg (by rw[h1];simp),if_neg (by decide),if_pos (by decide),if_neg (by decide),if_neg (by decide)]
 rfl
theorem h2W:zt_ 3 e3 1 2 ⟨1,0,1,2⟩ b1W=okR b2W [⟨3,2,0,0⟩]:=by
 have h1:bOk 3 e3 1 b1W=true:=by rw[bOk3];decide +kernel
 unfold zt_
 rw[if_neg (by rw[h1];simp),if_neg (by decide),if_pos (by decide),if_neg (by decide),if_neg (by decide)]
 rfl
theorem v1W:bOk 3 e3 0 aW=true:=by rw[bOk3];decide +kernel
theorem v2W:bOk 3 e3 1 b2W=true:=by rw[bOk3];decide +kernel
theorem mW_:PC Try.prog 8 [] (fun r=>r=.s (.bool true)):=by
 have cN:=lM_
 have cW:=rx_ noB 3 e3 0 3 (by decide) (by simp[Bl.sm,noB])
 rw[w1]at cW
 have cH1:=tB_ noB 3 e3 1 0 ⟨1,0,1,0⟩ (by decide) (by simp[noB]) (by simp[noB])
 rw[h1W]at cH1
 have cH2:=tB_ b1W 3 e3 1 2 ⟨1,0,1,2⟩ (by decide) (by simp[b1W]) (by simp[b1W])
 rw[h2W]at cH2
 have cV1:=yV_ aW 3 e3 0 (by decide) (by simp[Bl.sm,aW])
 rw[v1W]at cV1
 have cV2:=yV_ b2W 3 e3 1 (by decide) (by simp[Bl.sm,b2W])
 rw[v2W]at cV2
 have hmx:3<=maxLen/\3*8<=z5_:=by simp[maxLen,z5_]
 simp only[cP,e3,iv,List.map,Bl.v,Bl.cs,noB,aW,b1W,b2W,okR,vl,Vt.v,sl,Sg.v,List.map_nil,List.map_cons]at cN cW cH1 cH2 cV1 cV2
 refine zn_ c8 zp_ rfl ?_
 simp -implicitDefEqProofs [a8,F8]
 refine zB_ ?_
 simp
 refine y8_ cN (by simp) (by simp) ?_
 simp
 refine zB_ ?_
 simp
 refine y8_ cW (by simp) (by simp) ?_
 simp
 refine zB_ ?_
 simp
 refine y8_ cN (by simp) (by simp) ?_
 simp
 refine zB_ ?_
 simp
 refine y8_ cH1 (by simp) (by simp) ?_
 simp
 refine z1_ ?_
 simp
 refine zc_ cH2 (by simp) (by simp) ?_
 rintro _ rfl
 simp
 refine z1_ ?_
 simp
 refine zc_ cV1 (by simp) (by simp) ?_
 rintro _ rfl
 simp
 refine z1_ ?_
 simp
 refine zc_ cV2 (by simp) (by simp) ?_
 rintro _ rfl
 simp
theorem ia_{P:Program}{f:FuncId}{args:List V}{Q:V->Prop}(him:∀x∈args,immA x=true)
 (hw:∀(g:Gh) (w:World) (vs:Array Value),args.length=vs.size->(∀(i:Nat) (x:V) (v:Value),args[i]?=some x->vs[i]?=some v->Rep g w x v)->(∀k,0<g.I k->k<w.heap.size) ->
  Calls P f vs w fun e' w'=>∃(v:Value) (r:V) (I':Nat->Nat),e'=.returned v/\Q r/\immT r=true/\okV r=true/\(∀b,b<w.heap.size->I' b=g.I b)/\(∀b,0<I' b->b<w'.heap.size)/\Rep ⟨I',g.φ⟩ w' r v/\Below w.heap.size w w'):PC P f args Q:=by
 intro g w vs hb
 have hl:args.length=vs.size:=by have:=hb.sz;simp[Frn]at this;exact this.symm
 have hrep:∀(i:Nat) (x:V) (v:Value),args[i]?=some x->vs[i]?=some v->Rep g w x v:=by
  intro i x v hx hv
  refine hb.rep (.l (.var i)) x v ⟨hx,?_⟩
  have hi:=(zzc_.1 hx).1
  have hi':i<vs.size:=by omega
  rw[Array.getElem?_eq_getElem hi']at hv
  cases hv
  simp[z7_,Frn,Act.tv,hi,hl ▸ hi]
 refine(hw g w vs hl hrep hb.Ilt).mono ?_
 rintro e' w' ⟨v,r,I',rfl,hQ,hi,hok,h1,h2,hr,hbel⟩
 obtain⟨q1,q2⟩:=nn_ (g:=⟨I',g.φ⟩) (w:=w') hi hr h2
 refine⟨v,r,[],⟨I',g.φ⟩,rfl,⟨rfl,hQ⟩,hok,q1,⟨hbel.os,hbel.tape,hbel.output,hbel.size,fun k hk' _=>⟨hbel.block k hk',h1 k hk'⟩,fun k ho'=>absurd ho' (q2 k),fun b hb'=>by simp at hb'⟩⟩
theorem uc_{g:Gh}{w:World}(hlt:∀k,0<g.I k->k<w.heap.size):Calls Try.prog 8 #[] w fun e w'=>e=.returned (.bool true)/\Below w.heap.size w w':=by
 refine(xk_ mW_ (g:=g) (w:=w) (vals:=#[]) rfl (by intro x hx;simp at hx) (by intro i x v hx;simp at hx) hlt).mono ?_
 rintro e w' ⟨v,r,g',rfl,rfl,hr,hb,_⟩
 have:=hr.of_s rfl
 subst this
 exact⟨rfl,hb⟩
theorem rl_{g:Gh}{w:World}(hlt:∀k,0<g.I k->k<w.heap.size){l:List Int}{lv:Value}(hlv:Rep g w (.list 1 (iv l)) lv):Calls Try.prog 7 #[lv] w fun e w'=>e=.returned (.bool (decide (l.length<=400)))/\Below w.heap.size w w':=by
 refine(xk_ (l4_ l) (g:=g) (w:=w) (vals:=#[lv]) rfl ?_ ?_ hlt).mono ?_
 .intro x hx
  simp at hx
  subst hx
  rfl
 .intro i x v hx hv
  match i,hx,hv with
  |0,hx,hv=>cases hx;cases hv;exact hlv
 .rintro e w' ⟨v,r,g',rfl,rfl,hr,hb,_⟩
  have:=hr.of_s rfl
  subst this
  exact⟨rfl,hb⟩
theorem v6_{g:Gh}{w w':World}{l:List Int}{lv:Value}(hlt:∀k,0<g.I k->k<w.heap.size)(hlv:Rep g w (.list 1 (iv l)) lv)(hb:Below w.heap.size w w'):Rep g w' (.list 1 (iv l)) lv :=
 zu_ hlv rfl fun b o ho=>⟨ho,yyb_ (a:=⟨b,o,none⟩) (hb.block b (hlt b (by omega)))⟩
section
section
variable{n:Nat}{Q:List Nat}{Tm:Nat}{B:Nat->QP.Bt}{M:Nat->Nat->QP.Ms}
end
end
theorem s1_{g:Gh}{w:World}{z:Nat}{xs:List V}{v:Value}(h:Rep g w (.list z xs) v):∃A c,v=.slice A xs.length c:=by
 cases h with
 |list vals hc hm hA hz hi hcell hr=>exact⟨_,_,rfl⟩
theorem u9_{g:Gh}{w:World}(hlt:∀k,0<g.I k->k<w.heap.size){b:Bl}{n:Int}{q:List Int}{site from' x:Int}{m:Vt}{vs:Array Value}{qv:Value}(hq:q.length<=1000)(hg:b.given.length<=1000)(hqq:b.queue.length<=1000)(hw:b.wd)
 (hb:Rep g w b.v (.agg vs)) (hc:Rep g w (.list 1 (iv q)) qv) (hone:qv.oneCell'=true) :
 Calls Try.prog 14 #[.agg vs,.agg #[.int .i64 n,qv],.int .i64 site,.int .i64 from',.int .i64 x,.agg #[.int .i64 m.k,.int .i64 m.to,.int .i64 m.st,.int .i64 m.ss]] w fun e w'=>e=.returned (.bool true)/\Below w.heap.size w w':=by
 refine(xk_ (mN_ b n q site from' x m hq hg hqq hw) (g:=g) (w:=w) (vals:=#[.agg vs,.agg #[.int .i64 n,qv],.int .i64 site,.int .i64 from',.int .i64 x,.agg #[.int .i64 m.k,.int .i64 m.to,.int .i64 m.st,.int .i64 m.ss]]) rfl ?_ ?_ hlt).mono ?_
 .intro y hy
  simp at hy
  rcases hy with rfl|rfl|rfl|rfl|rfl|rfl<;>rfl
 .intro i y v hy hv
  match i,hy,hv with
  |0,hy,hv=>cases hy;cases hv;exact hb
  | 1, hy, hv =>
    cases hy
    cases hv
    refine .agg rfl (by
     intro c hc
     simp at hc
     rcases hc with rfl|rfl
     .rfl
     .exact hone) (fun j u c hu hcc=>?_)
    match j,hu,hcc with
    |0,hu,hcc=>cases hu;cases hcc;exact .s rfl
    |1,hu,hcc=>cases hu;cases hcc;exact hc
  |2,hy,hv=>cases hy;cases hv;exact .s rfl
  |3,hy,hv=>cases hy;cases hv;exact .s rfl
  |4,hy,hv=>cases hy;cases hv;exact .s rfl
  | 5, hy, hv =>
    cases hy
    cases hv
    refine .agg rfl (by intro c hc;simp at hc;rcases hc with rfl|rfl|rfl|rfl<;>rfl) (fun j u c hu hcc=>?_)
    match j,hu,hcc with
    |0,hu,hcc=>cases hu;cases hcc;exact .s rfl
    |1,hu,hcc=>cases hu;cases hcc;exact .s rfl
    |2,hu,hcc=>cases hu;cases hcc;exact .s rfl
    |3,hu,hcc=>cases hu;cases hcc;exact .s rfl
 .rintro e w' ⟨v,r,g',rfl,rfl,hr,hb',_⟩
  have:=hr.of_s rfl
  subst this
  exact⟨rfl,hb'⟩
theorem wh_{g:Gh}{w:World}(hlt:∀k,0<g.I k->k<w.heap.size){x m:Int}(hm:1<=m)(hm2:m<=1000000):Calls Try.prog 10 #[.int .i64 x,.int .i64 m] w fun e w'=>e=.returned (.int .i64 (x%m))/\Below w.heap.size w w':=by
 refine(xk_ (nA_ x m hm (by omega)) (g:=g) (w:=w) (vals:=#[.int .i64 x,.int .i64 m]) rfl ?_ ?_ hlt).mono ?_
 .intro x hx'
  simp at hx'
  rcases hx' with rfl|rfl<;>rfl
 .intro i x v hx' hv
  match i,hx',hv with
  |0,hx',hv=>cases hx';cases hv;exact .s rfl
  |1,hx',hv=>cases hx';cases hv;exact .s rfl
 .rintro e w' ⟨v,r,g',rfl,rfl,hr,hb',_⟩
  have:=hr.of_s rfl
  subst this
  exact⟨rfl,hb'⟩
theorem h2_{n:Nat}{b:QP.Bt}(h:Sml n b):(toBl b).wd:=by
 have h1:=p9 h.n9 h.votes
 have h2:=p9 h.n9 h.fail
 have h3:=p9 h.n9 h.inqd
 refine⟨?_,?_,?_⟩<;>(unfold i64 toBl;simp only;omega)
theorem oC_{g:Gh}{w:World}(hlt:∀k,0<g.I k->k<w.heap.size):Calls Try.prog 25 #[] w fun e w'=>∃v g',e=.returned v/\Rep g' w' noB.v v/\Below w.heap.size w w'/\∀k,0<g'.I k->k<w'.heap.size:=by
 refine(xk_ lM_ (g:=g) (w:=w) (vals:=#[]) rfl (by intro x hx;simp at hx) (by intro i x v hx;simp at hx) hlt).mono ?_
 rintro e w' ⟨v,r,g',rfl,rfl,hr,hb,_,hl⟩
 exact⟨v,g',rfl,hr,hb,hl⟩
theorem qQ_{g:Gh}{w:World}(hlt:∀k,0<g.I k->k<w.heap.size){v0:Value}(h0:Rep g w noB.v v0):Calls Try.prog 26 #[] w fun e w'=>∃v g',e=.returned v/\Rep g' w' noB.v v0/\Rep g' w' noB.v v/\Below w.heap.size w w'/\∀k,0<g'.I k->k<w'.heap.size:=by
 refine(xk_ kn_ (g:=g) (w:=w) (vals:=#[]) rfl (by intro x hx;simp at hx) (by intro i x v hx;simp at hx) hlt).mono ?_
 rintro e w' ⟨v,r,g',rfl,rfl,hr,hb,hs,hl⟩
 refine⟨v,g',rfl,?_,hr,hb,hl⟩
 cases h0 with
 | agg e1 e2 e3 =>
   refine .agg e1 e2 fun j u c hu hc=>zu_ (e3 j u c hu hc) (wc_ noB u (zzd_ hu)) fun b o ho=>?_
   have hlb:=hlt b (by omega)
   exact⟨by rw[hs b hlb];exact ho,yyb_ (a:=⟨b,o,none⟩) (hb.block b hlb)⟩
theorem sX_{g:Gh}{w:World}(hlt:∀k,0<g.I k->k<w.heap.size){v0 v1:Value}(h0:Rep g w noB.v v0)(h1:Rep g w noB.v v1):Calls Try.prog 17 #[v0,v1] w fun e w'=>e=.returned (.bool true)/\Below w.heap.size w w':=by
 refine(xk_ (tz_ noB noB ⟨by simp[noB],by simp[noB]⟩) (g:=g) (w:=w) (vals:=#[v0,v1]) rfl ?_ ?_ hlt).mono ?_
 .intro x hx
  simp at hx
  subst hx
  rfl
 .intro i x v hx hv
  match i,hx,hv with
  |0,hx,hv=>cases hx;cases hv;exact h0
  |1,hx,hv=>cases hx;cases hv;exact h1
 .rintro e w' ⟨v,r,g',rfl,rfl,hr,hb,_⟩
  have:=hr.of_s rfl
  subst this
  exact⟨by rw[decide_eq_true rfl],hb⟩
theorem iM_{n:Nat}{Q:List Nat}{Tm:Nat}{B:Nat->QP.Bt}{M:Nat->Nat->QP.Ms}(hm:Md n Q)(h:QP.NInv n Q Tm B M){i:Nat}(hi:i<n):(toBl (B i)).wd:=h2_ (rP_ hm (h.ao i hi))
theorem nl_{W:World}{k:Nat}{ty:TypeId}{r0 r1:Value}(hw:W.heap[k]?=some (.cells #[r0,r1] ty (0,0))):W.cell? ⟨k,0,none⟩=some r0/\W.cell? ⟨k,1,none⟩=some r1:=by
 simp[World.cell?,hw]
theorem lE_{W:World}{k:Nat}{ty:TypeId}{r0 r1 r2 r3:Value}(hw:W.heap[k]?=some (.cells #[r0,r1,r2,r3] ty (0,0))):W.cell? ⟨k,0,none⟩=some r0/\W.cell? ⟨k,1,none⟩=some r1/\W.cell? ⟨k,2,none⟩=some r2/\W.cell? ⟨k,3,none⟩=some r3:=by
 simp[World.cell?,hw]
theorem set4{W Y:World}{b j:Nat}{cs:Array Value}{ty:TypeId}{v r:Value}(h:W.heap[b]?=some (.cells cs ty (0,0)))(hr:cs[j]?=some r)(hY:W.setCell ⟨b,j,none⟩ v=Y) :
 W.cell? ⟨b,j,none⟩=some r/\W.frozen? ⟨b,j,none⟩=false/\Y.heap[b]?=some (.cells (cs.setIfInBounds j v) ty (0,0))/\Y.heap.size=W.heap.size/\Y.os=W.os/\Y.tape=W.tape/\Y.output=W.output/\∀k,k≠b->Y.heap[k]?=W.heap[k]?:=by
 subst hY
 refine⟨by simp[World.cell?,h,hr],by simp[World.frozen?,h],by simp[World.setCell,yyu_,h],by simp[World.setCell],rfl,rfl,rfl,fun k hk=>by simp[World.setCell,yyu_,Ne.symm hk]⟩
theorem tA_(b:Bl)(n0:Int)(q0:List Int)(site from' x:Int)(m:Vt)(l:List Int)(n:Int)(hwd:b.wd) :
 PC Try.prog 5 [b.v,cP n0 q0,.s (.int .i64 site),.s (.int .i64 from'),.s (.int .i64 x),m.v,.list 1 (iv l),.s (.int .i64 n)] (fun r=>r=.s (.bool true)):=by
 refine ia_ (by intro x hx;simp at hx;rcases hx with rfl|rfl|rfl|rfl|rfl|rfl|rfl|rfl<;>rfl) fun g w vs hl hr hlt=>?_
 obtain⟨bv,cv,v2,v3,v4,mv,lv,v7,rfl⟩:∃a b c d e f g h,vs=#[a,b,c,d,e,f,g,h]:=by
  have:vs.toList.length=8:=by simpa using hl.symm
  match hv:vs.toList,this with
  |[a,b,c,d,e,f,g,h],_=>exact⟨a,b,c,d,e,f,g,h,Array.ext' (by simpa using hv)⟩
 have mx:=zp_
 have hb:=hr 0 _ bv rfl rfl
 have hc:=hr 1 _ cv rfl rfl
 have h2:=(hr 2 _ v2 rfl rfl).of_s rfl
 have h3:=(hr 3 _ v3 rfl rfl).of_s rfl
 have h4:=(hr 4 _ v4 rfl rfl).of_s rfl
 have hm:=hr 5 _ mv rfl rfl
 have hlv:=hr 6 _ lv rfl rfl
 have h7:=(hr 7 _ v7 rfl rfl).of_s rfl
 subst h2 h3 h4 h7
 clear hr
 -- the arguments' forms
 obtain⟨qv,hqv,hq,rfl⟩:∃qv,qv.oneCell'=true/\Rep g w (.list 1 (iv q0)) qv/\cv=.agg #[.int .i64 n0,qv]:=by
  cases hc with
  | @agg _ vals e1 e2 e3 =>
    obtain⟨a,c,rfl⟩:∃a c,vals=#[a,c]:=by
     have:vals.toList.length=2:=by simpa using e1.symm
     match hv:vals.toList,this with
     |[a,c],_=>exact⟨a,c,Array.ext' (by simpa using hv)⟩
    have ha:=(e3 0 _ a rfl rfl).of_s rfl
    subst ha
    exact⟨c,e2 c (by simp),e3 1 _ c rfl rfl,rfl⟩
 obtain⟨QA,QC,rfl,_⟩:=xB_ hq
 obtain rfl:mv=.agg #[.int .i64 m.k,.int .i64 m.to,.int .i64 m.st,.int .i64 m.ss]:=by
  cases hm with
  | @agg _ vals e1 e2 e3 =>
    obtain⟨a,c,d,e,rfl⟩:∃a c d e,vals=#[a,c,d,e]:=by
     have:vals.toList.length=4:=by simpa using e1.symm
     match hv:vals.toList,this with
     |[a,c,d,e],_=>exact⟨a,c,d,e,Array.ext' (by simpa using hv)⟩
    have h0:=(e3 0 _ a rfl rfl).of_s rfl
    have h1:=(e3 1 _ c rfl rfl).of_s rfl
    have h2:=(e3 2 _ d rfl rfl).of_s rfl
    have h3:=(e3 3 _ e rfl rfl).of_s rfl
    rw[h0,h1,h2,h3]
 obtain⟨x0,x1,x2,x3,x4,x5,x6,x7,A8,c8,A9,c9,x10,⟨o0,o1,o2,o3,o4,o5,o6,o7,o10⟩,rfl⟩:∃x0 x1 x2 x3 x4 x5 x6 x7 A8 c8 A9 c9 x10,(x0.oneCell'=true/\x1.oneCell'=true/\x2.oneCell'=true/\x3.oneCell'=true/\x4.oneCell'=true/\x5.oneCell'=true/\x6.oneCell'=true/\x7.oneCell'=true/\x10.oneCell'=true) /\
  bv=.agg #[x0,x1,x2,x3,x4,x5,x6,x7,.slice A8 b.given.length c8,.slice A9 b.queue.length c9,x10]:=by
  cases hb with
  | @agg _ vals e1 e2 e3 =>
    obtain⟨x0,x1,x2,x3,x4,x5,x6,x7,x8,x9,x10,rfl⟩:∃x0 x1 x2 x3 x4 x5 x6 x7 x8 x9 x10,vals=#[x0,x1,x2,x3,x4,x5,x6,x7,x8,x9,x10]:=by
     have:vals.toList.length=11:=by simpa[Bl.cs] using e1.symm
     match hv:vals.toList,this with
     |[x0,x1,x2,x3,x4,x5,x6,x7,x8,x9,x10],_=>exact⟨x0,x1,x2,x3,x4,x5,x6,x7,x8,x9,x10,Array.ext' (by simpa using hv)⟩
    obtain⟨A8,c8,h8⟩:=s1_ (e3 8 _ x8 rfl rfl)
    obtain⟨A9,c9,h9⟩:=s1_ (e3 9 _ x9 rfl rfl)
    rw[sl_length]at h8 h9
    refine⟨x0,x1,x2,x3,x4,x5,x6,x7,A8,c8,A9,c9,x10,⟨?_,?_,?_,?_,?_,?_,?_,?_,?_⟩,by rw[h8,h9]⟩<;>exact e2 _ (by simp)
 have fin:∀w',Below w.heap.size w w'->∃(v:Value) (r:V) (I':Nat->Nat),Ending.returned (.bool true)=.returned v/\r=.s (.bool true)/\immT r=true/\okV r=true/\(∀b,b<w.heap.size->I' b=g.I b)/\(∀b,0<I' b->b<w'.heap.size)/\Rep ⟨I',g.φ⟩ w' r v/\Below w.heap.size w w':=fun w' hb =>
  ⟨_,_,g.I,rfl,rfl,rfl,rfl,fun _ _=>rfl,fun b hb'=>zzk_ (hlt b hb') hb.size,.s rfl,hb⟩
 have HF:=Lib.hid fin
 have HL:=Lib.hid hlv
 have HB:=Lib.hid hb
 have HQ:=Lib.hid hq
 have HG:=Lib.hid hlt
 -- the three boxes
 obtain⟨W1,hW1⟩:∃W1,w.alloc (.cells #[x0,x1,x2,x3,x4,x5,x6,x7,.slice A8 b.given.length c8,.slice A9 b.queue.length c9,x10] 39)=W1:=⟨_,rfl⟩
 obtain⟨W2,hW2⟩:∃W2,W1.alloc (.cells #[.int .i64 n0,.slice QA q0.length QC] 29)=W2:=⟨_,rfl⟩
 obtain⟨W3,hW3⟩:∃W3,W2.alloc (.cells #[.int .i64 m.k,.int .i64 m.to,.int .i64 m.st,.int .i64 m.ss] 46)=W3:=⟨_,rfl⟩
 have z1:W1.heap.size=w.heap.size+1:=by rw[<-hW1];simp
 have z2:W2.heap.size=w.heap.size+2:=by rw[<-hW2];simp[z1]
 have z3:W3.heap.size=w.heap.size+3:=by rw[<-hW3];simp[z2]
 have g1:W1.heap[w.heap.size]?=some (.cells #[x0,x1,x2,x3,x4,x5,x6,x7,.slice A8 b.given.length c8,.slice A9 b.queue.length c9,x10] 39 (0,0)):=by rw[<-hW1];exact heap_alloc_new w _
 have g2:W2.heap[W1.heap.size]?=some (.cells #[.int .i64 n0,.slice QA q0.length QC] 29 (0,0)):=by rw[<-hW2];exact heap_alloc_new W1 _
 have g3:W3.heap[W2.heap.size]?=some (.cells #[.int .i64 m.k,.int .i64 m.to,.int .i64 m.st,.int .i64 m.ss] 46 (0,0)):=by rw[<-hW3];exact heap_alloc_new W2 _
 have b1:Below w.heap.size w W1:=by rw[<-hW1];exact zK_ w _
 have b2:Below W1.heap.size W1 W2:=by rw[<-hW2];exact zK_ W1 _
 have b3:Below W2.heap.size W2 W3:=by rw[<-hW3];exact zK_ W2 _
 have bw:Below w.heap.size w W3:=(b1.trans (Below.mono1 b2 (by omega))).trans (Below.mono1 b3 (by omega))
 have k1:W3.heap[w.heap.size]?=some (.cells #[x0,x1,x2,x3,x4,x5,x6,x7,.slice A8 b.given.length c8,.slice A9 b.queue.length c9,x10] 39 (0,0)):=by rw[b3.block _ (by omega),b2.block _ (by omega)];exact g1
 have k2:W3.heap[W1.heap.size]?=some (.cells #[.int .i64 n0,.slice QA q0.length QC] 29 (0,0)):=by rw[b3.block _ (by omega)];exact g2
 -- what is read of them later on
 have rd:∀W,Below W3.heap.size W3 W->Below w.heap.size w W/\W.heap[w.heap.size]?=some (.cells #[x0,x1,x2,x3,x4,x5,x6,x7,.slice A8 b.given.length c8,.slice A9 b.queue.length c9,x10] 39 (0,0))/\W.heap[W1.heap.size]?=some (.cells #[.int .i64 n0,.slice QA q0.length QC] 29 (0,0))/\W.heap[W2.heap.size]?=some (.cells #[.int .i64 m.k,.int .i64 m.to,.int .i64 m.st,.int .i64 m.ss] 46 (0,0)):=fun W h =>
  ⟨bw.trans (Below.mono1 h (by omega)),(h.block _ (by omega)).trans k1,(h.block _ (by omega)).trans k2,(h.block _ (by omega)).trans g3⟩
 have RD:=Lib.hid rd
 have HW3:=Lib.hid (And.intro hW1 (And.intro hW2 (And.intro hW3 z3)))
 have hlt3:∀k,0<g.I k->k<W3.heap.size:=fun k hk=>by have:=hlt k hk;omega
 have H0:=Lib.hid (rl_ hlt3 (v6_ hlt hlv bw))
 clear g1 g2 g3 b1 b2 b3 k1 k2 rd hlv hb hq hlt z1 z2 z3 fin hl hc hm
 have hcs:decide (l.length<=400)=false\/(decide (l.length<=400)=true/\((80:Int)<(q0.length:Int)\/(¬(80:Int)<(q0.length:Int)/\((20:Int)<(b.given.length:Int)\/(¬(20:Int)<(b.given.length:Int)/\((20:Int)<(b.queue.length:Int)\/¬(20:Int)<(b.queue.length:Int))))))):=by
  cases decide (l.length<=400)
  .exact .inl rfl
  .exact .inr ⟨rfl,by omega⟩
 rcases hcs with hd|⟨hd,h80|⟨h80,hg20|⟨hg20,hq20|hq20⟩⟩⟩
 iterate 4
  .go_enter Try.func5,Try.ntmps5
   go_wp2_with (first
   | (go_at_call 7
      refine H0.out.mono ?_
      rintro e w1 ⟨rfl,hb1⟩
      clear hW1 hW2 hW3
      obtain⟨r1,r2,r3,r4⟩:=RD.out w1 hb1
      obtain⟨c0,c1,c2,c3,c4,c5,c6,c7,c8',c9',c10⟩:=va_ r2
      obtain⟨d0,d1⟩:=nl_ r3
      have HR1:=Lib.hid r1
      clear hb1 r1 r2 r3 r4)
   | (go_at_call 8
      refine(uc_ (g:=g) fun k hk=>zzk_ (HG.out k hk) HR1.out.size).mono ?_
      rintro e w3 ⟨rfl,hb3⟩
      have HB3:=Lib.hid (HR1.out.trans (Below.mono1 hb3 HR1.out.size))
      clear hb3))
   all_goals go_wp2
   all_goals go_ret
   all_goals exact HF.out _ HB3.out
 .go_enter Try.func5,Try.ntmps5
  have h4:l.length<=400:=of_decide_eq_true hd
  have hc1:∀wx,Below w.heap.size w wx->Calls Try.prog 14 #[.agg #[x0,x1,x2,x3,x4,x5,x6,x7,.slice A8 b.given.length c8,.slice A9 b.queue.length c9,x10],.agg #[.int .i64 n0,.slice QA q0.length QC],.int .i64 site,.int .i64 from',.int .i64 x,.agg #[.int .i64 m.k,.int .i64 m.to,.int .i64 m.st,.int .i64 m.ss]] wx fun e w'=>e=.returned (.bool true)/\Below wx.heap.size wx w':=fun wx h =>
   u9_ (g:=g) (fun k hk=>zzk_ (HG.out k hk) h.size) (b:=b) (q:=q0) (m:=m) (by omega) (by omega) (by omega) hwd (xZ_ HB.out fun b o ho=>⟨ho,yyb_ (a:=⟨b,o,none⟩) (h.block b (HG.out b (by omega)))⟩) (v6_ HG.out HQ.out h) rfl
  have HC1:=Lib.hid hc1
  clear hc1
  go_wp2_with (first
   | (go_at_call 7
      refine H0.out.mono ?_
      rintro e w1 ⟨rfl,hb1⟩
      clear hW1 hW2 hW3
      obtain⟨r1,r2,r3,r4⟩:=RD.out w1 hb1
      obtain⟨c0,c1,c2,c3,c4,c5,c6,c7,c8',c9',c10⟩:=va_ r2
      obtain⟨d0,d1⟩:=nl_ r3
      have HB1:=Lib.hid hb1
      clear hb1 r1 r2 r3 r4)
   | (go_at_call 9
      refine(kv_ (g:=g) (fun k hk=>zzk_ (HG.out k hk) (RD.out _ HB1.out).1.size) (v6_ HG.out HL.out (RD.out _ HB1.out).1) h4 n).mono ?_
      rintro e w2 ⟨X,k,Q,K,J,B,M,T,g2,h2,rfl,hmd,hsm,hJ,hp⟩
      clear c0 c1 c2 c3 c4 c5 c6 c7 c8' c9' c10 d0 d1
      have hb2:=HB1.out.trans (Below.mono1 hp.below HB1.out.size)
      obtain⟨r1,r2,r3,r4⟩:=RD.out w2 hb2
      obtain⟨c0,c1,c2,c3,c4,c5,c6,c7,c8',c9',c10⟩:=va_ r2
      obtain⟨d0,d1⟩:=nl_ r3
      obtain⟨f0,f1,f2,f3⟩:=lE_ r4
      have HP:=Lib.hid hp
      have HMD:=Lib.hid hmd
      have HSM:=Lib.hid hsm
      have HR1:=Lib.hid r1
      have HJ:=Lib.hid hJ
      clear hb2 r1 r2 r3 r4 hmd hsm hJ hp))
  refine(HC1.out w2 HR1.out).mono ?_
  rintro e w3 ⟨rfl,hb3⟩
  have HP3:=Lib.hid (HP.out.bel hb3)
  have HR3:=Lib.hid (HR1.out.trans (Below.mono1 hb3 HR1.out.size))
  clear hb3 HP HR1 HC1
  clear f0 f1 f2 f3 d0 d1
  clear c0 c1 c2 c3 c4 c5 c6 c7 c10
  clear c8' c9'
  have y2:=HP3.out.net.x2
  go_wp2
  go_loopg [68] k (fun kx s68 wr=>∃i:Nat,s68=.int .i64 i/\i+kx=k/\Pl g w1 K X k Q l l.length J B M T g2 h2 wr)
  case atStart=>exact⟨0,rfl,by omega,HP3.out⟩
  case round =>
   obtain⟨i,rfl,hi,hI⟩:=hrel
   have HI:=Lib.hid hI
   have HIK:=Lib.hid hi
   clear hI hi y2
   have k9:k<=9:=HMD.out.k1.2
   have k1:1<=k:=HMD.out.k1.1
   by_cases hm':i<k
   .have hiz:(i:Int)<(k:Int):=by omega
    have hi0:¬(i:Int)<0:=by omega
    have hwi:IntKind.i64.wrap ((i:Int)+1)=(i:Int)+1:=by rw[yye_];omega
    have y2:=HI.out.net.x2
    go_wp2_with (go_at_call 10
                 refine(wh_ HI.out.net.Ilt (m:=(k:Int)) (by omega) (by omega)).mono ?_
                 rintro e w4 ⟨rfl,hb4⟩
                 generalize RowKit.wrap64 (from'+(i:Int))=zz
                 have h0:=Int.emod_nonneg zz (b:=(k:Int)) (by omega)
                 have h1:=Int.emod_lt_of_pos zz (b:=(k:Int)) (by omega)
                 generalize zz%(k:Int)=z at h0 h1 ⊢
                 obtain⟨jj,rfl⟩:∃jj:Nat,z=(jj:Int):=⟨z.toNat,by omega⟩
                 have hjj:jj<k:=by omega
                 have HI4:=Lib.hid (HI.out.bel hb4)
                 clear hb4 h0 h1)
    go_wp2
    go_loopg [22] 6 (fun kx s22 wr=>∃kd:Nat,s22=.int .i64 kd/\kd+kx=7/\1<=kd/\Pl g w1 K X k Q l l.length J B M T g2 h2 wr)
    case atStart=>exact⟨1,rfl,by omega,by omega,HI4.out⟩
    case round =>
     obtain⟨kd,rfl,hkd,hkd1,hI5⟩:=hrel
     have HI5:=Lib.hid hI5
     have HKD:=Lib.hid hkd
     clear hI5 hkd y2 HI4
     by_cases hk6:kd<=6
     .have hk6z:(kd:Int)<=6:=by omega
      have hwk:IntKind.i64.wrap ((kd:Int)+1)=(kd:Int)+1:=by rw[yye_];omega
      by_cases hk1:kd=1
      case' pos =>
       have hk1b:((kd:Int)==1)=true:=by rw[hk1];rfl
       have hk1c:(kd:Int)=1:=by rw[hk1];rfl
       clear hk1 hk1c
       go_wp2_with (go_at_call 10
                    refine(wh_ (g:=g2) (fun q hq=>zzk_ (HI5.out.net.Ilt q hq) (zK_ wr _).size) (m:=9) (by omega) (by omega)).mono ?_
                    rintro e w5 ⟨rfl,hb5⟩
                    have hw5:w5.heap[wr.heap.size]?=some (.cells #[.int .i64 kd,.int .i64 0,.int .i64 0,.int .i64 0] 46 (0,0)):=(hb5.block _ (by simp)).trans (heap_alloc_new wr _)
                    have hbw:Below wr.heap.size wr w5:=(zK_ wr _).trans (Below.mono1 hb5 (by simp))
                    have hzs:wr.heap.size+1<=w5.heap.size:=by have:=hb5.size;simpa using this
                    obtain⟨st,hst⟩:∃st,x%9=st:=⟨_,rfl⟩
                    rw[hst]
                    obtain⟨Z1,hZ1⟩:∃Y,w5.setCell ⟨wr.heap.size,2,none⟩ (.int .i64 st)=Y:=⟨_,rfl⟩
                    obtain⟨Wy,hZ2⟩:∃Y,Z1.setCell ⟨wr.heap.size,3,none⟩ (.int .i64 (jj:Int))=Y:=⟨_,rfl⟩
                    obtain⟨a0,a1,a2,a3,a4,a5,a6,a7⟩:=set4 hw5 (r:=.int .i64 0) rfl hZ1
                    obtain⟨b0,b1,b2,b3,b4,b5,b6,b7⟩:=set4 a2 (r:=.int .i64 0) rfl hZ2
                    have hyc:Wy.heap[wr.heap.size]?=some (.cells #[.int .i64 (kd:Int),.int .i64 0,.int .i64 st,.int .i64 (jj:Int)] 46 (0,0)):=b2
                    have hby:Below wr.heap.size wr Wy:=⟨by rw[b4,a4,hbw.os],by rw[b5,a5,hbw.tape],by rw[b6,a6,hbw.output],by omega,fun q hq=>by rw[b7 q (by omega),a7 q (by omega)];exact hbw.block q hq⟩
                    have hzy:wr.heap.size<Wy.heap.size:=by omega
                    obtain⟨ss,hss⟩:∃ss,(jj:Int)=ss:=⟨_,rfl⟩
                    rw[hss]at hyc
                    clear a2 a3 a4 a5 a6 a7 b2 b3 b4 b5 b6 b7 hw5 hbw hb5 hzs hst hss)
       go_wp2
      case' neg =>
       have hk1z:((kd:Int)==1)=false:=by rw[beq_eq_false_iff_ne];omega
       have hk1y:¬(kd:Int)=1:=by omega
       go_wp2
       obtain⟨Wy,hWy⟩:∃Wy,wr.alloc (.cells #[.int .i64 kd,.int .i64 0,.int .i64 0,.int .i64 0] 46)=Wy:=⟨_,rfl⟩
       obtain⟨st,hst⟩:∃st:Int,st=0:=⟨_,rfl⟩
       obtain⟨ss,hss⟩:∃ss:Int,ss=0:=⟨_,rfl⟩
       have hyc:Wy.heap[wr.heap.size]?=some (.cells #[.int .i64 kd,.int .i64 0,.int .i64 st,.int .i64 ss] 46 (0,0)):=by rw[<-hWy,hst,hss];exact heap_alloc_new wr _
       have hby:Below wr.heap.size wr Wy:=by rw[<-hWy];exact zK_ wr _
       have hzy:wr.heap.size<Wy.heap.size:=by rw[<-hWy];simp
       rw[hWy]
       clear hWy hst hss
      all_goals
       have hnY:=HI5.out.net.below hby
       have hPY:=HI5.out.bel hby
       have hinv:=HI5.out.rch.inv (qe_ HMD.out)
       have x0':=hnY.x0
       have x1':=hnY.x1
       have x2':=hnY.x2
       have hbc2:=hnY.bcn
       obtain⟨qA,qc,hqv',hqc1,hqc2,hqcell⟩:=xB_ hnY.hq
       have hlq:(zi Q).length=Q.length:=uh_ Q
       have hQp:=HSM.out.ne
       have hQ64:=HMD.out.l64
       have hp0:=Int.emod_nonneg x (b:=(Q.length:Int)) (by omega)
       have hp1:=Int.emod_lt_of_pos x (b:=(Q.length:Int)) (by omega)
       obtain⟨p,hpe⟩:∃p:Nat,x%(Q.length:Int)=(p:Int):=⟨(x%(Q.length:Int)).toNat,by omega⟩
       have hpQ:p<Q.length:=by omega
       obtain⟨qb,qo,hqA,hqI,hqc⟩:=hqcell p (by rw[hlq];exact hpQ)
       obtain⟨qx,hqx⟩:∃qx,(zi Q)[p]'(by rw[hlq];exact hpQ)=qx:=⟨_,rfl⟩
       rw[hqx]at hqc
       clear hqcell hqx
       rw[hqA,hlq]at hqv'
       rw[hqv']at x1'
       have hhq:=hnY.hq
       rw[hqv']at hhq
       obtain⟨u0,u1,u2,u3,u4,u5,u6,u7,u8,u9,u10,t0,t1,t2,t3,t4,t5,t6,t7,t8,t9,t10,hrv,-,-,-⟩:=hnY.st hm'
       obtain⟨m0,m1,m2,m3⟩:=lE_ hyc
       have hsm:=tO_ (hinv.vo i hm') hnY.n9
       have hc2:∀wx,Below Wy.heap.size Wy wx->Calls Try.prog 14 #[.agg #[u0,u1,u2,u3,u4,u5,u6,u7,u8,u9,u10],.agg #[.int .i64 k,.slice (some ⟨qb,qo,none⟩) Q.length qc],.int .i64 i,.int .i64 jj,.int .i64 qx,.agg #[.int .i64 (kd:Int),.int .i64 0,.int .i64 st,.int .i64 ss]] wx fun e w'=>e=.returned (.bool true)/\Below wx.heap.size wx w':=fun wx h =>
        u9_ (g:=g2) (fun q hq=>zzk_ (hnY.Ilt q hq) h.size) (b:=toBl (B i)) (q:=zi Q) (m:=⟨(kd:Int),0,st,ss⟩) (by omega) hsm.2.1 hsm.2.2 (iM_ HMD.out hinv hm') (xZ_ hrv (hnY.keepI h)) (zu_ hhq rfl (hnY.keepI h)) rfl
       have hB1:Below Wy.heap.size Wy Wy.drew:=⟨rfl,rfl,rfl,zzl_ _,fun _ _=>rfl⟩
       have hXl:X<Wy.heap.size:=(hnY.tz X (by rw[hnY.tag.x];omega)).1
       have hBl:h2.bk<Wy.heap.size:=(hnY.tz _ (by rw[hnY.tag.b];omega)).1
       have hql:qb<Wy.heap.size:=hnY.Ilt qb hqI
       have hS:∀wx,Below Wy.heap.size Wy wx->wx.cell? ⟨X,0,none⟩=some (.int .i64 k)/\wx.cell? ⟨X,1,none⟩=some (Value.slice (some ⟨qb,qo,none⟩) Q.length qc)/\wx.cell? ⟨X,2,none⟩=some (.slice (some ⟨h2.bk,0,none⟩) k h2.bc)/\wx.cell? ⟨h2.bk,i*11,none⟩=some u0/\wx.cell? ⟨h2.bk,i*11+1,none⟩=some u1/\wx.cell? ⟨h2.bk,i*11+2,none⟩=some u2/\wx.cell? ⟨h2.bk,i*11+3,none⟩=some u3/\wx.cell? ⟨h2.bk,i*11+4,none⟩=some u4/\wx.cell? ⟨h2.bk,i*11+5,none⟩=some u5/\wx.cell? ⟨h2.bk,i*11+6,none⟩=some u6/\wx.cell? ⟨h2.bk,i*11+7,none⟩=some u7/\wx.cell? ⟨h2.bk,i*11+8,none⟩=some u8/\wx.cell? ⟨h2.bk,i*11+9,none⟩=some u9/\wx.cell? ⟨h2.bk,i*11+10,none⟩=some u10/\wx.cell? ⟨qb,qo+p,none⟩=some (.int .i64 qx)/\wx.cell? ⟨wr.heap.size,0,none⟩=some (.int .i64 kd)/\wx.cell? ⟨wr.heap.size,1,none⟩=some (.int .i64 0)/\wx.cell? ⟨wr.heap.size,2,none⟩=some (.int .i64 st)/\wx.cell? ⟨wr.heap.size,3,none⟩=some (.int .i64 ss):=fun wx h =>
        ⟨z0_ h x0' hXl,z0_ h x1' hXl,z0_ h x2' hXl,z0_ h t0 hBl,z0_ h t1 hBl,z0_ h t2 hBl,z0_ h t3 hBl,z0_ h t4 hBl,z0_ h t5 hBl,z0_ h t6 hBl,z0_ h t7 hBl,z0_ h t8 hBl,z0_ h t9 hBl,z0_ h t10 hBl,z0_ h hqc hql,z0_ h m0 hzy,z0_ h m1 hzy,z0_ h m2 hzy,z0_ h m3 hzy⟩
       have hM10:∀wx,Below Wy.heap.size Wy wx->Calls Try.prog 10 #[.int .i64 x,.int .i64 Q.length] wx fun e w'=>e=.returned (.int .i64 p)/\Below wx.heap.size wx w':=fun wx h=>by
        refine(wh_ (g:=g2) (fun q hq=>zzk_ (hnY.Ilt q hq) h.size) (x:=x) (m:=(Q.length:Int)) (by omega) (by omega)).mono ?_
        rintro e w' ⟨rfl,hb⟩
        exact⟨by rw[hpe],hb⟩
       have HS:=Lib.hid hS
       have HC2:=Lib.hid hc2
       have HM10:=Lib.hid hM10
       have HPY:=Lib.hid hPY
       have HHY:=Lib.hid (And.intro hXl (And.intro hBl (And.intro hql hzy)))
       have hpz:(p:Int)<(Q.length:Int):=by omega
       have hpn:¬(p:Int)<0:=by omega
       clear hnY hPY hinv x0' x1' x2' hhq hqv' hqc t0 t1 t2 t3 t4 t5 t6 t7 t8 t9 t10 hrv m0 m1 m2 m3 hsm hc2 hS hM10 hXl hBl hql hzy hyc hby hp0 hp1 hpe hpQ hqI hqA
       generalize Q.length=nQ at *
       clear hlq hqc1 hqc2 hQp hQ64 hbc2
       go_region_held3 (fun wx=>wx.cell? ⟨X,0,none⟩=some (.int .i64 k)/\wx.cell? ⟨X,1,none⟩=some (Value.slice (some ⟨qb,qo,none⟩) nQ qc)/\wx.cell? ⟨X,2,none⟩=some (.slice (some ⟨h2.bk,0,none⟩) k h2.bc)/\wx.cell? ⟨h2.bk,i*11,none⟩=some u0/\wx.cell? ⟨h2.bk,i*11+1,none⟩=some u1/\wx.cell? ⟨h2.bk,i*11+2,none⟩=some u2/\wx.cell? ⟨h2.bk,i*11+3,none⟩=some u3/\wx.cell? ⟨h2.bk,i*11+4,none⟩=some u4/\wx.cell? ⟨h2.bk,i*11+5,none⟩=some u5/\wx.cell? ⟨h2.bk,i*11+6,none⟩=some u6/\wx.cell? ⟨h2.bk,i*11+7,none⟩=some u7/\wx.cell? ⟨h2.bk,i*11+8,none⟩=some u8/\wx.cell? ⟨h2.bk,i*11+9,none⟩=some u9/\wx.cell? ⟨h2.bk,i*11+10,none⟩=some u10/\wx.cell? ⟨qb,qo+p,none⟩=some (.int .i64 qx)/\wx.cell? ⟨wr.heap.size,0,none⟩=some (.int .i64 kd)/\wx.cell? ⟨wr.heap.size,1,none⟩=some (.int .i64 0)/\wx.cell? ⟨wr.heap.size,2,none⟩=some (.int .i64 st)/\wx.cell? ⟨wr.heap.size,3,none⟩=some (.int .i64 ss))
        ((refine HS.out _ ?_;assumption))
        (first
        | (go_at_call 10
           refine(HM10.out _ hB1).mono ?_
           rintro e w6 ⟨rfl,hb6⟩
           have hB6:=hB1.trans (Below.mono1 hb6 hB1.size)
           clear hb6)
        | (go_at_call 14
           refine(HC2.out _ hB6).mono ?_
           rintro e w7 ⟨rfl,hb7⟩
           have hB7:=hB6.trans (Below.mono1 hb7 hB6.size)
           clear hb7))
       all_goals go_wp2
       all_goals go_roundg (6-kd)
       case measure=>have:=HKD.out;omega
       case rel=>exact⟨kd+1,rfl,by have:=HKD.out;omega,by omega,HPY.out.bel hB7⟩
     .have hk6z:¬(kd:Int)<=6:=by omega
      go_wp2
      go_roundg (k-(i+1))
      case measure=>have:=HIK.out;omega
      case rel=>exact⟨i+1,rfl,by have:=HIK.out;omega,HI5.out⟩
   .have hiz:¬(i:Int)<(k:Int):=by omega
    go_wp2_with (first
     | (go_at_call 8
        refine(uc_ HI.out.net.Ilt).mono ?_
        rintro e w4 ⟨rfl,hb4⟩
        have HI4:=Lib.hid (HI.out.bel hb4)
        clear hb4)
     | (go_at_call 25
        refine(oC_ HI4.out.net.Ilt).mono ?_
        rintro e w5 ⟨v5,g5,rfl,hr5,hb5,hl5⟩
        have H5:=Lib.hid (And.intro hr5 (And.intro (HI4.out.below.trans (Below.mono1 hb5 HI4.out.below.size)) hl5))
        clear hr5 hb5 hl5)
     | (go_at_call 26
        refine(qQ_ H5.out.2.2 H5.out.1).mono ?_
        rintro e w6 ⟨v6,g6,rfl,hr6,hr7,hb6,hl6⟩
        have H6:=Lib.hid (And.intro hr6 (And.intro hr7 (And.intro (H5.out.2.1.trans (Below.mono1 hb6 H5.out.2.1.size)) hl6)))
        clear hr6 hr7 hb6 hl6)
     | (go_at_call 17
        refine(sX_ H6.out.2.2.2 H6.out.1 H6.out.2.1).mono ?_
        rintro e w7 ⟨rfl,hb7⟩
        have H7:=Lib.hid (H6.out.2.2.1.trans (Below.mono1 hb7 H6.out.2.2.1.size))
        clear hb7))
    all_goals go_wp2
    all_goals go_ret
    all_goals exact HF.out _ ((RD.out _ HB1.out).1.trans (Below.mono1 H7.out (RD.out _ HB1.out).1.size))
section
structure Rd(w:World)(g:Gh)(cs:List Value)(xs:List V):Prop where
 len:xs.length=cs.length
 rep:∀(j:Nat) (x:V) (c:Value),xs[j]?=some x->cs[j]?=some c->Rep (allG w g) w x c/\immC x=true/\c.oneCell'=true
def wK_(P:Program)(e:TypeId)(xs:List V):V:=if aggT P e=some true then .agg xs else xs.headD .no
def Shape(P:Program):Nat->TypeId->List V->Prop
 |0,_,_=>False
 | f + 1, t, xs =>
   match P.underlying t with
   |some .bool=>∃b,xs=[.s (.bool b)]
   |some (.int k)=>∃n,(Lit.int k n).wf=true/\xs=[.s (.int k n)]
   |some .string=>∃s:ByteArray,s.size<=maxLen/\xs=[.s (.string s)]
   |some (.slice e)=>∃els:List (List V),xs=[.list (P.cellsOf e) (els.map (wK_ P e))]/\els.length<=maxLen/\∀el∈els,Shape P f e el
   |some (.struct fs)=>∃parts:List (List V),xs=parts.flatten/\parts.length=fs.size/\∀(i:Nat) (fl:Field) (p:List V),fs[i]?=some fl->parts[i]?=some p->Shape P f fl.type p
   |_=>False
def qw_(P:Program):List Field->Nat->Bool
 |[],_=>true
 |f::r,off=>decide (f.offset=off)&&qw_ P r (off+P.cellsOf f.type)
def wt_(P:Program):List Field->Nat
 |[]=>0
 |f::r=>P.cellsOf f.type+wt_ P r
def okTy(P:Program):Nat->TypeId->Bool
 |0,_=>false
 | f + 1, t =>
   match P.underlying t with
   |some .bool|some (.int _)|some .string=>Nat.beq (P.cellsOf t) 1
   |some (.slice e)=>Nat.beq (P.cellsOf t) 1&&okTy P f e&&((match aggT P e with|some true=>true|some false=>Nat.beq (P.cellsOf e) 1|none=>false))
   |some (.struct fs)=>qw_ P fs.toList 0&&Nat.beq (wt_ P fs.toList) (P.cellsOf t)&&fs.all fun fl=>okTy P f fl.type
   |_=>false
section
variable{H:Type}{enc:TypeId×Value->H}{P:Program}{w:World}{g:Gh}{base:Nat}{sp:Nat->Bool}{held:Bool}
theorem sE_:∀(fs:List Field) (off:Nat) (cs:List Value) (parts:List (List V)),qw_ P fs off=true->off+wt_ P fs=cs.length->parts.length=fs.length ->
 (∀(i:Nat) (fl:Field) (p:List V),fs[i]?=some fl->parts[i]?=some p->Rd w g ((cs.drop fl.offset).take (P.cellsOf fl.type)) p)->Rd w g (cs.drop off) parts.flatten
 | [], off, cs, parts, hc, hl, hp, h => by
   have:parts=[]:=List.length_eq_zero_iff.1 hp
   subst this
   simp only[wt_,Nat.add_zero]at hl
   rw[List.drop_of_length_le (by omega)]
   exact⟨rfl,fun j x c hx=>by simp at hx⟩
 |f::r,off,cs,[],hc,hl,hp,h=>by simp at hp
 | f :: r, off, cs, p :: ps, hc, hl, hp, h => by
   simp only[qw_,zzg_,zzp_]at hc
   simp only[wt_]at hl
   have h0:=h 0 f p rfl rfl
   have ih:=sE_ r (off+P.cellsOf f.type) cs ps hc.2 (by omega) (by simpa using hp) (fun i fl q hi hq=>h (i+1) fl q (by simpa using hi) (by simpa using hq))
   rw[hc.1]at h0
   have hp0:p.length=P.cellsOf f.type:=by rw[h0.len];simp;omega
   refine⟨?_,fun j x c hx hcj=>?_⟩
   .have:=ih.len
    simp only[List.flatten_cons,zzr_,List.length_drop]at this ⊢
    omega
   .simp only[List.flatten_cons,List.getElem?_append]at hx
    split at hx
    .next hj =>
     refine h0.rep j x c hx ?_
     rw[zzu_,if_pos (by omega)]
     exact hcj
    .next hj =>
     refine ih.rep (j-p.length) x c hx ?_
     rw[zzA_]at hcj ⊢
     rw[<-hcj]
     congr 1
     omega
theorem o9_{c:Value}(h:c.oneCell'=true):Rd w g [c] [.s c]:=⟨rfl,fun j x c' hx hc=>by
 cases j with
 |zero=>simp at hx hc;subst hx hc;exact⟨.s h,rfl,h⟩
 |succ j=>simp at hx⟩
theorem wn_{α:Type}{Q:Nat->α->Prop}:∀(n:Nat),(∀i,i<n->∃a,Q i a)->∃l:List α,l.length=n/\∀(i:Nat) (a:α),l[i]?=some a->Q i a
 |0,_=>⟨[],rfl,by simp⟩
 | n + 1, h => by
   obtain⟨l,h1,h2⟩:=wn_ n (fun i hi=>h i (by omega))
   obtain⟨a,ha⟩:=h n (by omega)
   refine⟨l++[a],by simp[h1],fun i b hi=>?_⟩
   rw[List.getElem?_append]at hi
   split at hi
   .exact h2 i b hi
   ·have:i=n:=by
     have:=(zzc_.1 hi).1
     simp at this
     omega
    subst this
    rw[h1]at hi
    simp at hi
    subst hi
    exact ha
theorem uZ_:∀(dep:Nat) (t:TypeId),okTy P dep t=true->∀(fuel:Nat) (cs:List Value) (x:DataW H×List MemPlace),DataW.trod enc P w base sp held fuel t cs=some x->∃xs,Rd w g cs xs/\Shape P dep t xs/\cs.length=P.cellsOf t
 |0,t,h=>by simp[okTy]at h
 | dep + 1, t, hok => fun fuel cs x h => by
   unfold okTy at hok
   unfold Shape
   cases hu:P.underlying t with
   |none=>rw[hu]at hok;simp at hok
   | some td =>
     rw[hu]at hok
     cases td with
     | bool =>
       have h1:=yyq_ hok
       obtain⟨b,rfl⟩:∃b,cs=[.bool b]:=by
        cases fuel with
        |zero=>simp[DataW.trod]at h
        | succ n =>
          unfold DataW.trod at h
          rw[hu]at h
          split at h<;>simp_all
       exact⟨[.s (.bool b)],o9_ rfl,⟨b,rfl⟩,by simp[h1]⟩
     | int k =>
       have h1:=yyq_ hok
       obtain⟨n,hn,rfl⟩:∃n,(Lit.int k n).wf=true/\cs=[.int k n]:=by
        cases fuel with
        |zero=>simp[DataW.trod]at h
        | succ n =>
          unfold DataW.trod at h
          rw[hu]at h
          split at h<;>simp_all
       exact⟨[.s (.int k n)],o9_ rfl,⟨n,hn,rfl⟩,by simp[h1]⟩
     | string =>
       have h1:=yyq_ hok
       obtain⟨s,hs,rfl⟩:∃s:ByteArray,s.size<=maxLen/\cs=[.string s]:=by
        cases fuel with
        |zero=>simp[DataW.trod]at h
        | succ n =>
          unfold DataW.trod at h
          rw[hu]at h
          split at h<;>simp_all
       exact⟨[.s (.string s)],o9_ rfl,⟨s,hs,rfl⟩,by simp[h1]⟩
     | slice e =>
       simp only[zzg_]at hok
       obtain⟨⟨h1,h2⟩,h3⟩:=hok
       have h1:=yyq_ h1
       simp only
       rcases DataW.trod_slice hu h with ⟨rfl,_⟩|⟨a,len,cap,elems,rest,n,rfl,rfl,rfl,hb,hl,hm,hel,hget,_,_⟩
       ·exact⟨[.list (P.cellsOf e) []],⟨rfl,fun j x c hx hc=>by
         cases j with
         | zero =>
           simp at hx hc
           subst hx hc
           exact⟨.list (fun _=>undef) (zzl_ _) (zzn_ _) (fun _=>rfl) (by simp) (by simp[flat]) (fun j hj=>by simp[flat]at hj) (fun j u hu=>by simp[flat]at hu),rfl,rfl⟩
         |succ j=>simp at hx⟩,⟨[],rfl,zzn_ _,by simp⟩,by simp[h1]⟩
       · -- the elements
         have hone:∀i,i<len->∃(cs':List Value) (xs:List V),w.cells? base (a.add (i*P.cellsOf e)) (P.cellsOf e)=some cs'/\Rd w g cs' xs/\Shape P dep e xs/\cs'.length=P.cellsOf e:=by
          intro i hi
          have:=hget i hi
          rw[zzf_ (by omega)]at this
          obtain⟨cs',k1,k2⟩:=zza_.1 this
          obtain⟨xs,k3,k4,k5⟩:=uZ_ dep e h2 _ _ _ k2
          exact⟨cs',xs,k1,k3,k4,k5⟩
         obtain⟨els,e1,e2⟩:=wn_ (Q:=fun i xs=>∃cs':List Value,w.cells? base (a.add (i*P.cellsOf e)) (P.cellsOf e)=some cs'/\Rd w g cs' xs/\Shape P dep e xs/\cs'.length=P.cellsOf e) len (fun i hi=>by
          obtain⟨cs',xs,q⟩:=hone i hi
          exact⟨xs,cs',q⟩)
         have hlen:∀el∈els,el.length=P.cellsOf e:=fun el hel'=>by
          obtain⟨i,hi⟩:=List.mem_iff_getElem?.1 hel'
          obtain⟨cs',q1,q2,q3,q4⟩:=e2 i el hi
          rw[q2.len,q4]
         have hcells:∀el∈els,cellsOf (wK_ P e el)=el:=fun el hel'=>by
          have hl':=hlen el hel'
          unfold wK_
          cases hag:aggT P e with
          |none=>rw[hag]at h3;cases h3
          | some b =>
            cases b with
            |true=>simp[cellsOf]
            | false =>
              rw[hag]at h3
              have h3:=yyq_ h3
              rw[h3]at hl'
              obtain⟨y,rfl⟩:=List.length_eq_one_iff.1 hl'
              obtain⟨i,hi⟩:=List.mem_iff_getElem?.1 hel'
              obtain⟨cs',q1,q2,q3,q4⟩:=e2 i [y] hi
              have hc0:∃c,cs'[0]?=some c:=⟨cs'[0]'(by omega),by simp[(by omega:0<cs'.length)]⟩
              obtain⟨c,hc⟩:=hc0
              have hi':=(q2.rep 0 y c rfl hc).2.1
              simp only[yya_,yyi_,if_false,List.headD_cons]
              cases y<;>simp[immC]at hi'<;>rfl
         have hz:∀y∈els.map (wK_ P e),(cellsOf y).length=P.cellsOf e:=fun y hy=>by
          obtain⟨el,q1,rfl⟩:=List.mem_map.1 hy
          rw[hcells el q1,hlen el q1]
         have hfl:=zf_ hz
         rw[List.length_map,e1]at hfl
         -- one cell among all
         have hat:∀j,j<len*P.cellsOf e->∃(i o:Nat) (el:List V) (u:V) (c:Value),j=i*P.cellsOf e+o/\els[i]?=some el/\el[o]?=some u/\(flat (els.map (wK_ P e)))[j]?=some u/\w.cell? (a.add j)=some c/\Rep (allG w g) w u c/\immC u=true:=by
          intro j hj
          have hz0:0<P.cellsOf e:=by
           rcases yyo_ (P.cellsOf e) with q|q
           .rw[q]at hj;omega
           .exact q
          have hi:j/P.cellsOf e<len:=(Nat.div_lt_iff_lt_mul hz0).2 hj
          have ho:j%P.cellsOf e<P.cellsOf e:=Nat.mod_lt _ hz0
          have hje:j=j/P.cellsOf e*P.cellsOf e+j%P.cellsOf e:=by rw[Nat.mul_comm];exact(Nat.div_add_mod _ _).symm
          have hel':els[j/P.cellsOf e]?=some (els[j/P.cellsOf e]'(by omega)):=zzf_ (by omega)
          generalize els[j/P.cellsOf e]'(by omega)=el at hel'
          obtain⟨cs',q1,q2,q3,q4⟩:=e2 _ el hel'
          have hm:=zzd_ hel'
          have hu:el[j%P.cellsOf e]?=some (el[j%P.cellsOf e]'(by rw[hlen el hm];exact ho)):=by simp
          generalize el[j%P.cellsOf e]'(by rw[hlen el hm];exact ho)=u at hu
          have hc:cs'[j%P.cellsOf e]?=some (cs'[j%P.cellsOf e]'(by rw[q4];exact ho)):=by simp
          generalize cs'[j%P.cellsOf e]'(by rw[q4];exact ho)=c at hc
          obtain⟨_,_,q5⟩:=World.cells?_some q1
          have q6:=q5 _ ho
          rw[Addr.add_add,<-hje,hc]at q6
          obtain⟨r1,r2,_⟩:=q2.rep _ u c hu hc
          refine⟨_,_,el,u,c,hje,hel',hu,?_,q6,r1,r2⟩
          have hx:(els.map (wK_ P e))[j/P.cellsOf e]?=some (wK_ P e el):=by rw[zzs_,hel'];rfl
          have:=w6_ hz hx ho
          rw[hcells el hm,<-hje]at this
          rw[this,hu]
         have hrd:Rep (allG w g) w (.list (P.cellsOf e) (els.map (wK_ P e))) (.slice (some a) (els.map (wK_ P e)).length cap):=by
          refine .list (fun j=>(w.cell? (a.add j)).getD undef) (by simp;omega) hm (fun q=>by cases q) hz (fun u hu=>?_) (fun j hj=>?_) (fun j u hu=>?_)
          .obtain⟨j,hj⟩:=List.mem_iff_getElem?.1 hu
           have hjl:=(zzc_.1 hj).1
           obtain⟨_,_,_,u',c,_,_,_,q4,_,_,q7⟩:=hat j (by omega)
           rw[hj]at q4
           cases q4
           exact q7
          .obtain⟨_,_,_,u',c,_,_,_,_,q5,_,_⟩:=hat j (by omega)
           have h0:∃c0,w.cell? (a.add 0)=some c0:=by
            obtain⟨_,_,_,_,c0,_,_,_,_,q,_,_⟩:=hat 0 (by omega)
            exact⟨c0,q⟩
           obtain⟨c0,h0⟩:=h0
           have ha:a=⟨a.block,a.off,none⟩:=by
            have e0:a.add 0=a:=by simp[Addr.add]
            rw[e0]at h0
            obtain⟨b,o,s⟩:=a
            cases s with
            |none=>rfl
            | some q =>
              unfold World.cell? at h0
              split at h0
              .simp at h0
              .cases h0
           have hadd:a.add j=⟨a.block,a.off+j,none⟩:=by rw[ha,zN_]
           rw[hadd]at q5
           refine⟨a.block,a.off,congrArg some ha,ny_ q5,?_⟩
           rw[hadd,q5]
           rfl
          .have hjl:=(zzc_.1 hu).1
           obtain⟨_,_,_,u',c,_,_,_,q4,q5,q6,_⟩:=hat j (by omega)
           rw[hu]at q4
           cases q4
           rw[q5]
           exact q6
         refine⟨[.list (P.cellsOf e) (els.map (wK_ P e))],⟨rfl,fun j x c hx hc=>?_⟩,⟨els,rfl,by omega,fun el hel'=>?_⟩,by simp[h1]⟩
         .cases j with
          | zero =>
            simp only[List.getElem?_cons_zero,yya_]at hx hc
            subst hx hc
            rw[List.length_map,e1]at hrd
            exact⟨hrd,rfl,rfl⟩
          |succ j=>simp at hx
         .obtain⟨i,hi⟩:=List.mem_iff_getElem?.1 hel'
          obtain⟨_,_,_,q,_⟩:=e2 i el hi
          exact q
     | struct fs =>
       simp only[zzg_]at hok
       obtain⟨⟨h1,h2⟩,h3⟩:=hok
       have h2:=yyq_ h2
       obtain⟨xs,n,rfl,rfl,k1,k2,k3⟩:=DataW.trod_struct hu h
       have hone:∀(i:Nat) (fl:Field),fs[i]?=some fl->∃p,Rd w g ((cs.drop fl.offset).take (P.cellsOf fl.type)) p/\Shape P dep fl.type p:=by
        intro i fl hi
        have hi':=(zzm_.1 hi).1
        have:=k3 i fl hi
        rw[zzf_ (by omega)]at this
        obtain⟨p,q1,q2,_⟩:=uZ_ dep fl.type (by
         rw[Array.all_eq_true]at h3
         have:=h3 i hi'
         have e:fs[i]=fl:=by simpa[hi'] using hi
         rw[e]at this
         exact this) _ _ _ this
        exact⟨p,q1,q2⟩
       have hex:∃parts:List (List V),parts.length=fs.size/\∀(i:Nat) (fl:Field) (p:List V),fs[i]?=some fl->parts[i]?=some p->Rd w g ((cs.drop fl.offset).take (P.cellsOf fl.type)) p/\Shape P dep fl.type p:=by
        obtain⟨parts,e1,e2⟩:=wn_ (Q:=fun i p=>∀fl,fs[i]?=some fl->Rd w g ((cs.drop fl.offset).take (P.cellsOf fl.type)) p/\Shape P dep fl.type p) fs.size (fun i hi=>by
         obtain⟨p,hp⟩:=hone i fs[i] (by simp[hi])
         refine⟨p,fun fl hfl=>?_⟩
         have:fs[i]=fl:=by simpa[hi] using hfl
         rw[<-this]
         exact hp)
        exact⟨parts,e1,fun i fl p hi hp=>e2 i p hp fl hi⟩
       obtain⟨parts,m1,m2⟩:=hex
       refine⟨parts.flatten,?_,⟨parts,rfl,m1,fun i fl p hi hp=>(m2 i fl p hi hp).2⟩,k1⟩
       have:=sE_ (w:=w) (g:=g) fs.toList 0 cs parts h1 (by omega) (by simpa using m1) (fun i fl p hi hp=>(m2 i fl p (by simpa using hi) hp).1)
       simpa using this
     |_=>simp at hok
end
end
end Go.Proofs.Ytpfjlnmnolbiaaa
namespace Go.Proofs.Ytpfjlnmnolbiaaa
open Go.RowKit Go.WideShapes
def g00:Gh:=⟨fun _=>0,fun _=>0⟩
def y6_(P:Program)(dep:Nat)(t:TypeId)(x:V):Prop :=
 match P.underlying t with
 |some (.struct _)=>∃xs,x=.agg xs/\Shape P dep t xs
 |_=>Shape P dep t [x]
section
variable{H:Type}{enc:TypeId×Value->H}{P:Program}{w:World}{base:Nat}{sp:Nat->Bool}{held:Bool}
theorem x7_{dep b2:Nat}{t:TypeId}{v:Value}{d:DataW H}{ps:List MemPlace}(hok:okTy P dep t=true)(hval:Value.okWide P w .any b2 t v)(htr:DataW.Trod enc P w base sp held t v d ps) :
 ∃x,Rep (allG w g00) w x v/\immA x=true/\y6_ P dep t x:=by
 obtain⟨fuel,h⟩:=htr
 obtain⟨xs,h1,h2,h3⟩:=uZ_ (g:=g00) dep t hok _ _ _ h
 cases dep with
 |zero=>simp[okTy]at hok
 | succ dep =>
   have hone:(∀cs,v≠.agg cs)->v.cells.toList.length=1->∃x,xs=[x]/\Rep (allG w g00) w x v/\immC x=true:=by
    intro hna hl
    have hlx:xs.length=1:=by rw[h1.len,hl]
    obtain⟨x,rfl⟩:=List.length_eq_one_iff.1 hlx
    have hc:v.cells.toList[0]?=some v:=by cases v<;>first|rfl|exact absurd rfl (hna _)
    obtain⟨k1,k2,_⟩:=h1.rep 0 x v rfl hc
    exact⟨x,rfl,k1,k2⟩
   have hsc:∀td,P.underlying t=some td->(∀fs,td≠.struct fs)->(∀cs,v≠.agg cs)->∃x,Rep (allG w g00) w x v/\immA x=true/\y6_ P (dep+1) t x:=by
    intro td hu hns hna
    obtain⟨x,rfl,k1,k2⟩:=hone hna (by cases v<;>first|rfl|exact absurd rfl (hna _))
    refine⟨x,k1,by cases x<;>first|exact k2|(simp[immC]at k2),?_⟩
    unfold y6_
    rw[hu]
    cases td<;>first|exact absurd rfl (hns _)|exact h2
   cases hu:P.underlying t with
   |none=>unfold okTy at hok;rw[hu]at hok;simp at hok
   | some td =>
     cases td with
     |bool=>obtain⟨b,rfl⟩:=okWide_bool hu hval;exact hsc _ hu (by simp) (by simp)
     |int k=>obtain⟨n,rfl⟩:=okWide_int hu hval;exact hsc _ hu (by simp) (by simp)
     |string=>obtain⟨s,rfl⟩:=okWide_string hu hval;exact hsc _ hu (by simp) (by simp)
     |slice e=>obtain⟨a,l,c,rfl⟩:=okWide_slice hu hval;exact hsc _ hu (by simp) (by simp)
     | struct fs =>
       obtain⟨cs,rfl,hsz⟩:=okWide_struct hu hval
       have hcells:(Value.agg cs).cells.toList=cs.toList:=rfl
       rw[hcells]at h1
       refine⟨.agg xs,.agg (by simpa using h1.len) (fun c hc=>?_) (fun j u c hu' hc=>(h1.rep j u c hu' (by simpa using hc)).1),?_,?_⟩
       .obtain⟨j,hj⟩:=List.mem_iff_getElem?.1 hc
        have hjl:j<xs.length:=by rw[h1.len];exact(zzc_.1 hj).1
        exact(h1.rep j _ c (zzf_ hjl) hj).2.2
       .simp only[immA,zzh_]
        intro u hu'
        obtain⟨j,hj⟩:=List.mem_iff_getElem?.1 hu'
        have hjl:j<cs.toList.length:=by rw[<-h1.len];exact(zzc_.1 hj).1
        exact(h1.rep j u _ hj (zzf_ hjl)).2.1
       .unfold y6_
        rw[hu]
        exact⟨xs,rfl,h2⟩
     |_=>unfold okTy at hok;rw[hu]at hok;simp at hok
theorem oP_{f:FuncId}{args:List V}{vals:Array Value}(hpc:PC P f args (fun r=>r=.s (.bool true)))(hl:args.length=vals.size)(hr:∀(i:Nat) (x:V) (v:Value),args[i]?=some x->vals[i]?=some v->Rep (allG w g00) w x v/\immA x=true) :
 Calls P f vals w fun e w'=>e=.returned (.bool true)/\Below w.heap.size w w':=by
 have himm:∀x∈args,immA x=true:=by
  intro x hx
  obtain⟨i,hi⟩:=List.mem_iff_getElem?.1 hx
  have hil:i<vals.size:=by rw[<-hl];exact(zzc_.1 hi).1
  exact(hr i x vals[i] hi (by simp[hil])).2
 obtain⟨hbd,hno⟩:=uP_ (g:=allG w g00) (w:=w) hl himm (fun i x v h1 h2=>(hr i x v h1 h2).1) (fun k hk=>by
  simp only[allG,g00]at hk
  split at hk
  .next hk'=>exact(zzm_.1 hk').1
  .simp at hk)
 refine(hpc _ w _ hbd).mono ?_
 rintro e w' ⟨v,r,bs',g',rfl,⟨rfl,rfl⟩,_,hb,hex⟩
 have hrep:=hb.rep (.l (.var 0)) _ v ⟨rfl,by simp[z7_,Frn,Act.tv]⟩
 cases hrep
 exact⟨rfl,hex.os,hex.tape,hex.output,hex.size,fun k hk=>(hex.same k hk (hno k)).1⟩
end
end Go.Proofs.Ytpfjlnmnolbiaaa
namespace Go.Proofs.Ytpfjlnmnolbiaaa
open Go.RowKit Go.Proofs
theorem sV_{dep:Nat}{el:List V}(h:Shape Try.prog (dep+1) 3 el):∃n:Int,el=[.s (.int .i64 n)]:=by
 unfold Shape at h
 rw[Try.underlying3]at h
 obtain⟨n,_,hn⟩:=h
 exact⟨n,by simpa using hn⟩
theorem pS_{α:Type}{dep:Nat}{t:TypeId}{f:α->V}(hf:∀el,Shape Try.prog dep t el->∃a,wK_ Try.prog t el=f a):∀(els:List (List V)),(∀el∈els,Shape Try.prog dep t el)->∃m:List α,els.map (wK_ Try.prog t)=m.map f
 |[],_=>⟨[],rfl⟩
 | x :: r, h => by
   obtain⟨m,hm⟩:=pS_ hf r (fun el hel=>h el (by simp[hel]))
   obtain⟨a,ha⟩:=hf x (h x (by simp))
   exact⟨a::m,by rw[List.map_cons,hm,ha];rfl⟩
theorem rR_{dep:Nat}{el:List V}(h:Shape Try.prog (dep+2) 22 el):∃l:List Int,el=[.list 1 (iv l)]:=by
 unfold Shape at h
 rw[Try.underlying22]at h
 obtain⟨els,hx,_,hb⟩:=h
 have e1:Try.prog.cellsOf 3=1:=by kernel_rfl
 have e2:aggT Try.prog 3=some false:=by kernel_rfl
 rw[e1]at hx
 obtain⟨m,hm⟩:=pS_ (f:=fun n:Int=>V.s (.int .i64 n)) (fun el hel=>by
  obtain⟨n,rfl⟩:=sV_ hel
  exact⟨n,by simp[wK_,e2]⟩) els hb
 rw[hm]at hx
 exact⟨m,hx⟩
theorem rS_{dep:Nat}{x:V}(h:y6_ Try.prog (dep+1) 3 x):∃n:Int,x=.s (.int .i64 n):=by
 unfold y6_ at h
 rw[Try.underlying3]at h
 simp only at h
 obtain⟨n,hn⟩:=sV_ h
 exact⟨n,by simpa using hn⟩
theorem kc_{dep:Nat}{x:V}(h:y6_ Try.prog (dep+2) 22 x):∃l:List Int,x=.list 1 (iv l):=by
 unfold y6_ at h
 rw[Try.underlying22]at h
 simp only at h
 obtain⟨l,hl⟩:=rR_ h
 exact⟨l,by simpa using hl⟩
theorem lj_{P:Program}{dep:Nat}{fs:Array Field}{parts:List (List V)}{f0 f1:Field}(e:fs=#[f0,f1])(hl:parts.length=fs.size)
 (h:∀(i:Nat) (fl:Field) (p:List V),fs[i]?=some fl->parts[i]?=some p->Shape P dep fl.type p) :
 ∃a b,parts=[a,b]/\Shape P dep f0.type a/\Shape P dep f1.type b:=by
 subst e
 match parts,hl with
 |[a,b],_=>exact⟨a,b,rfl,h 0 f0 a rfl rfl,h 1 f1 b rfl rfl⟩
theorem jI_{dep:Nat}{x:V}(h:y6_ Try.prog (dep+3) 29 x):∃(n:Int) (q:List Int),x=cP n q:=by
 unfold y6_ at h
 rw[Try.underlying29]at h
 simp only at h
 obtain⟨xs,rfl,h⟩:=h
 unfold Shape at h
 rw[Try.underlying29]at h
 obtain⟨parts,rfl,hl,hp⟩:=h
 obtain⟨a,b,rfl,ha,hb⟩:=lj_ rfl hl hp
 obtain⟨n,rfl⟩:=sV_ ha
 obtain⟨q,rfl⟩:=rR_ hb
 exact⟨n,q,rfl⟩
theorem xu_{dep:Nat}{el:List V}(h:Shape Try.prog (dep+1) 3 el):∃n:Int,i64 n/\el=[.s (.int .i64 n)]:=by
 unfold Shape at h
 rw[Try.underlying3]at h
 obtain⟨n,hw,hn⟩:=h
 refine⟨n,?_,by simpa using hn⟩
 have e1:IntKind.i64.min=-9223372036854775808:=by kernel_rfl
 have e2:IntKind.i64.max=9223372036854775807:=by kernel_rfl
 have hw':(decide (IntKind.i64.min<=n)&&decide (n<=IntKind.i64.max))=true:=hw
 rw[e1,e2,zzg_,zzp_,zzp_]at hw'
 unfold i64
 omega
theorem rT_{dep:Nat}{el:List V}(h:Shape Try.prog (dep+1) 4 el):∃b:Bool,el=[.s (.bool b)]:=by
 unfold Shape at h
 rw[Try.underlying4]at h
 exact h
theorem t0_{dep:Nat}{el:List V}(h:Shape Try.prog (dep+2) 36 el):∃x:Sg,el=[.s (.int .i64 x.t),.s (.int .i64 x.s)]:=by
 unfold Shape at h
 rw[Try.underlying36]at h
 obtain⟨parts,rfl,hl,hp⟩:=h
 obtain⟨a,b,rfl,ha,hb⟩:=lj_ rfl hl hp
 obtain⟨t,_,rfl⟩:=xu_ ha
 obtain⟨s,_,rfl⟩:=xu_ hb
 exact⟨⟨t,s⟩,rfl⟩
theorem tQ_{dep:Nat}{el:List V}(h:Shape Try.prog (dep+3) 37 el):∃l:List Sg,el=[.list 2 (sl l)]:=by
 unfold Shape at h
 rw[Try.underlying37]at h
 obtain⟨els,hx,_,hb⟩:=h
 have e1:Try.prog.cellsOf 36=2:=by kernel_rfl
 have e2:aggT Try.prog 36=some true:=by kernel_rfl
 rw[e1]at hx
 obtain⟨m,hm⟩:=pS_ (f:=Sg.v) (fun el hel=>by
  obtain⟨x,rfl⟩:=t0_ hel
  exact⟨x,by simp[wK_,e2,Sg.v]⟩) els hb
 rw[hm]at hx
 exact⟨m,hx⟩
theorem kb_{dep:Nat}{x:V}(h:y6_ Try.prog (dep+3) 46 x):∃m:Vt,x=m.v:=by
 unfold y6_ at h
 rw[Try.underlying46]at h
 simp only at h
 obtain⟨xs,rfl,h⟩:=h
 unfold Shape at h
 rw[Try.underlying46]at h
 obtain⟨parts,rfl,hl,hp⟩:=h
 match parts,hl with
 | [a, b, c], _ =>
   obtain⟨k,_,rfl⟩:=xu_ (hp 0 _ a rfl rfl)
   obtain⟨t,_,rfl⟩:=xu_ (hp 1 _ b rfl rfl)
   obtain⟨s,rfl⟩:=t0_ (hp 2 _ c rfl rfl)
   exact⟨⟨k,t,s.t,s.s⟩,rfl⟩
theorem pT_{dep:Nat}{x:V}(h:y6_ Try.prog (dep+4) 39 x):∃b:Bl,(i64 b.votes/\i64 b.fail/\i64 b.inqd)/\x=b.v:=by
 unfold y6_ at h
 rw[Try.underlying39]at h
 simp only at h
 obtain⟨xs,rfl,h⟩:=h
 unfold Shape at h
 rw[Try.underlying39]at h
 obtain⟨parts,rfl,hl,hp⟩:=h
 match parts,hl with
 | [p0, p1, p2, p3, p4, p5, p6, p7, p8, p9], _ =>
   obtain⟨a0,_,rfl⟩:=xu_ (hp 0 _ p0 rfl rfl)
   obtain⟨a1,_,rfl⟩:=xu_ (hp 1 _ p1 rfl rfl)
   obtain⟨a2,h2,rfl⟩:=xu_ (hp 2 _ p2 rfl rfl)
   obtain⟨a3,h3,rfl⟩:=xu_ (hp 3 _ p3 rfl rfl)
   obtain⟨a4,h4,rfl⟩:=xu_ (hp 4 _ p4 rfl rfl)
   obtain⟨a5,rfl⟩:=t0_ (hp 5 _ p5 rfl rfl)
   obtain⟨a6,rfl⟩:=rT_ (hp 6 _ p6 rfl rfl)
   obtain⟨a7,rfl⟩:=tQ_ (hp 7 _ p7 rfl rfl)
   obtain⟨a8,rfl⟩:=tQ_ (hp 8 _ p8 rfl rfl)
   obtain⟨a9,rfl⟩:=rT_ (hp 9 _ p9 rfl rfl)
   exact⟨⟨a0,a1,a2,a3,a4,a5,a6,a7,a8,a9⟩,⟨h2,h3,h4⟩,rfl⟩
end Go.Proofs.Ytpfjlnmnolbiaaa
