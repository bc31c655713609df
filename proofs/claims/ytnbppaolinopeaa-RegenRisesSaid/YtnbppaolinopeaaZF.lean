/- Parts of the proof of a law of chapter 30, put behind one another. -/
import Derived.OrdersHeld
import Derived.StillTail
import Derived.Deep.RegionHeld
import Derived.Test.YtnbppaolinopeaaZE
import Derived.Deep.RegionHeld3
import Derived.Deep.AppendLies
import Derived.Laws.MakeOwn
set_option linter.unusedVariables false
set_option maxHeartbeats 64000000
set_option maxRecDepth 100000
set_option linter.unusedSimpArgs false
namespace Go.Proofs.Ytnbppaolinopeaa
open Go Go.Proofs
def zR_(P:Program)(ops:Array Oper)(Q:Exit->Act->World->Prop)(S:World->Prop)(t:Nat):Nat->Array Bool->Act->World->Prop
 |0,listed,a,w=>Region.ready .any ops listed=[]/\Q .normal a w
 | f + 1, listed, a, w =>
   (Region.ready .any ops listed=[]->Q .normal a w) /\
   ∀i∈Region.ready .any ops listed,wpOp P ops Q i (fun a' w'=>((listed.setIfInBounds i true).getD t true=false->S w')/\zR_ P ops Q S t f (listed.setIfInBounds i true) a' w') a w
def Closed(ops:Array Oper)(listed:Array Bool):Prop:=∀j oj,ops[j]?=some oj->listed.getD j false=true->∀e∈oj.after,Region.binds .any e=true->listed.getD e.on false=true
def q4_(ops:Array Oper):Nat->List Nat->List Nat
 |0,L=>L
 |f+1,L=>q4_ ops f (L++L.flatMap fun j=>match ops[j]? with|some o=>(o.after.filter (fun e=>Region.binds .any e)).toList.map (·.on)|none=>[])
section
variable{P:Program}{ops:Array Oper}{Q:Exit->Act->World->Prop}{S:World->Prop}{t:Nat}
theorem uQ_{listed:Array Bool}(hc:Closed ops listed):∀(f:Nat) (L:List Nat),(∀x∈L,listed.getD x false=true)->∀y∈q4_ ops f L,listed.getD y false=true
 |0,L,h,y,hy=>h y hy
 | f + 1, L, h, y, hy => by
   refine uQ_ hc f _ (fun x hx=>?_) y hy
   rcases zzw_.1 hx with hx|hx
   .exact h x hx
   .obtain⟨j,hj,hx⟩:=List.mem_flatMap.1 hx
    split at hx
    .next o ho =>
     obtain⟨e,he,rfl⟩:=List.mem_map.1 hx
     have he':=Array.mem_filter.1 (Array.mem_toList_iff.1 he)
     exact hc j o ho (h j hj) e he'.1 he'.2
    .simp at hx
theorem Closed.set{listed:Array Bool}(hc:Closed ops listed){i:Nat}(hi:i∈Region.ready .any ops listed):Closed ops (listed.setIfInBounds i true):=by
 obtain⟨_,oi,hoi,hall⟩:=mem_ready.1 hi
 intro j oj hj hl e he hb
 by_cases hij:i=j
 .subst hij
  have:oj=oi:=Option.some.inj (hj.symm.trans hoi)
  subst this
  exact getD_set_true (hall e he hb)
 .rw[getD_set_ne false hij]at hl
  exact getD_set_true (hc j oj hj hl e he hb)
theorem vM_:∀(f:Nat) (listed:Array Bool) (a:Act) (w:World),zR_ P ops Q S t f listed a w->wpAny P .any ops Q f listed a w
 |0,_,_,_,h=>h
 |f+1,_,_,_,h=>⟨h.1,fun i hi=>wpOp_mono (fun a' w' h'=>vM_ f _ a' w' h'.2) (h.2 i hi)⟩
theorem wO_{i:Nat}{oi:Oper}{v:Value}{Si:World->Prop}(hi:ops[i]?=some oi)(hit:i≠t)(hsel:∀(j:Nat) (o:Oper) cs b,ops[j]?=some o->o.op≠.select cs b)
 (hQ:∀c a w,Q (.panic c) (a.put oi.dst v) w->Q (.panic c) a w)
 (hSi:∀(listed:Array Bool) (w:World),listed.size=ops.size->Closed ops listed->listed.getD i true=false->(listed.getD t true=false->S w)->Si w) :
 ∀ (f : Nat) (listed : Array Bool) (a : Act) (w : World), listed.size = ops.size → Closed ops listed →
   (∀j oj,ops[j]?=some oj->j≠i->listed.getD j true=false->(∀e∈oj.after,Region.binds .any e=true->e.on≠i)->oi.apart ops oj=true) ->
   i∈Region.ready .any ops listed->YieldsIf P ops Si oi v a->(listed.getD t true=false->S w) ->
   zR_ P ops Q S t f (listed.setIfInBounds i true) (a.put oi.dst v) w->zR_ P ops Q S t (f+1) listed a w:=by
 intro f
 induction f with
 | zero =>
   intro listed a w hsz hcl _ hr hy hS H
   refine⟨fun h=>(by rw[h]at hr;cases hr),fun j hj=>?_⟩
   by_cases hji:j=i
   .subst hji
    refine hy.wpOp hi (hSi listed w hsz hcl (mem_ready.1 hr).1 hS) ⟨fun h=>hS ?_,H⟩
    by_cases e:j=t
    .subst e;exact(mem_ready.1 hr).1
    .rwa [getD_set_ne true e]at h
   .have:=ready_mono hj hji
    rw[H.1]at this
    cases this
 | succ f ih =>
   intro listed a w hsz hcl hfree hr hy hS H
   refine⟨fun h=>(by rw[h]at hr;cases hr),fun j hj=>?_⟩
   by_cases hji:j=i
   .subst hji
    refine hy.wpOp hi (hSi listed w hsz hcl (mem_ready.1 hr).1 hS) ⟨fun h=>hS ?_,H⟩
    by_cases e:j=t
    .subst e;exact(mem_ready.1 hr).1
    .rwa [getD_set_ne true e]at h
   .have h1:=H.2 j (ready_mono hj hji)
    obtain⟨hjun,oj,hoj,hall⟩:=mem_ready.1 hj
    have hnot:∀e∈oj.after,Region.binds .any e=true->e.on≠i:=fun e he hb heq=>by
     have h1:=hall e he hb
     have h0:=(mem_ready.1 hr).1
     rw[heq]at h1
     rcases yym_ i listed.size with h'|h'
     .simp[h']at h0 h1;rw[h0]at h1;cases h1
     .simp[Array.getElem?_eq_none h']at h1
    have h2:=wpOp_putIf hoj (hfree j oj hoj hji hjun hnot) (fun cs b=>hsel i oi cs b hi) (fun cs b=>hsel j oj cs b hoj) hQ hy h1
    have hfree':∀k ok,ops[k]?=some ok->k≠i->(listed.setIfInBounds j true).getD k true=false ->
     (∀e∈ok.after,Region.binds .any e=true->e.on≠i)->oi.apart ops ok=true:=fun k ok hk hki hun hno=>by
     refine hfree k ok hk hki ?_ hno
     by_cases hjk:j=k
     .subst hjk;exact hjun
     .rw[getD_set_ne true hjk]at hun;exact hun
    have hSj:∀w':World,(((listed.setIfInBounds i true).setIfInBounds j true).getD t true=false->S w')->(listed.setIfInBounds j true).getD t true=false->S w':=by
     intro w' hs ht
     refine hs ?_
     rw[Array.setIfInBounds_comm _ _ (Ne.symm hji),getD_set_ne true hit]
     exact ht
    refine wpOp_mono (fun a' w' h3=>⟨hSj w' h3.2.1,ih (listed.setIfInBounds j true) a' w' (by simp[hsz]) (hcl.set hj) hfree' (ready_mono hr (Ne.symm hji)) h3.1 (hSj w' h3.2.1) ?_⟩) h2
    rw[Array.setIfInBounds_comm _ _ hji]
    exact h3.2.2
def w8_(ops:Array Oper)(listed:Array Bool):Bool:=(List.range ops.size).all fun j=>match ops[j]? with|some o=>!listed.getD j false||o.after.all (fun e=>!Region.binds .any e||listed.getD e.on false)|none=>true
theorem wV_{listed:Array Bool}(h:w8_ ops listed=true):Closed ops listed:=by
 intro j oj hj hl e he hb
 have:=zzh_.1 h j (List.mem_range.2 (zzm_.1 hj).1)
 rw[hj]at this
 simp only[hl,Bool.not_true,Bool.false_or]at this
 have:=Array.all_eq_true'.1 this e he
 simpa[hb] using this
theorem uO_{i:Nat}{oi:Oper}{v:Value}{f:Nat}{listed:Array Bool}{a:Act}{w:World}(hi:ops[i]?=some oi)(hit:i≠t)
 (hs:Region.noSelect ops=true) (hf:Region.free .any ops listed i=true) (hr:(Region.ready .any ops listed).contains i=true) (hc:w8_ ops listed=true) (hsz:listed.size=ops.size)
 (hQ:∀c a w,Q (.panic c) (a.put oi.dst v) w->Q (.panic c) a w) (hw:Region.wanted oi (yielded ops a.tmps)=true) (hy:∀w,(execOp a.eval oi).run P w=.ok (.value v) w) (hS:listed.getD t true=false->S w)
 (h:zR_ P ops Q S t f (listed.setIfInBounds i true) (a.put oi.dst v) w):zR_ P ops Q S t (f+1) listed a w :=
 wO_ (Si:=fun _=>True) hi hit (Region.noSelect_spec hs) hQ (fun _ _ _ _ _ _=>trivial) f listed a w hsz (wV_ hc) (Region.free_spec hi hf) (by simpa using hr) (.inl ⟨hw,fun w _=>hy w⟩) hS h
theorem uN_{i:Nat}{oi:Oper}{v:Value}{f:Nat}{listed:Array Bool}{a:Act}{w:World}(hi:ops[i]?=some oi)(hit:i≠t)
 (hs:Region.noSelect ops=true) (hf:Region.free .any ops listed i=true) (hr:(Region.ready .any ops listed).contains i=true) (hc:w8_ ops listed=true) (hwt:decide (t<ops.size)&&(q4_ ops 4 [t]).contains i=true) (hsz:listed.size=ops.size)
 (hQ:∀c a w,Q (.panic c) (a.put oi.dst v) w->Q (.panic c) a w) (hw:Region.wanted oi (yielded ops a.tmps)=true) (hy:∀w,S w->(execOp a.eval oi).run P w=.ok (.value v) w) (hS:listed.getD t true=false->S w)
 (h:zR_ P ops Q S t f (listed.setIfInBounds i true) (a.put oi.dst v) w):zR_ P ops Q S t (f+1) listed a w:=by
 simp only[zzg_,zzp_]at hwt
 refine wO_ (Si:=S) hi hit (Region.noSelect_spec hs) hQ (fun listed' w' hsz' hcl hun hSw=>hSw ?_) f listed a w hsz (wV_ hc) (Region.free_spec hi hf) (by simpa using hr) (.inl ⟨hw,hy⟩) hS h
 cases e:listed'.getD t true with
 |false=>rfl
 | true =>
   exfalso
   have htl:t<listed'.size:=by omega
   have e':listed'.getD t false=true:=by rw[Array.getD,dif_pos htl]at e ⊢;exact e
   have hm:=uQ_ hcl 4 [t] (fun x hx=>by rw[List.mem_singleton.1 hx];exact e') i (by simpa using hwt.2)
   have hil:i<listed'.size:=by
    rcases yym_ i listed'.size with h|h
    .exact h
    .rw[Array.getD,dif_neg (by omega)]at hm;cases hm
   rw[Array.getD,dif_pos hil]at hm hun
   rw[hm]at hun
   cases hun
theorem rg_{rs:List Nat}{f:Nat}{listed:Array Bool}{a:Act}{w:World}(hr:Region.ready .any ops listed=rs)(hne:rs≠[])
 (h:∀i∈rs,wpOp P ops Q i (fun a' w'=>((listed.setIfInBounds i true).getD t true=false->S w')/\zR_ P ops Q S t f (listed.setIfInBounds i true) a' w') a w):zR_ P ops Q S t (f+1) listed a w :=
 ⟨fun h0=>absurd (hr ▸ h0) hne,hr ▸ h⟩
def AllG(P:Program)(ops:Array Oper)(Q:Exit->Act->World->Prop)(S:World->Prop)(t:Nat)(f:Nat)(listed:Array Bool)(a:Act)(w:World)(rs:List Nat):Prop :=
 ∀i∈rs,wpOp P ops Q i (fun a' w'=>((listed.setIfInBounds i true).getD t true=false->S w')/\zR_ P ops Q S t f (listed.setIfInBounds i true) a' w') a w
theorem AllG.nil{f:Nat}{listed:Array Bool}{a:Act}{w:World}:AllG P ops Q S t f listed a w []:=fun _ h=>by cases h
theorem AllG.cons{f:Nat}{listed:Array Bool}{a:Act}{w:World}{i:Nat}{o:Oper}{rs:List Nat}(ho:ops[i]?=some o)
 (h:∀K':Act->World->Prop,Shut (∀a w,((listed.setIfInBounds i true).getD t true=false->S w)->zR_ P ops Q S t f (listed.setIfInBounds i true) a w->K' a w)->if Region.wanted o (yielded ops a.tmps)=true then Oper.wp P o a w K' Q else K' (a.put o.dst undef) w)
 (hs:AllG P ops Q S t f listed a w rs):AllG P ops Q S t f listed a w (i::rs):=fun j hj=>by
 rcases List.mem_cons.1 hj with rfl|hj
 .exact wpOp_step ho (fun K' hK=>h K' (fun a w hS hW=>hK a w ⟨hS,hW⟩))
 .exact hs j hj
theorem z9_{rs:List Nat}{f:Nat}{listed:Array Bool}{a:Act}{w:World}(hr:Region.ready .any ops listed=rs)(hne:rs≠[])(h:AllG P ops Q S t f listed a w rs):zR_ P ops Q S t (f+1) listed a w:=rg_ hr hne h
theorem zn_{o:Oper}{a:Act}{w w':World}{K:Act->World->Prop}{E:Prop}{v:Value}(hg:o.guard=none)(hr:(execOp a.eval o).run P w=.ok (.value v) w')(hK:K (a.put o.dst v) w') :
 if Region.wanted o (yielded ops a.tmps)=true then Oper.wp P o a w K Q else E:=by
 have hw:Region.wanted o (yielded ops a.tmps)=true:=by simp[Region.wanted,hg]
 rw[if_pos hw]
 unfold Oper.wp
 rw[hr]
 exact hK
theorem vN_:∀(l:List Oper) (k:Nat) (listed:Array Bool) (a:Act) (w:World),(∀j,l[j]?=ops[k+j]?)->Region.seqB .any ops l.length k listed=true->(k=t\/listed.getD t true=true)->t<listed.size->wpList P ops Q l a w->zR_ P ops Q S t l.length listed a w
 |[],_,_,_,_,_,hB,_,_,h=>⟨by simpa[Region.seqB] using hB,h⟩
 | o :: l, k, listed, a, w, hl, hB, ht, hsz, h => by
   have h0:ops[k]?=some o:=by simpa using(hl 0).symm
   simp only[List.length_cons,Region.seqB,zzg_,zzp_]at hB
   refine⟨fun h1=>(by rw[hB.1]at h1;cases h1),fun i hi=>?_⟩
   rw[hB.1]at hi
   have hik:i=k:=by simpa using hi
   subst hik
   have hw:wpOp P ops Q i (wpList P ops Q l) a w:=by unfold wpOp;simp only[h0];exact h
   have hT:(listed.setIfInBounds i true).getD t true=true:=by
    by_cases e:i=t
    .subst e
     rw[Array.getD,dif_pos (by simpa using hsz)]
     simp
    .rw[getD_set_ne true e]
     exact ht.resolve_left e
   refine wpOp_mono (fun a' w' h'=>⟨fun q=>(by rw[hT]at q;cases q),?_⟩) hw
   exact vN_ l (i+1) _ a' w' (fun j=>by have:=hl (j+1);simpa[Nat.add_assoc,Nat.add_comm 1 j] using this) hB.2 (.inr hT) (by simpa using hsz) h'
theorem w6_{l r:List Oper}{i:Nat}{o:Oper}(h:l.drop i=o::r):l.toArray[i]?=some o:=by
 have:(l.drop i)[0]?=some o:=by rw[h];rfl
 simpa using this
theorem rY_{l r:List Oper}{i:Nat}{oi:Oper}{v:Value}{f:Nat}{listed:Array Bool}{a:Act}{w:World}(hi:l.drop i=oi::r)(hit:i≠t)
 (hs:Region.noSelect l.toArray=true) (hf:Region.free .any l.toArray listed i=true) (hr:(Region.ready .any l.toArray listed).contains i=true) (hc:w8_ l.toArray listed=true) (hsz:listed.size=l.toArray.size)
 (hQ:∀c a w,Q (.panic c) (a.put oi.dst v) w->Q (.panic c) a w) (hw:Region.wanted oi (yielded l.toArray a.tmps)=true) (hy:∀w,(execOp a.eval oi).run P w=.ok (.value v) w) (hS:listed.getD t true=false->S w)
 (h:zR_ P l.toArray Q S t f (listed.setIfInBounds i true) (a.put oi.dst v) w):zR_ P l.toArray Q S t (f+1) listed a w :=
 uO_ (w6_ hi) hit hs hf hr hc hsz hQ hw hy hS h
theorem rX_{l r:List Oper}{i:Nat}{oi:Oper}{v:Value}{f:Nat}{listed:Array Bool}{a:Act}{w:World}(hi:l.drop i=oi::r)(hit:i≠t)
 (hs:Region.noSelect l.toArray=true) (hf:Region.free .any l.toArray listed i=true) (hr:(Region.ready .any l.toArray listed).contains i=true) (hc:w8_ l.toArray listed=true) (hwt:decide (t<l.toArray.size)&&(q4_ l.toArray 4 [t]).contains i=true) (hsz:listed.size=l.toArray.size)
 (hQ:∀c a w,Q (.panic c) (a.put oi.dst v) w->Q (.panic c) a w) (hw:Region.wanted oi (yielded l.toArray a.tmps)=true) (hy:∀w,S w->(execOp a.eval oi).run P w=.ok (.value v) w) (hS:listed.getD t true=false->S w)
 (h:zR_ P l.toArray Q S t f (listed.setIfInBounds i true) (a.put oi.dst v) w):zR_ P l.toArray Q S t (f+1) listed a w :=
 uN_ (w6_ hi) hit hs hf hr hc hwt hsz hQ hw hy hS h
theorem z3_{l r:List Oper}{f:Nat}{listed:Array Bool}{a:Act}{w:World}{i:Nat}{o:Oper}{rs:List Nat}(hi:l.drop i=o::r)
 (h:∀K':Act->World->Prop,Shut (∀a w,((listed.setIfInBounds i true).getD t true=false->S w)->zR_ P l.toArray Q S t f (listed.setIfInBounds i true) a w->K' a w)->if Region.wanted o (yielded l.toArray a.tmps)=true then Oper.wp P o a w K' Q else K' (a.put o.dst undef) w)
 (hs:AllG P l.toArray Q S t f listed a w rs):AllG P l.toArray Q S t f listed a w (i::rs):=AllG.cons (w6_ hi) h hs
theorem zP_{l:List Oper}{f:Nat}{listed:Array Bool}{a:Act}{w:World}(hf:f=(l.drop t).length)(hs:Region.seqB .any l.toArray (l.drop t).length t listed=true)(hsz:t<listed.size)(h:wpList P l.toArray Q (l.drop t) a w):zR_ P l.toArray Q S t f listed a w:=by
 subst hf
 exact vN_ (l.drop t) t listed a w (fun j=>by simp[zzA_]) hs (.inl rfl) hsz h
theorem zw_{l:List Oper}{id:Nat}{a:Act}{w:World}(S:World->Prop)(t:Nat)(hm:P.follows .mixedOrders=true)(h:zR_ P l.toArray Q S t l.length (Array.replicate l.length false) a w.drew):(Code.region id l.toArray true).wp P Q a w :=
 wp_region_any hm (vM_ _ _ _ _ (by simpa using h))
end
end Go.Proofs.Ytnbppaolinopeaa
namespace Go.Proofs.Ytnbppaolinopeaa
open Go Go.Proofs
section
variable{P:Program}{ops:Array Oper}{Q:Exit->Act->World->Prop}{S:World->Prop}{t:Nat}
theorem z1_{l r:List Oper}{i:Nat}{oi:Oper}{v:Value}{f:Nat}{listed:Array Bool}{a:Act}{w:World}(hi:l.drop i=oi::r)
 (hk:(Region.noSelect l.toArray&&Region.free .any l.toArray listed i&&(Region.ready .any l.toArray listed).contains i&&w8_ l.toArray listed&&listed.size==l.toArray.size&&i != t)=true)
 (hQ:∀c a w,Q (.panic c) (a.put oi.dst v) w->Q (.panic c) a w) (hw:Region.wanted oi (yielded l.toArray a.tmps)=true) (hy:∀w,(execOp a.eval oi).run P w=.ok (.value v) w) (hS:listed.getD t true=false->S w)
 (h:zR_ P l.toArray Q S t f (listed.setIfInBounds i true) (a.put oi.dst v) w):zR_ P l.toArray Q S t (f+1) listed a w:=by
 simp only[zzg_,beq_iff_eq,bne_iff_ne]at hk
 exact rY_ hi hk.2 hk.1.1.1.1.1 hk.1.1.1.1.2 hk.1.1.1.2 hk.1.1.2 hk.1.2 hQ hw hy hS h
theorem zr_{l r:List Oper}{i:Nat}{oi:Oper}{v:Value}{f:Nat}{listed:Array Bool}{a:Act}{w:World}(hi:l.drop i=oi::r)
 (hk:(Region.noSelect l.toArray&&Region.free .any l.toArray listed i&&(Region.ready .any l.toArray listed).contains i&&w8_ l.toArray listed&&listed.size==l.toArray.size&&i != t)=true) (hk2:decide (t<l.toArray.size)&&(q4_ l.toArray 4 [t]).contains i=true)
 (hQ:∀c a w,Q (.panic c) (a.put oi.dst v) w->Q (.panic c) a w) (hw:Region.wanted oi (yielded l.toArray a.tmps)=true) (hy:∀w,S w->(execOp a.eval oi).run P w=.ok (.value v) w) (hS:listed.getD t true=false->S w)
 (h:zR_ P l.toArray Q S t f (listed.setIfInBounds i true) (a.put oi.dst v) w):zR_ P l.toArray Q S t (f+1) listed a w:=by
 simp only[zzg_,beq_iff_eq,bne_iff_ne]at hk
 exact rX_ hi hk.2 hk.1.1.1.1.1 hk.1.1.1.1.2 hk.1.1.1.2 hk.1.1.2 hk2 hk.1.2 hQ hw hy hS h
theorem y8_{rs:List Nat}{f:Nat}{listed:Array Bool}{a:Act}{w:World}(hr:(Region.ready .any ops listed==rs&&!rs.isEmpty)=true)(h:AllG P ops Q S t f listed a w rs):zR_ P ops Q S t (f+1) listed a w:=by
 rw[zzg_]at hr
 exact z9_ (eq_of_beq hr.1) (by rintro rfl;simp at hr) h
end
end Go.Proofs.Ytnbppaolinopeaa
namespace Go.Proofs.Ytnbppaolinopeaa
open Go.RowKit Go.Proofs
theorem xd_{m:Nat}{w wx:World}{b o:Nat}{v:Option Value}(h:Below m w wx)(hc:w.cell? ⟨b,o,none⟩=v)(hb:b<m):wx.cell? ⟨b,o,none⟩=v :=
 (yyb_ (a:=⟨b,o,none⟩) (h.block b hb)).trans hc
theorem xW_{g:Gh}{w:World}{b:RG.Rs}{vs:Array Value}(h:Rep g w (rv b) (.agg vs)):vs.size=9/\(∀v∈vs.toList,v.oneCell'=true)/\∀(j:Nat) (u:V) (c:Value),(sc b)[j]?=some u->vs.toList[j]?=some c->Rep g w u c:=by
 cases h with
 |agg e1 e2 e3=>exact⟨by have:=e1;simp[rw_]at this;omega,e2,fun j u c hu hc=>e3 j u c hu (by simpa using hc)⟩
theorem zX_{T:Nat->Nat}{g:Gh}{w:World}{X n:Nat}{R:Nat->RG.Rs}{U:Nat->Bool}{M:Nat->Nat->List RG.Rm}{h:Hd}(hn:Net T g w X n R U M h){i:Nat}(hi:i<n){b:RG.Rs}{vs:Array Value}{A:Option Addr}{cap:Nat}{l:RG.Out}
 (hbv:Rep g w (rv b) (.agg vs)) (hlv:Rep g w (.list 19 (ou l)) (.slice A l.length cap)) (hto:∀p∈l,0<=p.1/\p.1<n/\p.1≠i) (hl:l.length<=1000) (hM:∀a b,(M a b).length+l.length<=100000) :
 Calls Try.prog 11 #[.pointer (some ⟨X,0,none⟩),.int .i64 i,.agg vs,.slice A l.length cap] w fun e w'=>∃T' h',e=.returned (.bool true)/\Net T' g w' X n (RG.updR R i b) U (RG.put M i l) h' /\
  w'.os=w.os/\w'.tape=w.tape/\w'.output=w.output/\w.heap.size<=w'.heap.size/\(∀k,k<w.heap.size->T k=0->T' k=0/\w'.heap[k]?=w.heap[k]?):=by
 have mx:=zN_
 obtain⟨hvs,hone,hrep⟩:=xW_ hbv
 have hiz:(i:Int)<n:=by omega
 have hi0:¬(i:Int)<0:=by omega
 have hbcn:=hn.bcn
 -- the box of the state
 obtain⟨H,hH⟩:∃H,H=w.heap.size:=⟨_,rfl⟩
 obtain⟨W,hW⟩:∃W,W=w.alloc (.cells vs 37):=⟨_,rfl⟩
 have hWb:∀k,k<H->W.heap[k]?=w.heap[k]?:=fun k hk=>by rw[hW];exact Below.heap_alloc w _ k (by omega)
 have hWn:W.heap[H]?=some (.cells vs 37 (0,0)):=by rw[hW,hH];exact heap_alloc_new w _
 have hnW:Net T g W X n R U M h:=by
  rw[hW]
  exact hn.grow (by simp) (fun k hk=>Below.heap_alloc w _ k hk) (fun _ _=>rfl) (fun k hk=>zzk_ (hn.Ilt k hk) (by simp))
 have cX:W.cell? ⟨X,0,none⟩=some (.slice (some ⟨h.bk,0,none⟩) n h.bc):=by simp[World.cell?,hnW.hX]
 obtain⟨cb,cb1,cb2,_⟩:=hnW.bb
 have hst:=sz37.st (w:=W.drew) (b:=h.bk) (o:=i*9) hvs cb1 (by omega) hone
 obtain⟨W1,hW1⟩:∃W1,W1=W.drew.setCells h.bk (i*9) vs.toList:=⟨_,rfl⟩
 rw[<-hW1]at hst
 have hld:(Instr.loadAt 37 (.pointer (some ⟨H,0,none⟩))).run Try.prog W.drew=.ok (.agg vs) W.drew:=sz37.ld hvs (zB_ (w:=W.drew) hWn)
 have hWa:w.alloc (.cells vs 37)=W:=hW.symm
 clear hW
 have HW1:=Lib.hid hW1
 clear hW1
 have hHs:w.heap.size=H:=hH.symm
 clear hH
 have hn1:TkI T g w X n (RG.updR R i b) U (RG.put M i (l.take 0)) T h W1:=by
  have hd:Net T g W.drew X n R U M h:=hnW.grow (zzl_ _) (fun _ _=>rfl) (fun _ _=>rfl) hnW.Ilt
  have hrW:∀(j:Nat) (u:V) (c:Value),(sc b)[j]?=some u->vs.toList[j]?=some c->Rep g W.drew u c:=fun j u c hu hc=>zO_ (hrep j u c hu hc) (wU_ _ u (zzd_ hu)) fun b o ho=>⟨ho,yyb_ (a:=⟨b,o,none⟩) (hWb b (by rw[<-hHs];exact hn.Ilt b (by omega)))⟩
  obtain⟨k1,k2,k3⟩:=hd.setB hi (vs:=vs.toList) (by simpa using hvs) hone hrW
  rw[HW1.out,List.take_zero]
  have hWo:W.drew.os=w.os/\W.drew.tape=w.tape/\W.drew.output=w.output:=by rw[<-hWa];exact⟨rfl,rfl,rfl⟩
  have hWs:w.heap.size<=W.drew.heap.size:=by rw[<-hWa];show _<=(w.alloc _).heap.size;simp
  have hf:=zG_ h.bk vs.toList (i*9) W.drew
  refine⟨k1,hf.1.trans hWo.1,hf.2.1.trans hWo.2.1,hf.2.2.trans hWo.2.2,by rw[k2];exact hWs,fun k hk h0=>⟨h0,?_⟩⟩
  rw[k3 k (by omega) (by rintro rfl;have:=hn.tag.b;omega)]
  exact hWb k (by omega)
 have HI1:=Lib.hid hn1
 have HN:=Lib.hid hn
 have HL:=Lib.hid hlv
 have HTO:=Lib.hid hto
 have HM:=Lib.hid hM
 have HST:=Lib.hid hst
 have HVS:=Lib.hid hvs
 have s0:=(show W.drew.cell? ⟨X,0,none⟩=some (.slice (some ⟨h.bk,0,none⟩) n h.bc)/\Hs W.drew H 0 vs from ⟨cX,zB_ (w:=W.drew) hWn⟩)
 clear hn1 hst hld cb1 hnW hWn hWb hn hlv hto hM hrep hone hbv cb2 hvs cX
 go_enter Try.func11,Try.ntmps11
 go_wp2
 refine zw_ (fun wx=>wx.cell? ⟨X,0,none⟩=some (.slice (some ⟨h.bk,0,none⟩) n h.bc)/\Hs wx H 0 vs) 7 mx ?_
 refine z1_ (i:=0) (v:=?_) rfl (by kernel_rfl) (fun _ _ _ h=>h) (by kernel_rfl) ?_ (fun _=>s0) ?_
 rotate_left
 ·(intro w9;go_simp;first|done|with_reducible rfl)
 try simp only[Act.put,zze_,zzi_,zzj_]
 refine z1_ (i:=1) (v:=?_) rfl (by kernel_rfl) (fun _ _ _ h=>h) (by kernel_rfl) ?_ (fun _=>s0) ?_
 rotate_left
 ·(intro w9;go_simp;first|done|with_reducible rfl)
 try simp only[Act.put,zze_,zzi_,zzj_]
 refine z1_ (i:=2) (v:=?_) rfl (by kernel_rfl) (fun _ _ _ h=>h) (by kernel_rfl) ?_ (fun _=>s0) ?_
 rotate_left
 ·(intro w9;go_simp;first|done|with_reducible rfl)
 try simp only[Act.put,zze_,zzi_,zzj_]
 refine zr_ (i:=3) (v:=?_) rfl (by kernel_rfl) (by kernel_rfl) (fun _ _ _ h=>h) (by kernel_rfl) ?_ (fun _=>s0) ?_
 rotate_left
 ·(intro w9 hSw;(try dsimp only at hSw);obtain⟨S1,S0⟩:=hSw;clear S0;go_simp;first|done|with_reducible rfl)
 try simp only[Act.put,zze_,zzi_,zzj_]
 refine z1_ (i:=4) (v:=?_) rfl (by kernel_rfl) (fun _ _ _ h=>h) (by kernel_rfl) ?_ (fun _=>s0) ?_
 rotate_left
 ·(intro w9;go_simp;first|done|with_reducible rfl)
 try simp only[Act.put,zze_,zzi_,zzj_]
 refine zr_ (i:=5) (v:=.agg vs) rfl (by kernel_rfl) (by kernel_rfl) (fun _ _ _ h=>h) (by kernel_rfl) (fun w9 hSw=>yk_ 37 _ rfl (u:=.pointer (some ⟨H,0,none⟩)) rfl (sz37.ld HVS.out hSw.2)) (fun _=>s0) ?_
 try simp only[Act.put,zze_,zzi_,zzj_]
 refine z1_ (i:=6) (v:=?_) rfl (by kernel_rfl) (fun _ _ _ h=>h) (by kernel_rfl) ?_ (fun _=>s0) ?_
 rotate_left
 ·(intro w9;go_simp;first|done|with_reducible rfl)
 try simp only[Act.put,zze_,zzi_,zzj_]
 refine zP_ (by kernel_rfl) (by kernel_rfl) (by decide) ?_
 simp only[List.drop_succ_cons,List.drop_zero]
 refine zk_ rfl rfl 37 _ _ rfl _ _ rfl rfl HST.out ?_
 clear s0
 go_wp2
 go_loopg [20] l.length (fun kx s20 wr=>∃(p:Nat) (T':Nat->Nat) (h':Hd),s20=.int .i64 p/\p+kx=l.length/\TkI T g w X n (RG.updR R i b) U (RG.put M i (l.take p)) T' h' wr)
 case atStart=>exact⟨0,T,h,rfl,by omega,HI1.out⟩
 case round =>
  obtain⟨p,T',h',rfl,hp,hI⟩:=hrel
  have HI:=Lib.hid hI
  have hIc:∀b o,o<g.I b->o<g.I b/\wr.cell? ⟨b,o,none⟩=w.cell? ⟨b,o,none⟩:=fun b o ho=>by
   have hT:T b=0:=by
    by_cases h0:T b=0
    .exact h0
    .have:=(HN.out.tz b h0).2;omega
   exact⟨ho,yyb_ (a:=⟨b,o,none⟩) ((hI.fr b (HN.out.Ilt b (by omega)) hT).2)⟩
  have HC:=Lib.hid hIc
  clear hI hIc
  by_cases hm:p<l.length
  .have hlr:Rep g wr (.list 19 (ou l)) (.slice A l.length cap):=zO_ HL.out rfl HC.out
   obtain⟨lb,lo,rfl,_,cd⟩:=o1_ hlr hm
   have ht1:l.take (p+1)=l.take p++[l[p]]:=by rw[List.take_add_one,zzf_ hm];rfl
   have hto1:=HTO.out l[p] (yyp_ hm)
   have hlm:(RG.put M i (l.take p) i (l[p].1.toNat)).length<=100000:=by
    have:=qs_ i i l[p].1.toNat (l.take p) M
    have:=HM.out i l[p].1.toNat
    simp at *
    omega
   clear hlr
   generalize l[p]=m at cd ht1 hto1 hlm
   obtain⟨mt,mm⟩:=m
   simp only at cd hto1 hlm
   obtain⟨j,rfl⟩:∃j:Nat,mt=(j:Int):=⟨mt.toNat,by omega⟩
   have hj:j<n:=by omega
   have hjz:(j:Int)<(n:Int):=by omega
   have hj0:¬(j:Int)<0:=by omega
   have hji:¬(n:Int)<=(j:Int):=by omega
   rw[yys_]at hlm
   have hPP:=pst j mm
   have hps:Hs wr lb (lo+p*19) (pc j (kk mm.k) mm.e mm.s).toArray:=fun q v hq=>by
    have hq19:q<19:=by
     have:=(zzm_.1 hq).1
     exact this
    rw[cd q hq19]
    rw[List.getElem?_toArray]at hq
    exact hq
   generalize (pc j (kk mm.k) mm.e mm.s).toArray=ps at hPP hps
   generalize (mc (kk mm.k) mm.e mm.s).toArray=ms at hPP
   obtain⟨Y4,Y5,Y6,Y7,v',T2,h2,Hp,Kt,A2,N2,C2,rfl,e1,e2,ff,f4,e7,e8,e9,⟨e10,e11⟩,ii,jj,hI2⟩:=HI.out.step hi hj hPP hlm
   have HLD:=Lib.hid (sz64.ld hPP.p hps)
   have HPP:=Lib.hid hPP
   have HI2:=Lib.hid hI2
   have HT1:=Lib.hid ht1
   have HE2:=Lib.hid e2
   have II:=Lib.hid ii
   have JJ:=Lib.hid jj
   have FF:=Lib.hid ff
   have HE8:=Lib.hid e8
   have HE9:=Lib.hid e9
   have HE11:=Lib.hid (And.intro e10 e11)
   have hpl:(p:Int)<(l.length:Int):=by omega
   have hp0:¬(p:Int)<0:=by omega
   have hwp:IntKind.i64.wrap ((p:Int)+1)=(p:Int)+1:=by rw[yye_];omega
   have HP:=Lib.hid hp
   have hd1:decide ((j:Int)<0)=false:=by simp
   have hd2:decide ((n:Int)<=(j:Int))=false:=by simpa using hj
   have hd3:decide ((j:Int)>=(n:Int))=false:=hd2
   have hd4:decide (n<=j)=false:=by simp;omega
   have hd5:((j:Int)==(i:Int))=false:=by simpa using hto1.2.2
   have hd6:¬(j:Int)=(i:Int):=hto1.2.2
   clear hI2 ht1 hlm e2 ii jj ff e8 e9 e10 e11 hp hto1 cd hps hPP
   go_wp2_with (first
    |(refine zL_ rfl 64 _ rfl _ _ rfl HLD.out ?_)
    |(refine zk_ rfl rfl 64 _ _ rfl _ _ rfl rfl HE2.out ?_))
   obtain⟨f0,fS,f5,f6,f7⟩:=FF.out
   clear fS
   go_region
   go_wp2
   refine zw_ (fun wx=>wx.cell? ⟨Hp,0,none⟩=some (.int .i64 (j:Int))/\Hs wx Hp 1 ms/\wx.cell? ⟨X,2,none⟩=some (.slice (some ⟨h'.mb,0,none⟩) n h'.mc)/\wx.cell? ⟨h'.mb,i,none⟩=some (.slice (some ⟨h'.rk i,0,none⟩) n (h'.rc i))/\wx.cell? ⟨h'.rk i,j,none⟩=some (h'.mv i j)) 25 mx ?_
   have s0:=FF.out
   refine z1_ (i:=0) (v:=?_) rfl (by kernel_rfl) (fun _ _ _ h=>h) (by kernel_rfl) ?_ (fun _=>s0) ?_
   rotate_left
   ·(intro w9;go_simp;first|done|with_reducible rfl)
   try simp only[Act.put,zze_,zzi_,zzj_]
   refine z1_ (i:=1) (v:=?_) rfl (by kernel_rfl) (fun _ _ _ h=>h) (by kernel_rfl) ?_ (fun _=>s0) ?_
   rotate_left
   ·(intro w9;go_simp;first|done|with_reducible rfl)
   try simp only[Act.put,zze_,zzi_,zzj_]
   refine z1_ (i:=2) (v:=?_) rfl (by kernel_rfl) (fun _ _ _ h=>h) (by kernel_rfl) ?_ (fun _=>s0) ?_
   rotate_left
   ·(intro w9;go_simp;first|done|with_reducible rfl)
   try simp only[Act.put,zze_,zzi_,zzj_]
   refine zr_ (i:=3) (v:=?_) rfl (by kernel_rfl) (by kernel_rfl) (fun _ _ _ h=>h) (by kernel_rfl) ?_ (fun _=>s0) ?_
   rotate_left
   ·(intro w9 hSw;(try dsimp only at hSw);obtain⟨S1,S0,S2,S3,S4⟩:=hSw;clear S0;go_simp;first|done|with_reducible rfl)
   try simp only[Act.put,zze_,zzi_,zzj_]
   refine z1_ (i:=4) (v:=?_) rfl (by kernel_rfl) (fun _ _ _ h=>h) (by kernel_rfl) ?_ (fun _=>s0) ?_
   rotate_left
   ·(intro w9;go_simp;first|done|with_reducible rfl)
   try simp only[Act.put,zze_,zzi_,zzj_]
   refine z1_ (i:=5) (v:=?_) rfl (by kernel_rfl) (fun _ _ _ h=>h) (by kernel_rfl) ?_ (fun _=>s0) ?_
   rotate_left
   ·(intro w9;go_simp;first|done|with_reducible rfl)
   try simp only[Act.put,zze_,zzi_,zzj_]
   refine zr_ (i:=6) (v:=?_) rfl (by kernel_rfl) (by kernel_rfl) (fun _ _ _ h=>h) (by kernel_rfl) ?_ (fun _=>s0) ?_
   rotate_left
   ·(intro w9 hSw;(try dsimp only at hSw);obtain⟨S1,S0,S2,S3,S4⟩:=hSw;clear S0;go_simp;first|done|with_reducible rfl)
   try simp only[Act.put,zze_,zzi_,zzj_]
   refine z1_ (i:=7) (v:=?_) rfl (by kernel_rfl) (fun _ _ _ h=>h) (by kernel_rfl) ?_ (fun _=>s0) ?_
   rotate_left
   ·(intro w9;go_simp;first|done|with_reducible rfl)
   try simp only[Act.put,zze_,zzi_,zzj_]
   refine zr_ (i:=8) (v:=?_) rfl (by kernel_rfl) (by kernel_rfl) (fun _ _ _ h=>h) (by kernel_rfl) ?_ (fun _=>s0) ?_
   rotate_left
   ·(intro w9 hSw;(try dsimp only at hSw);obtain⟨S1,S0,S2,S3,S4⟩:=hSw;clear S0;go_simp;first|done|with_reducible rfl)
   try simp only[Act.put,zze_,zzi_,zzj_]
   refine z1_ (i:=9) (v:=?_) rfl (by kernel_rfl) (fun _ _ _ h=>h) (by kernel_rfl) ?_ (fun _=>s0) ?_
   rotate_left
   ·(intro w9;go_simp;first|done|with_reducible rfl)
   try simp only[Act.put,zze_,zzi_,zzj_]
   refine z1_ (i:=10) (v:=?_) rfl (by kernel_rfl) (fun _ _ _ h=>h) (by kernel_rfl) ?_ (fun _=>s0) ?_
   rotate_left
   ·(intro w9;go_simp;first|done|with_reducible rfl)
   try simp only[Act.put,zze_,zzi_,zzj_]
   refine z1_ (i:=11) (v:=?_) rfl (by kernel_rfl) (fun _ _ _ h=>h) (by kernel_rfl) ?_ (fun _=>s0) ?_
   rotate_left
   ·(intro w9;go_simp;first|done|with_reducible rfl)
   try simp only[Act.put,zze_,zzi_,zzj_]
   refine zr_ (i:=12) (v:=?_) rfl (by kernel_rfl) (by kernel_rfl) (fun _ _ _ h=>h) (by kernel_rfl) ?_ (fun _=>s0) ?_
   rotate_left
   ·(intro w9 hSw;(try dsimp only at hSw);obtain⟨S1,S0,S2,S3,S4⟩:=hSw;clear S0;go_simp;first|done|with_reducible rfl)
   try simp only[Act.put,zze_,zzi_,zzj_]
   refine z1_ (i:=13) (v:=?_) rfl (by kernel_rfl) (fun _ _ _ h=>h) (by kernel_rfl) ?_ (fun _=>s0) ?_
   rotate_left
   ·(intro w9;go_simp;first|done|with_reducible rfl)
   try simp only[Act.put,zze_,zzi_,zzj_]
   refine z1_ (i:=14) (v:=?_) rfl (by kernel_rfl) (fun _ _ _ h=>h) (by kernel_rfl) ?_ (fun _=>s0) ?_
   rotate_left
   ·(intro w9;go_simp;first|done|with_reducible rfl)
   try simp only[Act.put,zze_,zzi_,zzj_]
   refine zr_ (i:=15) (v:=?_) rfl (by kernel_rfl) (by kernel_rfl) (fun _ _ _ h=>h) (by kernel_rfl) ?_ (fun _=>s0) ?_
   rotate_left
   ·(intro w9 hSw;(try dsimp only at hSw);obtain⟨S1,S0,S2,S3,S4⟩:=hSw;clear S0;go_simp;first|done|with_reducible rfl)
   try simp only[Act.put,zze_,zzi_,zzj_]
   refine z1_ (i:=16) (v:=?_) rfl (by kernel_rfl) (fun _ _ _ h=>h) (by kernel_rfl) ?_ (fun _=>s0) ?_
   rotate_left
   ·(intro w9;go_simp;first|done|with_reducible rfl)
   try simp only[Act.put,zze_,zzi_,zzj_]
   refine zr_ (i:=17) (v:=?_) rfl (by kernel_rfl) (by kernel_rfl) (fun _ _ _ h=>h) (by kernel_rfl) ?_ (fun _=>s0) ?_
   rotate_left
   ·(intro w9 hSw;(try dsimp only at hSw);obtain⟨S1,S0,S2,S3,S4⟩:=hSw;clear S0;go_simp;first|done|with_reducible rfl)
   try simp only[Act.put,zze_,zzi_,zzj_]
   refine z1_ (i:=18) (v:=?_) rfl (by kernel_rfl) (fun _ _ _ h=>h) (by kernel_rfl) ?_ (fun _=>s0) ?_
   rotate_left
   ·(intro w9;go_simp;first|done|with_reducible rfl)
   try simp only[Act.put,zze_,zzi_,zzj_]
   refine zr_ (i:=19) (v:=?_) rfl (by kernel_rfl) (by kernel_rfl) (fun _ _ _ h=>h) (by kernel_rfl) ?_ (fun _=>s0) ?_
   rotate_left
   ·(intro w9 hSw;(try dsimp only at hSw);obtain⟨S1,S0,S2,S3,S4⟩:=hSw;clear S0;go_simp;first|done|with_reducible rfl)
   try simp only[Act.put,zze_,zzi_,zzj_]
   refine z1_ (i:=20) (v:=?_) rfl (by kernel_rfl) (fun _ _ _ h=>h) (by kernel_rfl) ?_ (fun _=>s0) ?_
   rotate_left
   ·(intro w9;go_simp;first|done|with_reducible rfl)
   try simp only[Act.put,zze_,zzi_,zzj_]
   refine zr_ (i:=21) (v:=.agg ms) rfl (by kernel_rfl) (by kernel_rfl) (fun _ _ _ h=>h) (by kernel_rfl) (fun w9 hSw=>yk_ 57 _ rfl (u:=.pointer (some ⟨Hp,1,none⟩)) rfl (sz57.ld HPP.out.ms18 hSw.2.1)) (fun _=>s0) ?_
   try simp only[Act.put,zze_,zzi_,zzj_]
   refine z9_ (rs:=[22]) (by kernel_rfl) (by simp) ?_
   refine z3_ rfl (fun K hK=>?_) ?_
   .refine zn_ rfl (zH_ 58 _ rfl (u:=.agg ms) rfl (pH_ _ HPP.out.ms18)) ?_
    rw[show (World.drew (World.drew Y4)).heap.size=Kt from e7,HE8.out]
    refine hK.out _ _ (fun _=>II.out) ?_
    clear hK K
    try simp only[Act.put,zze_,zzi_,zzj_]
    refine z9_ (rs:=[23]) (by kernel_rfl) (by simp) ?_
    refine z3_ rfl (fun K hK=>?_) ?_
    .refine zA_ rfl _ _ 58 58 rfl _ _ (by simp[Act.eval,Act.put]) (by simp[Act.eval,Act.put]) (HE9.out _) ?_
     refine hK.out _ _ (fun _=>JJ.out) ?_
     clear hK K
     try simp only[Act.put,zze_,zzi_,zzj_]
     refine z1_ (i:=24) (v:=?_) rfl (by kernel_rfl) (fun _ _ _ h=>h) (by kernel_rfl) ?_ (fun _=>JJ.out) ?_
     rotate_left
     ·(intro w9;go_simp;first|done|with_reducible rfl)
     try simp only[Act.put,zze_,zzi_,zzj_]
     refine zP_ (by kernel_rfl) (by kernel_rfl) (by decide) ?_
     simp only[List.drop_succ_cons,List.drop_zero]
     obtain⟨e10,e11⟩:=HE11.out
     obtain⟨_,_,_,_,j7⟩:=JJ.out
     go_wp2
     go_roundg (gk-1)
     case measure=>have:=HP.out;omega
     case rel =>
      have hp:=HP.out
      have:=HI2.out
      rw[<-pT_,<-sI_ i ((j:Int),mm),<-HT1.out]at this
      exact⟨p+1,T2,h2,rfl,by omega,this⟩
    exact AllG.nil
   exact AllG.nil
  .have hpl:¬(p:Int)<(l.length:Int):=by omega
   have hpe:p=l.length:=by omega
   have hI:=HI.out
   rw[hpe,List.take_length]at hI
   have HI3:=Lib.hid hI
   clear hI
   go_wp2
   go_ret
   obtain⟨r1,r4,r5,r6,r7,r8⟩:=HI3.out
   first|exact⟨T',h',rfl,r1,r4,r5,r6,r7,r8⟩|exact⟨rfl,T',⟨h',r1⟩,r4,r5,r6,(by rw[<-hHs];exact r7),fun k hk=>r8 k (by rw[hHs];exact hk)⟩
section
theorem Below.mono1{m m':Nat}{w wx:World}(h:Below m w wx)(hm:m'<=m):Below m' w wx:=⟨h.os,h.tape,h.output,h.size,fun k hk=>h.block k (by omega)⟩
theorem zI_(w:World)(o:Obj):Below w.heap.size w (w.alloc o):=⟨rfl,rfl,rfl,by simp,fun k hk=>Below.heap_alloc w o k hk⟩
theorem Hs.below{m:Nat}{w wx:World}{b o:Nat}{vs:Array Value}(h:Hs w b o vs)(hb:Below m w wx)(hl:b<m):Hs wx b o vs:=fun j v hj=>xd_ hb (h j v hj) hl
theorem nA_{w:World}{v:Value}{m:RG.Rm}{l:List RG.Rm}(h:MBx w v (m::l)):∃k off cap,v=.slice (some ⟨k,off,none⟩) (l.length+1) cap/\l.length+1<=cap/\cap<=maxLen /\
 Hs w k off (mc (kk m.k) m.e m.s).toArray/\MBx w (.slice (if cap=1 then some ⟨k,off,none⟩ else some ⟨k,off+18,none⟩) l.length (cap-1)) l/\∀k',rb (.slice (if cap=1 then some ⟨k,off,none⟩ else some ⟨k,off+18,none⟩) l.length (cap-1))=some k'->rb v=some k':=by
 rcases h with ⟨h,_⟩|⟨k,off,cap,cur,rfl,h1,h2,h3,h4,h5,h6⟩
 .cases h
 have e:(m::l).length=l.length+1:=rfl
 have hc:∀(p:Nat) (u:Value),(fv (m::l))[p]?=some u->w.cell? ⟨k,off+p,none⟩=some u:=fun p u hp=>by simpa[World.cell?,h4] using h6 p u hp
 have hrb:rb (.slice (some ⟨k,off,none⟩) (m::l).length cap)=some k:=by simp[rb];omega
 refine⟨k,off,cap,rfl,h2,h3,fun q u hq=>?_,?_,fun k' hk'=>?_⟩
 .have hq18:q<18:=(zzm_.1 hq).1
  rw[List.getElem?_toArray]at hq
  have h0:=mO_ (m::l) 0 (by simp) q hq18
  rw[Nat.zero_mul,Nat.zero_add]at h0
  exact hc q u (h0.trans hq)
 .by_cases hcap:cap=1
  .refine .inl ⟨yyj_ (by omega),some ⟨k,off,none⟩,?_⟩
   rw[if_pos hcap,hcap]
   have:l.length=0:=by omega
   rw[this]
  .rw[if_neg hcap]
   refine .inr ⟨k,off+18,cap-1,cur,rfl,by omega,by omega,by omega,h4,by omega,fun p u hp=>?_⟩
   have:=h6 (p+18) u (by
    have e2:fv (m::l)=mc (kk m.k) m.e m.s++fv l:=rfl
    have e3:(mc (kk m.k) m.e m.s).length=18:=rfl
    rw[e2,zzv_ (by omega),e3,Nat.add_sub_cancel]
    exact hp)
   rw[Nat.add_assoc,Nat.add_comm 18 p]
   exact this
 .rw[hrb]
  split at hk'
  .simp[rb]at hk';rw[hk'.2]
  .simp[rb]at hk';rw[hk'.2]
section
variable{T:Nat->Nat}{g:Gh}{w:World}{X n:Nat}{R:Nat->RG.Rs}{U:Nat->Bool}{M:Nat->Nat->List RG.Rm}{h:Hd}
theorem Net.x1(hn:Net T g w X n R U M h):w.cell? ⟨X,1,none⟩=some (.slice (some ⟨h.ub,0,none⟩) n h.uc):=by simp[World.cell?,hn.hX]
theorem Net.u1(hn:Net T g w X n R U M h){i:Nat}(hi:i<n):w.cell? ⟨h.ub,i,none⟩=some (.bool (U i)):=by
 obtain⟨c,h1,h2⟩:=hn.uu
 have:=h2 i hi
 simp[World.cell?,h1,this]
theorem Net.m1(hn:Net T g w X n R U M h){i:Nat}(hi:i<n):w.cell? ⟨h.mb,i,none⟩=some (.slice (some ⟨h.rk i,0,none⟩) n (h.rc i)):=by
 obtain⟨c,h1,h2⟩:=hn.mm
 have:=h2 i hi
 simp[World.cell?,h1,this]
theorem Net.m2(hn:Net T g w X n R U M h){i j:Nat}(hi:i<n)(hj:j<n):w.cell? ⟨h.rk i,j,none⟩=some (h.mv i j):=by
 obtain⟨c,h1,h2⟩:=hn.rr i hi
 have:=h2 j hj
 simp[World.cell?,h1,this]
theorem Net.lt(hn:Net T g w X n R U M h):X<w.heap.size/\h.bk<w.heap.size/\h.ub<w.heap.size/\h.mb<w.heap.size :=
 ⟨(hn.tz X (by rw[hn.tag.x];omega)).1,(hn.tz _ (by rw[hn.tag.b];omega)).1,(hn.tz _ (by rw[hn.tag.u];omega)).1,(hn.tz _ (by rw[hn.tag.m];omega)).1⟩
theorem Net.st(hn:Net T g w X n R U M h){i:Nat}(hi:i<n):∃vs:Array Value,vs.size=9/\Hs w h.bk (i*9) vs/\Rep g w (rv (R i)) (.agg vs)/\(∀v∈vs.toList,v.oneCell'=true) /\
 w.cell? ⟨h.bk,i*9,none⟩=some (.int .i64 (R i).ep)/\w.cell? ⟨h.bk,i*9+1,none⟩=some (.bool (R i).lost)/\w.cell? ⟨h.bk,i*9+2,none⟩=some (.bool (R i).ask)/\w.cell? ⟨h.bk,i*9+4,none⟩=some (.bool (R i).tk.has)/\w.cell? ⟨h.bk,i*9+5,none⟩=some (.bool (R i).tk.want)/\w.cell? ⟨h.bk,i*9+6,none⟩=some (.bool (R i).tk.using_):=by
 obtain⟨cur,h1,h2,h3⟩:=hn.bb
 have key:∀(j:Nat) (u:V),(sc (R i))[j]?=some u->∃c,w.cell? ⟨h.bk,i*9+j,none⟩=some c/\c.oneCell'=true/\Rep g w u c:=fun j u hu=>by
  obtain⟨c,q1,q2,q3⟩:=h3 i hi j u hu
  exact⟨c,by simp[World.cell?,h1,q1],q2,q3⟩
 obtain⟨v0,a0,b0,c0⟩:=key 0 _ rfl
 obtain⟨v1,a1,b1,c1⟩:=key 1 _ rfl
 obtain⟨v2,a2,b2,c2⟩:=key 2 _ rfl
 obtain⟨v3,a3,b3,c3⟩:=key 3 _ rfl
 obtain⟨v4,a4,b4,c4⟩:=key 4 _ rfl
 obtain⟨v5,a5,b5,c5⟩:=key 5 _ rfl
 obtain⟨v6,a6,b6,c6⟩:=key 6 _ rfl
 obtain⟨v7,a7,b7,c7⟩:=key 7 _ rfl
 obtain⟨v8,a8,b8,c8⟩:=key 8 _ rfl
 refine⟨#[v0,v1,v2,v3,v4,v5,v6,v7,v8],rfl,fun q u hq=>?_,.agg rfl (fun c hc=>?_) (fun j u c hu hc=>?_),fun c hc=>?_,?_,?_,?_,?_,?_,?_⟩
 .have hq9:q<9:=(zzm_.1 hq).1
  match q,hq9,hq with
  |0,_,hq=>cases hq;exact a0
  |1,_,hq=>cases hq;exact a1
  |2,_,hq=>cases hq;exact a2
  |3,_,hq=>cases hq;exact a3
  |4,_,hq=>cases hq;exact a4
  |5,_,hq=>cases hq;exact a5
  |6,_,hq=>cases hq;exact a6
  |7,_,hq=>cases hq;exact a7
  |8,_,hq=>cases hq;exact a8
 .simp at hc
  rcases hc with rfl|rfl|rfl|rfl|rfl|rfl|rfl|rfl|rfl<;>assumption
 ·have hj:j<9:=by
   have:=(zzc_.1 hu).1
   simpa[rw_] using this
  match j,hj,hu,hc with
  |0,_,hu,hc=>cases hu;cases hc;exact c0
  |1,_,hu,hc=>cases hu;cases hc;exact c1
  |2,_,hu,hc=>cases hu;cases hc;exact c2
  |3,_,hu,hc=>cases hu;cases hc;exact c3
  |4,_,hu,hc=>cases hu;cases hc;exact c4
  |5,_,hu,hc=>cases hu;cases hc;exact c5
  |6,_,hu,hc=>cases hu;cases hc;exact c6
  |7,_,hu,hc=>cases hu;cases hc;exact c7
  |8,_,hu,hc=>cases hu;cases hc;exact c8
 .simp at hc
  rcases hc with rfl|rfl|rfl|rfl|rfl|rfl|rfl|rfl|rfl<;>assumption
 .rw[<-c0.of_s rfl];exact a0
 .rw[<-c1.of_s rfl];exact a1
 .rw[<-c2.of_s rfl];exact a2
 .rw[<-c4.of_s rfl];exact a4
 .rw[<-c5.of_s rfl];exact a5
 .rw[<-c6.of_s rfl];exact a6
theorem Net.keepI{wx:World}(hn:Net T g w X n R U M h)(hb:Below w.heap.size w wx):∀b o,o<g.I b->o<g.I b/\wx.cell? ⟨b,o,none⟩=w.cell? ⟨b,o,none⟩ :=
 fun b o ho=>⟨ho,yyb_ (a:=⟨b,o,none⟩) (hb.block b (hn.Ilt b (by omega)))⟩
end
theorem yd_{g g':Gh}{w wx:World}{b:RG.Rs}{vs:Array Value}(h:Rep g w (rv b) (.agg vs))(hI:∀b o,o<g.I b->o<g'.I b/\wx.cell? ⟨b,o,none⟩=w.cell? ⟨b,o,none⟩):Rep g' wx (rv b) (.agg vs):=by
 cases h with
 |agg e1 e2 e3=>exact .agg e1 e2 fun j u c hu hc=>zO_ (e3 j u c hu hc) (wU_ b u (zzd_ hu)) hI
structure Gv(g:Gh)(w:World)(b:RG.Rs)(l:RG.Out)(w':World)(g':Gh)(rs:Array Value)(A:Option Addr)(C:Nat):Prop where
 below:Below w.heap.size w w'
 same:∀k,k<w.heap.size->g'.I k=g.I k
 Ilt:∀k,0<g'.I k->k<w'.heap.size
 rb:Rep g' w' (rv b) (.agg rs)
 rl:Rep g' w' (.list 19 (ou l)) (.slice A l.length C)
@[simp] theorem ou_length (l:RG.Out):(ou l).length=l.length:=by simp[ou]
theorem rJ_{g g':Gh}{w w':World}{b:RG.Rs}{l:RG.Out}{e:Int}{v:Value}(hr:Rep g' w' (.tup [rv b,.list 19 (ou l),.s (.int .i64 e)]) v)(h1:Below w.heap.size w w')(h2:∀k,k<w.heap.size->g'.I k=g.I k)(h3:∀k,0<g'.I k->k<w'.heap.size) :
 ∃rs A C,v=.tuple #[.agg rs,.slice A l.length C,.int .i64 e]/\Gv g w b l w' g' rs A C:=by
 cases hr with
 | tup e1 e2 =>
   rename_i vs
   obtain⟨a,c,d,rfl⟩:∃a c d,vs=#[a,c,d]:=by
    have:vs.toList.length=3:=by have:=e1;simp at this;simp;omega
    match hv:vs.toList,this with
    |[a,c,d],_=>exact⟨a,c,d,Array.ext' (by simpa using hv)⟩
   have ha:=e2 0 _ a rfl rfl
   have hc:=e2 1 _ c rfl rfl
   have hd:=(e2 2 _ d rfl rfl).of_s rfl
   subst hd
   obtain⟨vs,rfl⟩:∃vs,a=.agg vs:=by
    cases ha with
    |agg _ _ _=>exact⟨_,rfl⟩
   obtain⟨A,C,rfl⟩:∃A C,c=.slice A l.length C:=by
    cases hc with
    |list vals hc hm hA hz hi hcell hrep=>exact⟨_,_,by rw[ou_length]⟩
   exact⟨vs,A,C,rfl,h1,h2,h3,ha,hc⟩
structure Aft(T:Nat->Nat)(g:Gh)(w:World)(X n:Nat)(R:Nat->RG.Rs)(U:Nat->Bool)(M:Nat->Nat->List RG.Rm)(h:Hd)(b:RG.Rs)(l:RG.Out)(g':Gh)(W:World)(rs:Array Value)(A:Option Addr)(C:Nat)(K:Nat):Prop where
 net:Net T g' W X n R U M h
 rb:Rep g' W (rv b) (.agg rs)
 rl:Rep g' W (.list 19 (ou l)) (.slice A l.length C)
 os:W.os=w.os
 tape:W.tape=w.tape
 output:W.output=w.output
 size:w.heap.size<=W.heap.size
 fr:∀k,k<w.heap.size->W.heap[k]?=w.heap[k]?
 same:∀k,k<w.heap.size->g'.I k=g.I k
 box:W.heap[K]?=some (.cells rs 37 (0,0))
section
variable{T:Nat->Nat}{g g':Gh}{w wx w':World}{X n:Nat}{R:Nat->RG.Rs}{U:Nat->Bool}{M:Nat->Nat->List RG.Rm}{h:Hd}{b:RG.Rs}{l:RG.Out}{rs:Array Value}{A:Option Addr}{C:Nat}
theorem Gv.aft(hv:Gv g wx b l w' g' rs A C)(hn:Net T g w X n R U M h)(hb:Below w.heap.size w wx){W:World}{k:Nat}(hk:w.heap.size<=k)(hkI:g'.I k=0)(h1:W.os=w'.os)(h2:W.tape=w'.tape)(h3:W.output=w'.output)(h4:w'.heap.size<=W.heap.size)(h5:∀j,j≠k->j<w'.heap.size->W.heap[j]?=w'.heap[j]?)(h6:W.heap[k]?=some (.cells rs 37 (0,0))) :
 Aft T g w X n R U M h b l g' W rs A C k:=by
 obtain⟨a1,a2,a3,a4,a5⟩:=hv
 have hI:∀b o,o<g'.I b->o<g'.I b/\W.cell? ⟨b,o,none⟩=w'.cell? ⟨b,o,none⟩:=fun b o ho=>by
  have hl:=a3 b (by omega)
  exact⟨ho,yyb_ (a:=⟨b,o,none⟩) (h5 b (by rintro rfl;omega) hl)⟩
 have s1:=hb.size
 have s2:=a1.size
 have hfr:∀j,j<w.heap.size->W.heap[j]?=w.heap[j]?:=fun j hj=>(h5 j (by omega) (by omega)).trans ((a1.block j (by omega)).trans (hb.block j hj))
 have hsm:∀j,j<w.heap.size->g'.I j=g.I j:=fun j hj=>a2 j (by omega)
 exact⟨hn.grow (by omega) hfr hsm fun j hj=>zzk_ (a3 j hj) h4,yd_ a4 hI,zO_ a5 rfl hI,h1.trans (a1.os.trans hb.os),h2.trans (a1.tape.trans hb.tape),h3.trans (a1.output.trans hb.output),by omega,hfr,hsm,h6⟩
theorem Gv.aft1(hv:Gv g wx b l w' g' rs A C)(hn:Net T g w X n R U M h)(hb:Below w.heap.size w wx){zs:Array Value}(hz:zs.size=9) :
 ∃W,(Instr.storeAt 37 (.pointer (some ⟨w'.heap.size,0,none⟩)) (.agg rs)).run Try.prog (w'.alloc (.cells zs 37))=.ok () W/\Aft T g w X n R U M h b l g' W rs A C w'.heap.size:=by
 obtain⟨z1,z2,z3⟩:=xW_ hv.rb
 obtain⟨W,q1,q2,q3,q4⟩:=sz37.box (w:=w') (zs:=zs) z1 hz z2
 refine⟨W,q1,hv.aft hn hb (k:=w'.heap.size) ?_ ?_ q2.os q2.tape q2.output q2.size (fun j _ hj=>q2.block j hj) q4⟩
 .have:=hb.size;have:=hv.below.size;omega
 .by_cases h0:0<g'.I w'.heap.size
  .have:=hv.Ilt _ h0;omega
  .omega
theorem Gv.aft2(hv:Gv g wx b l w' g' rs A C)(hn:Net T g w X n R U M h)(hb:Below w.heap.size w wx){zs:Array Value}(hz:zs.size=9){k:Nat}(hk:w.heap.size<=k)(hkz:wx.heap[k]?=some (.cells zs 37 (0,0))) :
 ∃W,(Instr.storeAt 37 (.pointer (some ⟨k,0,none⟩)) (.agg rs)).run Try.prog w'=.ok () W/\Aft T g w X n R U M h b l g' W rs A C k:=by
 obtain⟨z1,z2,z3⟩:=xW_ hv.rb
 have hkx:k<wx.heap.size:=(zzm_.1 hkz).1
 have hn':w'.heap[k]?=some (.cells zs 37 (0,0)):=(hv.below.block k hkx).trans hkz
 have hst:=sz37.st z1 hn' (o:=0) (by omega) z2
 obtain⟨cur',d1,d2,d3⟩:=yy_ rs.toList 0 w' k zs 37 hn' (by simp;omega)
 have hsz:∀vs o (W:World),(W.setCells k o vs).heap.size=W.heap.size:=fun vs=>by
  induction vs with
  |nil=>intro o W;rfl
  |cons v r ih=>intro o W;rw[World.setCells,ih];simp[World.setCell]
 have hf:=zG_ k rs.toList 0 w'
 refine⟨_,hst,hv.aft hn hb hk ?_ hf.1 hf.2.1 hf.2.2 (by rw[hsz];exact zzl_ _) (fun j hj hjs=>ys_ hjs hj) ?_⟩
 .rw[hv.same k hkx]
  by_cases h0:0<g.I k
  .have:=hn.Ilt _ h0;omega
  .omega
 .rw[d1]
  have:cur'=rs:=Array.ext' (by
   rw[d3,List.take_zero,List.nil_append,List.drop_eq_nil_of_le (by simp;omega),List.append_nil])
  rw[this]
end
structure Kp(T:Nat->Nat)(g:Gh)(w:World)(T':Nat->Nat)(g':Gh)(w':World):Prop where
 os:w'.os=w.os
 tape:w'.tape=w.tape
 output:w'.output=w.output
 size:w.heap.size<=w'.heap.size
 fr:∀k,k<w.heap.size->T k=0->T' k=0/\w'.heap[k]?=w.heap[k]?
 same:∀k,k<w.heap.size->g'.I k=g.I k
theorem Kp.refl(T:Nat->Nat)(g:Gh)(w:World):Kp T g w T g w:=⟨rfl,rfl,rfl,zzl_ _,fun _ _ h=>⟨h,rfl⟩,fun _ _=>rfl⟩
theorem Kp.trans{T T1 T2:Nat->Nat}{g g1 g2:Gh}{w w1 w2:World}(h:Kp T g w T1 g1 w1)(h':Kp T1 g1 w1 T2 g2 w2):Kp T g w T2 g2 w2 :=
 ⟨h'.os.trans h.os,h'.tape.trans h.tape,h'.output.trans h.output,yyd_ h.size h'.size,fun k hk h0=>⟨(h'.fr k (zzk_ hk h.size) (h.fr k hk h0).1).1,(h'.fr k (zzk_ hk h.size) (h.fr k hk h0).1).2.trans (h.fr k hk h0).2⟩,fun k hk=>(h'.same k (zzk_ hk h.size)).trans (h.same k hk)⟩
end
structure Pop(T:Nat->Nat)(g:Gh)(w:World)(X n:Nat)(R:Nat->RG.Rs)(U:Nat->Bool)(M:Nat->Nat->List RG.Rm)(T':Nat->Nat)(h':Hd)(ms:Array Value)(Kt:Nat)(W:World):Prop where
 net:Net T' g W X n R U M h'
 box:W.heap[Kt]?=some (.cells ms 57 (0,0))
 lt:w.heap.size<=Kt
 os:W.os=w.os
 tape:W.tape=w.tape
 output:W.output=w.output
 size:w.heap.size<=W.heap.size
 fr:∀k,k<w.heap.size->T k=0->T' k=0/\W.heap[k]?=w.heap[k]?
theorem rn_{k off cap m:Nat}(h1:m+1<=cap)(h2:cap<=maxLen)(Y:World):(Instr.slice 58 (.slice (some ⟨k,off,none⟩) (m+1) cap) (some (.int .i64 1)) none none).run Try.prog Y=.ok (.slice (if cap=1 then some ⟨k,off,none⟩ else some ⟨k,off+18,none⟩) m (cap-1)) Y:=by
 obtain⟨i0,hi0,hzs⟩:∃i0,Try.prog.info? 57=some i0/\i0.size=18:=⟨_,rfl,by kernel_rfl⟩
 have hb:(Instr.sliceBounds true (m+1) cap (some (.int .i64 1)) none none).run Try.prog Y=.ok (1,m+1,cap) Y:=by
  have h3:(1:Int)<=(m:Int)+1:=by omega
  simp[Instr.sliceBounds,Instr.sliceBound,asIntOf,h3]
 simp[Instr.slice,run_underlying Try.underlying58,hb,sizeOf,typeInfo,hi0,hzs,Addr.add]
theorem mc18(m:RG.Rm):(mc (kk m.k) m.e m.s).toArray.size=18/\∀v∈(mc (kk m.k) m.e m.s).toArray.toList,v.oneCell'=true:=⟨rfl,w5_ _ _ _⟩
theorem Net.popV{T:Nat->Nat}{g:Gh}{w:World}{X n:Nat}{R:Nat->RG.Rs}{U:Nat->Bool}{M:Nat->Nat->List RG.Rm}{h:Hd}(hn:Net T g w X n R U M h){i j:Nat}(hi:i<n)(hj:j<n){m:RG.Rm}{rest:List RG.Rm}(hm:M i j=m::rest){zs:Array Value}(hzs:zs.size=18){ms:Array Value}(hms:ms=(mc (kk m.k) m.e m.s).toArray) :
 ∃ (k off cap Kt C2 : Nat) (A2 : Option Addr) (W4 W5 : World) (T2 : Nat → Nat) (h2 : Hd), h.mv i j = .slice (some ⟨k, off, none⟩) (rest.length + 1) cap ∧ rest.length + 1 ≤ cap ∧ cap ≤ maxLen ∧ Hs w k off ms ∧
   w.heap.size=Kt/\(Instr.storeAt 57 (.pointer (some ⟨Kt,0,none⟩)) (.agg ms)).run Try.prog (w.alloc (.cells zs 57))=.ok () W4/\W4.cell? ⟨X,2,none⟩=some (.slice (some ⟨h.mb,0,none⟩) n h.mc)/\W4.cell? ⟨h.mb,i,none⟩=some (.slice (some ⟨h.rk i,0,none⟩) n (h.rc i))/\W4.cell? ⟨h.rk i,j,none⟩=some (h.mv i j) /\
   W4.frozen? ⟨h.rk i,j,none⟩=false/\Asd (∀Y:World,Y=W4.drew->Y.setCell ⟨h.rk i,j,none⟩ (.slice A2 rest.length C2)=W5)/\(∀Y:World,(Instr.slice 58 (.slice (some ⟨k,off,none⟩) (rest.length+1) cap) (some (.int .i64 1)) none none).run Try.prog Y=.ok (.slice A2 rest.length C2) Y)/\Asd (Pop T g w X n R U (updM M i j rest) T2 h2 ms Kt W5):=by
 have n9:=hn.n9
 have hv0:=hn.vv i j hi hj
 rw[hm]at hv0
 obtain⟨k,off,cap,e,e1,e2,c0,hmb,hrb⟩:=nA_ hv0
 rw[<-hms]at c0
 have hm18:ms.size=18:=by rw[hms];exact(mc18 m).1
 have hm1:∀v∈ms.toList,v.oneCell'=true:=by rw[hms];exact(mc18 m).2
 obtain⟨W4,hst,hb4,hs4,hK4⟩:=sz57.box (w:=w) (zs:=zs) hm18 hzs hm1
 have hn4:=hn.below hb4
 have hd:Net T g W4.drew X n R U M h:=hn4.grow (zzl_ _) (fun _ _=>rfl) (fun _ _=>rfl) hn4.Ilt
 have hm4:MBx W4.drew (.slice (if cap=1 then some ⟨k,off,none⟩ else some ⟨k,off+18,none⟩) rest.length (cap-1)) rest:=hmb.keep fun k' hk'=>hb4.block k' (hn.vt hi hj (hrb k' hk')).1
 obtain⟨q1,q2,q3⟩:=hd.setV hi hj (w1:=W4.drew) (l':=rest) (zzl_ _) (fun _ _ _=>rfl) hm4 fun k' hk'=>⟨.inl (hrb k' hk'),by have:=(hn.vt hi hj (hrb k' hk')).1;show k'<W4.heap.size;omega⟩
 have hTr:=hn.tag.r i hi
 obtain⟨cr,r1,r2⟩:=hn4.rr i hi
 have hKT:T w.heap.size=0:=by
  by_cases h0:T w.heap.size=0
  .exact h0
  .have:=(hn.tz _ h0).1;omega
 have hp0:∀a,T a=0->putT T i j (.slice (if cap=1 then some ⟨k,off,none⟩ else some ⟨k,off+18,none⟩) rest.length (cap-1)) a=0:=fun a ha=>by
  by_cases e':rb (.slice (if cap=1 then some ⟨k,off,none⟩ else some ⟨k,off+18,none⟩) rest.length (cap-1))=some a
  .have:=hn.tag.v i j a hi hj (hrb a e');omega
  .unfold putT
   rw[if_neg e']
   exact ha
 refine⟨k,off,cap,w.heap.size,cap-1,if cap=1 then some ⟨k,off,none⟩ else some ⟨k,off+18,none⟩,W4,_,_,_,e,e1,e2,c0,rfl,hst,hn4.x2',hn4.m1 hi,hn4.m2 hi hj,by simp[World.frozen?,r1],⟨fun Y hY=>by rw[hY]⟩,fun Y=>rn_ e1 e2 Y,⟨q1,?_,zzl_ _,hb4.os,hb4.tape,hb4.output,?_,fun a ha h0=>⟨hp0 a h0,?_⟩⟩⟩
 .rw[q3 _ (by show w.heap.size<W4.heap.size;omega) (by intro e';rw[e']at hKT;omega)]
  exact hK4
 .rw[q2];show w.heap.size<=W4.heap.size;omega
 .rw[q3 a (by show a<W4.heap.size;omega) (by rintro rfl;omega)]
  exact hb4.block a ha
theorem rO_{T:Nat->Nat}{g:Gh}{w:World}{X n:Nat}{R:Nat->RG.Rs}{U:Nat->Bool}{M:Nat->Nat->List RG.Rm}{h:Hd}(hn:Net T g w X n R U M h){i j:Nat}(hi:i<n)(hj:j<n){m:RG.Rm}{rest:List RG.Rm}(hm:M i j=m::rest){b:RG.Rs}{l:RG.Out}
 (hH:PC Try.prog 13 [rv (R j),.s (.int .i64 j),.s (.int .i64 n),.s (.int .i64 i),mv m] (fun x=>x=.tup [rv b,.list 19 (ou l),.s (.int .i64 0)])) (hto:∀p∈l,0<=p.1/\p.1<n/\p.1≠j) (hl:l.length<=1000) (hM:∀a b,(M a b).length+l.length<=100000) :
 Calls Try.prog 20 #[.pointer (some ⟨X,0,none⟩),.int .i64 i,.int .i64 j] w fun e w'=>∃T' g' h',e=.returned (.bool true)/\Net T' g' w' X n (RG.updR R j b) U (RG.put (updM M i j rest) j l) h'/\Kp T g w T' g' w':=by
 have mx:=zN_
 have n9:=hn.n9
 have x2:=hn.x2'
 have m1:=hn.m1 hi
 have m2:=hn.m2 hi hj
 have hmcn:=hn.mcn
 have hrcn:=hn.rcn i hi
 have hiz:(i:Int)<n:=by omega
 have hjz:(j:Int)<n:=by omega
 have hi0:¬(i:Int)<0:=by omega
 have hj0:¬(j:Int)<0:=by omega
 obtain⟨ms,hms⟩:∃ms,ms=(mc (kk m.k) m.e m.s).toArray:=⟨_,rfl⟩
 obtain⟨k,off,cap,Kt,C2,A2,W4,W5,T2,h2,e,e1,e2,c0,hKt,hW4,f2,f1,f0,ffr,hst,hsl,hP⟩:=hn.popV hi hj hm (zs:=#[.int .i64 0,.int .i64 0,.int .i64 0,.int .i64 0,.int .i64 0,.string (ByteArray.mk #[]),.int .i64 0,.int .i64 0,.int .i64 0,.int .i64 0,.int .i64 0,.int .i64 0,.int .i64 0,.int .i64 0,.bool false,.slice none 0 0,.slice none 0 0,.slice none 0 0]) rfl hms
 rw[e]at m2 f0
 have hm18:ms.size=18:=by rw[hms];exact(mc18 m).1
 have HL0:=Lib.hid (sz57.ld hm18 c0)
 have HW4:=Lib.hid hW4
 have hlr:((rest.length+1:Nat):Int)=(rest.length:Int)+1:=by omega
 have HP:=Lib.hid hP
 have d0:W4.drew.cell? ⟨h.rk i,j,none⟩=some (.slice (some ⟨k,off,none⟩) (rest.length+1) cap):=f0
 have d2:W4.drew.cell? ⟨X,2,none⟩=some (.slice (some ⟨h.mb,0,none⟩) n h.mc):=f2
 have d1:W4.drew.cell? ⟨h.mb,i,none⟩=some (.slice (some ⟨h.rk i,0,none⟩) n (h.rc i)):=f1
 have dfr:W4.drew.frozen? ⟨h.rk i,j,none⟩=false:=ffr
 have hst1:W4.drew.setCell ⟨h.rk i,j,none⟩ (.slice A2 rest.length C2)=W5:=hst.out _ rfl
 have HE:=Lib.hid (And.intro e1 e2)
 -- behind the first regions
 have hN:=hP.out.net
 have hbc2:=hN.bcn
 obtain⟨vs,hvs,hV,hrv,hv1,_⟩:=hN.st hj
 have hKl:Kt<W5.heap.size:=(zzm_.1 hP.out.box).1
 have hcall:∀wx,Below W5.heap.size W5 wx->Calls Try.prog 13 #[.agg vs,.int .i64 j,.int .i64 n,.int .i64 i,.agg ms] wx fun e w'=>∃g' rs A C,e=.returned (.tuple #[.agg rs,.slice A l.length C,.int .i64 0])/\Gv g wx b l w' g' rs A C:=by
  intro wx hbx
  have hI:=hN.keepI hbx
  refine(xw_ hH (g:=g) (w:=wx) (vals:=#[.agg vs,.int .i64 j,.int .i64 n,.int .i64 i,.agg ms]) rfl ?_ ?_ fun k hk=>zzk_ (hN.Ilt k hk) hbx.size).mono ?_
  .intro x hx
   simp at hx
   rcases hx with rfl|rfl|rfl|rfl|rfl<;>rfl
  .intro x u c hu hc
   match x,hu,hc with
   |0,hu,hc=>cases hu;cases hc;exact yd_ hrv hI
   |1,hu,hc=>cases hu;cases hc;exact .s rfl
   |2,hu,hc=>cases hu;cases hc;exact .s rfl
   |3,hu,hc=>cases hu;cases hc;exact .s rfl
   |4,hu,hc=>cases hu;cases hc;rw[hms];exact wi_ (w5_ _ _ _)
  .rintro e w' ⟨v,r,g',rfl,rfl,hr,hbel,hg,hlt⟩
   obtain⟨rs,A,C,rfl,hv⟩:=rJ_ hr hbel hg hlt
   exact⟨g',rs,A,C,rfl,hv⟩
 have hB1:Below W5.heap.size W5 W5.drew:=⟨rfl,rfl,rfl,zzl_ _,fun _ _=>rfl⟩
 have hB2:Below W5.heap.size W5 (W5.drew.alloc (.cells #[.int .i64 0,.bool false,.bool false,.slice none 0 0,.bool false,.bool false,.bool false,.int .i64 0,.int .i64 0] 37)):=⟨rfl,rfl,rfl,by simp,fun k hk=>Below.heap_alloc W5.drew _ k hk⟩
 have hZ2:(W5.drew.alloc (.cells #[.int .i64 0,.bool false,.bool false,.slice none 0 0,.bool false,.bool false,.bool false,.int .i64 0,.int .i64 0] 37)).heap[W5.heap.size]?=some (.cells #[.int .i64 0,.bool false,.bool false,.slice none 0 0,.bool false,.bool false,.bool false,.int .i64 0,.int .i64 0] 37 (0,0)):=heap_alloc_new W5.drew _
 obtain⟨hXl,hBl,_,_⟩:=hN.lt
 have x0:=hN.x0'
 have hS:∀wx,Below W5.heap.size W5 wx->wx.cell? ⟨X,0,none⟩=some (.slice (some ⟨h2.bk,0,none⟩) n h2.bc)/\Hs wx h2.bk (j*9) vs/\Hs wx Kt 0 ms:=fun wx hb=>⟨xd_ hb x0 hXl,hV.below hb hBl,(zB_ hP.out.box).below hb hKl⟩
 have HS:=Lib.hid hS
 have HN:=Lib.hid hN
 have HC:=Lib.hid hcall
 have HTO:=Lib.hid hto
 have HL:=Lib.hid hl
 have HVS:=Lib.hid hvs
 have HMS:=Lib.hid hm18
 have hM':∀a b,(updM M i j rest a b).length+l.length<=100000:=fun a b=>by
  have:=hM a b
  unfold updM
  split
  .next q=>rw[q.1,q.2,hm]at this;simp at this;omega
  .exact this
 have HM:=Lib.hid hM'
 have HB1:=Lib.hid hB1
 have HB2:=Lib.hid hB2
 have HZ2:=Lib.hid hZ2
 clear e hn hm hH hst hS hN hcall hto hl hM hM' hvs hm18 hrv hv1 hV c0 hW4 hB1 hB2 hZ2 x0 hms hP f0 f1 f2 ffr e1 e2 hKl
 go_enter Try.func20,Try.ntmps20
 go_wp2_with (first
  |(refine zL_ rfl 57 _ rfl _ _ rfl HL0.out ?_)
  |(refine zk_ rfl rfl 57 _ _ rfl _ _ rfl rfl HW4.out ?_))
 go_region
 clear d0 d1 d2 dfr hst1 hsl x2 m1 m2 HE
 go_wp2
 have s0:=HS.out _ HB1.out
 refine zw_ (fun wx=>wx.cell? ⟨X,0,none⟩=some (.slice (some ⟨h2.bk,0,none⟩) n h2.bc)/\Hs wx h2.bk (j*9) vs/\Hs wx Kt 0 ms) 21 mx ?_
 refine z1_ (i:=0) (v:=?_) rfl (by kernel_rfl) (fun _ _ _ h=>h) (by kernel_rfl) ?_ (fun _=>s0) ?_
 rotate_left
 ·(intro w9;go_simp;first|done|with_reducible rfl)
 try simp only[Act.put,zze_,zzi_,zzj_]
 refine z1_ (i:=1) (v:=?_) rfl (by kernel_rfl) (fun _ _ _ h=>h) (by kernel_rfl) ?_ (fun _=>s0) ?_
 rotate_left
 ·(intro w9;go_simp;first|done|with_reducible rfl)
 try simp only[Act.put,zze_,zzi_,zzj_]
 refine z1_ (i:=2) (v:=?_) rfl (by kernel_rfl) (fun _ _ _ h=>h) (by kernel_rfl) ?_ (fun _=>s0) ?_
 rotate_left
 ·(intro w9;go_simp;first|done|with_reducible rfl)
 try simp only[Act.put,zze_,zzi_,zzj_]
 refine zr_ (i:=3) (v:=?_) rfl (by kernel_rfl) (by kernel_rfl) (fun _ _ _ h=>h) (by kernel_rfl) ?_ (fun _=>s0) ?_
 rotate_left
 ·(intro w9 hSw;(try dsimp only at hSw);obtain⟨S1,S0,S2⟩:=hSw;clear S0 S2;go_simp;first|done|with_reducible rfl)
 try simp only[Act.put,zze_,zzi_,zzj_]
 refine z1_ (i:=4) (v:=?_) rfl (by kernel_rfl) (fun _ _ _ h=>h) (by kernel_rfl) ?_ (fun _=>s0) ?_
 rotate_left
 ·(intro w9;go_simp;first|done|with_reducible rfl)
 try simp only[Act.put,zze_,zzi_,zzj_]
 refine z1_ (i:=5) (v:=?_) rfl (by kernel_rfl) (fun _ _ _ h=>h) (by kernel_rfl) ?_ (fun _=>s0) ?_
 rotate_left
 ·(intro w9;go_simp;first|done|with_reducible rfl)
 try simp only[Act.put,zze_,zzi_,zzj_]
 refine zr_ (i:=6) (v:=.agg vs) rfl (by kernel_rfl) (by kernel_rfl) (fun _ _ _ h=>h) (by kernel_rfl) (fun w9 hSw=>yk_ 37 _ rfl (u:=.pointer (some ⟨h2.bk,j*9,none⟩)) rfl (sz37.ld HVS.out hSw.2.1)) (fun _=>s0) ?_
 try simp only[Act.put,zze_,zzi_,zzj_]
 refine z1_ (i:=7) (v:=?_) rfl (by kernel_rfl) (fun _ _ _ h=>h) (by kernel_rfl) ?_ (fun _=>s0) ?_
 rotate_left
 ·(intro w9;go_simp;first|done|with_reducible rfl)
 try simp only[Act.put,zze_,zzi_,zzj_]
 refine z1_ (i:=8) (v:=?_) rfl (by kernel_rfl) (fun _ _ _ h=>h) (by kernel_rfl) ?_ (fun _=>s0) ?_
 rotate_left
 ·(intro w9;go_simp;first|done|with_reducible rfl)
 try simp only[Act.put,zze_,zzi_,zzj_]
 refine z1_ (i:=9) (v:=?_) rfl (by kernel_rfl) (fun _ _ _ h=>h) (by kernel_rfl) ?_ (fun _=>s0) ?_
 rotate_left
 ·(intro w9;go_simp;first|done|with_reducible rfl)
 try simp only[Act.put,zze_,zzi_,zzj_]
 refine z1_ (i:=10) (v:=?_) rfl (by kernel_rfl) (fun _ _ _ h=>h) (by kernel_rfl) ?_ (fun _=>s0) ?_
 rotate_left
 ·(intro w9;go_simp;first|done|with_reducible rfl)
 try simp only[Act.put,zze_,zzi_,zzj_]
 refine zr_ (i:=11) (v:=?_) rfl (by kernel_rfl) (by kernel_rfl) (fun _ _ _ h=>h) (by kernel_rfl) ?_ (fun _=>s0) ?_
 rotate_left
 ·(intro w9 hSw;(try dsimp only at hSw);obtain⟨S1,S0,S2⟩:=hSw;clear S0 S2;go_simp;first|done|with_reducible rfl)
 try simp only[Act.put,zze_,zzi_,zzj_]
 refine z1_ (i:=12) (v:=?_) rfl (by kernel_rfl) (fun _ _ _ h=>h) (by kernel_rfl) ?_ (fun _=>s0) ?_
 rotate_left
 ·(intro w9;go_simp;first|done|with_reducible rfl)
 try simp only[Act.put,zze_,zzi_,zzj_]
 refine z1_ (i:=13) (v:=?_) rfl (by kernel_rfl) (fun _ _ _ h=>h) (by kernel_rfl) ?_ (fun _=>s0) ?_
 rotate_left
 ·(intro w9;go_simp;first|done|with_reducible rfl)
 try simp only[Act.put,zze_,zzi_,zzj_]
 refine zr_ (i:=14) (v:=.agg ms) rfl (by kernel_rfl) (by kernel_rfl) (fun _ _ _ h=>h) (by kernel_rfl) (fun w9 hSw=>yk_ 57 _ rfl (u:=.pointer (some ⟨Kt,0,none⟩)) rfl (sz57.ld HMS.out hSw.2.2)) (fun _=>s0) ?_
 try simp only[Act.put,zze_,zzi_,zzj_]
 refine z9_ (rs:=[15,20]) (by kernel_rfl) (by simp) ?_
 refine z3_ rfl (fun K hK=>?_) (z3_ rfl (fun K hK=>?_) AllG.nil)
 .go_simp
  refine(HC.out _ HB1.out).mono ?_
  rintro e w' ⟨g',rs,A,C,rfl,hv⟩
  have hB3:=HB1.out.trans (Below.mono1 hv.below HB1.out.size)
  have s1:=HS.out _ hB3
  go_simp
  refine hK.out _ _ (fun _=>s1) ?_
  clear hK K
  try simp only[Act.put,zze_,zzi_,zzj_]
  refine z1_ (i:=16) (v:=?_) rfl (by kernel_rfl) (fun _ _ _ h=>h) (by kernel_rfl) ?_ (fun _=>s1) ?_
  rotate_left
  ·(intro w9;go_simp;first|done|with_reducible rfl)
  try simp only[Act.put,zze_,zzi_,zzj_]
  refine z1_ (i:=17) (v:=?_) rfl (by kernel_rfl) (fun _ _ _ h=>h) (by kernel_rfl) ?_ (fun _=>s1) ?_
  rotate_left
  ·(intro w9;go_simp;first|done|with_reducible rfl)
  try simp only[Act.put,zze_,zzi_,zzj_]
  refine z1_ (i:=18) (v:=?_) rfl (by kernel_rfl) (fun _ _ _ h=>h) (by kernel_rfl) ?_ (fun _=>s1) ?_
  rotate_left
  ·(intro w9;go_simp;first|done|with_reducible rfl)
  try simp only[Act.put,zze_,zzi_,zzj_]
  refine z1_ (i:=19) (v:=?_) rfl (by kernel_rfl) (fun _ _ _ h=>h) (by kernel_rfl) ?_ (fun _=>s1) ?_
  rotate_left
  ·(intro w9;go_simp;first|done|with_reducible rfl)
  try simp only[Act.put,zze_,zzi_,zzj_]
  obtain⟨W,hW,hA⟩:=hv.aft1 HN.out HB1.out (zs:=#[.int .i64 0,.bool false,.bool false,.slice none 0 0,.bool false,.bool false,.bool false,.int .i64 0,.int .i64 0]) rfl
  have HW:=Lib.hid hW
  have HA:=Lib.hid hA
  have s2:=HS.out _ (hB3.trans (Below.mono1 (zI_ w' (.cells #[.int .i64 0,.bool false,.bool false,.slice none 0 0,.bool false,.bool false,.bool false,.int .i64 0,.int .i64 0] 37)) hB3.size))
  clear hW hA hv
  refine z9_ (rs:=[20]) (by kernel_rfl) (by simp) ?_
  refine z3_ rfl (fun K hK=>?_) AllG.nil
  go_simp
  refine hK.out _ _ (fun _=>s2) ?_
  clear hK K s2
  try simp only[Act.put,zze_,zzi_,zzj_]
  refine zP_ (by kernel_rfl) (by kernel_rfl) (by decide) ?_
  simp only[List.drop_succ_cons,List.drop_zero]
  refine zk_ rfl rfl 37 _ _ rfl _ _ rfl rfl HW.out ?_
  clear s0 s1
  have hcall2:=zX_ HA.out.net hj HA.out.rb HA.out.rl HTO.out HL.out (fun a b=>HM.out a b)
  have HC2:=Lib.hid hcall2
  have HLD:=Lib.hid (sz37.ld (xW_ HA.out.rb).1 (zB_ HA.out.box))
  clear hcall2
  go_wp2_with (first
   |(refine zL_ rfl 37 _ rfl _ _ rfl HLD.out ?_)
   | (go_at_call 11
      refine HC2.out.mono ?_
      rintro e w2 ⟨T',h',rfl,hk⟩
      have HK:=Lib.hid hk
      clear hk))
  all_goals go_wp2
  all_goals go_ret
  all_goals
   obtain⟨t1,t2,t3,t4,t5,t6⟩:=HK.out
   have ha:=HA.out
   have hp:=HP.out.out
   have hkp:Kp T g w T' g' w2:=⟨t2.trans (ha.os.trans hp.os),t3.trans (ha.tape.trans hp.tape),t4.trans (ha.output.trans hp.output),yyd_ hp.size (yyd_ ha.size t5),fun k hk h0=>⟨(t6 k (zzk_ (zzk_ hk hp.size) ha.size) (hp.fr k hk h0).1).1,(t6 k (zzk_ (zzk_ hk hp.size) ha.size) (hp.fr k hk h0).1).2.trans ((ha.fr k (zzk_ hk hp.size)).trans (hp.fr k hk h0).2)⟩,fun k hk=>ha.same k (zzk_ hk hp.size)⟩
   first|exact⟨T',g',h',rfl,t1,hkp⟩|exact⟨rfl,T',g',⟨h',t1⟩,hkp⟩
 .go_simp
  have s1:=HS.out _ HB2.out
  refine hK.out _ _ (fun _=>s1) ?_
  clear hK K
  try simp only[Act.put,zze_,zzi_,zzj_]
  refine z9_ (rs:=[15]) (by kernel_rfl) (by simp) ?_
  refine z3_ rfl (fun K hK=>?_) AllG.nil
  go_simp
  refine(HC.out _ HB2.out).mono ?_
  rintro e w' ⟨g',rs,A,C,rfl,hv⟩
  have hB3:=HB2.out.trans (Below.mono1 hv.below HB2.out.size)
  have s2:=HS.out _ hB3
  go_simp
  refine hK.out _ _ (fun _=>s2) ?_
  clear hK K
  try simp only[Act.put,zze_,zzi_,zzj_]
  refine z1_ (i:=16) (v:=?_) rfl (by kernel_rfl) (fun _ _ _ h=>h) (by kernel_rfl) ?_ (fun _=>s2) ?_
  rotate_left
  ·(intro w9;go_simp;first|done|with_reducible rfl)
  try simp only[Act.put,zze_,zzi_,zzj_]
  refine z1_ (i:=17) (v:=?_) rfl (by kernel_rfl) (fun _ _ _ h=>h) (by kernel_rfl) ?_ (fun _=>s2) ?_
  rotate_left
  ·(intro w9;go_simp;first|done|with_reducible rfl)
  try simp only[Act.put,zze_,zzi_,zzj_]
  refine z1_ (i:=18) (v:=?_) rfl (by kernel_rfl) (fun _ _ _ h=>h) (by kernel_rfl) ?_ (fun _=>s2) ?_
  rotate_left
  ·(intro w9;go_simp;first|done|with_reducible rfl)
  try simp only[Act.put,zze_,zzi_,zzj_]
  refine z1_ (i:=19) (v:=?_) rfl (by kernel_rfl) (fun _ _ _ h=>h) (by kernel_rfl) ?_ (fun _=>s2) ?_
  rotate_left
  ·(intro w9;go_simp;first|done|with_reducible rfl)
  try simp only[Act.put,zze_,zzi_,zzj_]
  obtain⟨W,hW,hA⟩:=hv.aft2 HN.out HB2.out (zs:=#[.int .i64 0,.bool false,.bool false,.slice none 0 0,.bool false,.bool false,.bool false,.int .i64 0,.int .i64 0]) rfl (zzl_ _) HZ2.out
  have HW:=Lib.hid hW
  have HA:=Lib.hid hA
  clear hW hA hv s2
  refine zP_ (by kernel_rfl) (by kernel_rfl) (by decide) ?_
  simp only[List.drop_succ_cons,List.drop_zero]
  refine zk_ rfl rfl 37 _ _ rfl _ _ rfl rfl HW.out ?_
  clear s0 s1
  have hcall2:=zX_ HA.out.net hj HA.out.rb HA.out.rl HTO.out HL.out (fun a b=>HM.out a b)
  have HC2:=Lib.hid hcall2
  have HLD:=Lib.hid (sz37.ld (xW_ HA.out.rb).1 (zB_ HA.out.box))
  clear hcall2
  go_wp2_with (first
   |(refine zL_ rfl 37 _ rfl _ _ rfl HLD.out ?_)
   | (go_at_call 11
      refine HC2.out.mono ?_
      rintro e w2 ⟨T',h',rfl,hk⟩
      have HK:=Lib.hid hk
      clear hk))
  all_goals go_wp2
  all_goals go_ret
  all_goals
   obtain⟨t1,t2,t3,t4,t5,t6⟩:=HK.out
   have ha:=HA.out
   have hp:=HP.out.out
   have hkp:Kp T g w T' g' w2:=⟨t2.trans (ha.os.trans hp.os),t3.trans (ha.tape.trans hp.tape),t4.trans (ha.output.trans hp.output),yyd_ hp.size (yyd_ ha.size t5),fun k hk h0=>⟨(t6 k (zzk_ (zzk_ hk hp.size) ha.size) (hp.fr k hk h0).1).1,(t6 k (zzk_ (zzk_ hk hp.size) ha.size) (hp.fr k hk h0).1).2.trans ((ha.fr k (zzk_ hk hp.size)).trans (hp.fr k hk h0).2)⟩,fun k hk=>ha.same k (zzk_ hk hp.size)⟩
   first|exact⟨T',g',h',rfl,t1,hkp⟩|exact⟨rfl,T',g',⟨h',t1⟩,hkp⟩
theorem rP_{T:Nat->Nat}{g:Gh}{w:World}{X n:Nat}{R:Nat->RG.Rs}{U:Nat->Bool}{M:Nat->Nat->List RG.Rm}{h:Hd}(hn:Net T g w X n R U M h){i j:Nat}(hi:i<n)(hj:j<n){m:RG.Rm}{rest:List RG.Rm}(hm:M i j=m::rest){b:RG.Rs}{l:RG.Out}{err:Int}
 (hH:PC Try.prog 13 [rv (R j),.s (.int .i64 j),.s (.int .i64 n),.s (.int .i64 i),mv m] (fun x=>x=.tup [rv b,.list 19 (ou l),.s (.int .i64 err)])) (herr:err=14\/err=18\/err=19) (hto:∀p∈l,0<=p.1/\p.1<n/\p.1≠j) (hl:l.length<=1000) (hM:∀a b,(M a b).length+l.length<=100000) :
 Calls Try.prog 20 #[.pointer (some ⟨X,0,none⟩),.int .i64 i,.int .i64 j] w fun e w'=>∃T' g' h',e=.returned (.bool true)/\Net T' g' w' X n (R) U (updM M i j rest) h'/\Kp T g w T' g' w':=by
 have mx:=zN_
 have n9:=hn.n9
 have x2:=hn.x2'
 have m1:=hn.m1 hi
 have m2:=hn.m2 hi hj
 have hmcn:=hn.mcn
 have hrcn:=hn.rcn i hi
 have hiz:(i:Int)<n:=by omega
 have hjz:(j:Int)<n:=by omega
 have hi0:¬(i:Int)<0:=by omega
 have hj0:¬(j:Int)<0:=by omega
 obtain⟨ms,hms⟩:∃ms,ms=(mc (kk m.k) m.e m.s).toArray:=⟨_,rfl⟩
 obtain⟨k,off,cap,Kt,C2,A2,W4,W5,T2,h2,e,e1,e2,c0,hKt,hW4,f2,f1,f0,ffr,hst,hsl,hP⟩:=hn.popV hi hj hm (zs:=#[.int .i64 0,.int .i64 0,.int .i64 0,.int .i64 0,.int .i64 0,.string (ByteArray.mk #[]),.int .i64 0,.int .i64 0,.int .i64 0,.int .i64 0,.int .i64 0,.int .i64 0,.int .i64 0,.int .i64 0,.bool false,.slice none 0 0,.slice none 0 0,.slice none 0 0]) rfl hms
 rw[e]at m2 f0
 have hm18:ms.size=18:=by rw[hms];exact(mc18 m).1
 have HL0:=Lib.hid (sz57.ld hm18 c0)
 have HW4:=Lib.hid hW4
 have hlr:((rest.length+1:Nat):Int)=(rest.length:Int)+1:=by omega
 have HP:=Lib.hid hP
 have d0:W4.drew.cell? ⟨h.rk i,j,none⟩=some (.slice (some ⟨k,off,none⟩) (rest.length+1) cap):=f0
 have d2:W4.drew.cell? ⟨X,2,none⟩=some (.slice (some ⟨h.mb,0,none⟩) n h.mc):=f2
 have d1:W4.drew.cell? ⟨h.mb,i,none⟩=some (.slice (some ⟨h.rk i,0,none⟩) n (h.rc i)):=f1
 have dfr:W4.drew.frozen? ⟨h.rk i,j,none⟩=false:=ffr
 have hst1:W4.drew.setCell ⟨h.rk i,j,none⟩ (.slice A2 rest.length C2)=W5:=hst.out _ rfl
 have HE:=Lib.hid (And.intro e1 e2)
 -- behind the first regions
 have hN:=hP.out.net
 have hbc2:=hN.bcn
 obtain⟨vs,hvs,hV,hrv,hv1,_⟩:=hN.st hj
 have hKl:Kt<W5.heap.size:=(zzm_.1 hP.out.box).1
 have hcall:∀wx,Below W5.heap.size W5 wx->Calls Try.prog 13 #[.agg vs,.int .i64 j,.int .i64 n,.int .i64 i,.agg ms] wx fun e w'=>∃g' rs A C,e=.returned (.tuple #[.agg rs,.slice A l.length C,.int .i64 err])/\Gv g wx b l w' g' rs A C:=by
  intro wx hbx
  have hI:=hN.keepI hbx
  refine(xw_ hH (g:=g) (w:=wx) (vals:=#[.agg vs,.int .i64 j,.int .i64 n,.int .i64 i,.agg ms]) rfl ?_ ?_ fun k hk=>zzk_ (hN.Ilt k hk) hbx.size).mono ?_
  .intro x hx
   simp at hx
   rcases hx with rfl|rfl|rfl|rfl|rfl<;>rfl
  .intro x u c hu hc
   match x,hu,hc with
   |0,hu,hc=>cases hu;cases hc;exact yd_ hrv hI
   |1,hu,hc=>cases hu;cases hc;exact .s rfl
   |2,hu,hc=>cases hu;cases hc;exact .s rfl
   |3,hu,hc=>cases hu;cases hc;exact .s rfl
   |4,hu,hc=>cases hu;cases hc;rw[hms];exact wi_ (w5_ _ _ _)
  .rintro e w' ⟨v,r,g',rfl,rfl,hr,hbel,hg,hlt⟩
   obtain⟨rs,A,C,rfl,hv⟩:=rJ_ hr hbel hg hlt
   exact⟨g',rs,A,C,rfl,hv⟩
 have hB1:Below W5.heap.size W5 W5.drew:=⟨rfl,rfl,rfl,zzl_ _,fun _ _=>rfl⟩
 have hB2:Below W5.heap.size W5 (W5.drew.alloc (.cells #[.int .i64 0,.bool false,.bool false,.slice none 0 0,.bool false,.bool false,.bool false,.int .i64 0,.int .i64 0] 37)):=⟨rfl,rfl,rfl,by simp,fun k hk=>Below.heap_alloc W5.drew _ k hk⟩
 have hZ2:(W5.drew.alloc (.cells #[.int .i64 0,.bool false,.bool false,.slice none 0 0,.bool false,.bool false,.bool false,.int .i64 0,.int .i64 0] 37)).heap[W5.heap.size]?=some (.cells #[.int .i64 0,.bool false,.bool false,.slice none 0 0,.bool false,.bool false,.bool false,.int .i64 0,.int .i64 0] 37 (0,0)):=heap_alloc_new W5.drew _
 obtain⟨hXl,hBl,_,_⟩:=hN.lt
 have x0:=hN.x0'
 have hS:∀wx,Below W5.heap.size W5 wx->wx.cell? ⟨X,0,none⟩=some (.slice (some ⟨h2.bk,0,none⟩) n h2.bc)/\Hs wx h2.bk (j*9) vs/\Hs wx Kt 0 ms:=fun wx hb=>⟨xd_ hb x0 hXl,hV.below hb hBl,(zB_ hP.out.box).below hb hKl⟩
 have HS:=Lib.hid hS
 have HN:=Lib.hid hN
 have HC:=Lib.hid hcall
 have HTO:=Lib.hid hto
 have HL:=Lib.hid hl
 have HVS:=Lib.hid hvs
 have HMS:=Lib.hid hm18
 have hM':∀a b,(updM M i j rest a b).length+l.length<=100000:=fun a b=>by
  have:=hM a b
  unfold updM
  split
  .next q=>rw[q.1,q.2,hm]at this;simp at this;omega
  .exact this
 have HM:=Lib.hid hM'
 have HB1:=Lib.hid hB1
 have HB2:=Lib.hid hB2
 have HZ2:=Lib.hid hZ2
 clear e hn hm hH hst hS hN hcall hto hl hM hM' hvs hm18 hrv hv1 hV c0 hW4 hB1 hB2 hZ2 x0 hms hP f0 f1 f2 ffr e1 e2 hKl
 go_enter Try.func20,Try.ntmps20
 go_wp2_with (first
  |(refine zL_ rfl 57 _ rfl _ _ rfl HL0.out ?_)
  |(refine zk_ rfl rfl 57 _ _ rfl _ _ rfl rfl HW4.out ?_))
 go_region
 clear d0 d1 d2 dfr hst1 hsl x2 m1 m2 HE
 go_wp2
 have s0:=HS.out _ HB1.out
 refine zw_ (fun wx=>wx.cell? ⟨X,0,none⟩=some (.slice (some ⟨h2.bk,0,none⟩) n h2.bc)/\Hs wx h2.bk (j*9) vs/\Hs wx Kt 0 ms) 21 mx ?_
 refine z1_ (i:=0) (v:=?_) rfl (by kernel_rfl) (fun _ _ _ h=>h) (by kernel_rfl) ?_ (fun _=>s0) ?_
 rotate_left
 ·(intro w9;go_simp;first|done|with_reducible rfl)
 try simp only[Act.put,zze_,zzi_,zzj_]
 refine z1_ (i:=1) (v:=?_) rfl (by kernel_rfl) (fun _ _ _ h=>h) (by kernel_rfl) ?_ (fun _=>s0) ?_
 rotate_left
 ·(intro w9;go_simp;first|done|with_reducible rfl)
 try simp only[Act.put,zze_,zzi_,zzj_]
 refine z1_ (i:=2) (v:=?_) rfl (by kernel_rfl) (fun _ _ _ h=>h) (by kernel_rfl) ?_ (fun _=>s0) ?_
 rotate_left
 ·(intro w9;go_simp;first|done|with_reducible rfl)
 try simp only[Act.put,zze_,zzi_,zzj_]
 refine zr_ (i:=3) (v:=?_) rfl (by kernel_rfl) (by kernel_rfl) (fun _ _ _ h=>h) (by kernel_rfl) ?_ (fun _=>s0) ?_
 rotate_left
 ·(intro w9 hSw;(try dsimp only at hSw);obtain⟨S1,S0,S2⟩:=hSw;clear S0 S2;go_simp;first|done|with_reducible rfl)
 try simp only[Act.put,zze_,zzi_,zzj_]
 refine z1_ (i:=4) (v:=?_) rfl (by kernel_rfl) (fun _ _ _ h=>h) (by kernel_rfl) ?_ (fun _=>s0) ?_
 rotate_left
 ·(intro w9;go_simp;first|done|with_reducible rfl)
 try simp only[Act.put,zze_,zzi_,zzj_]
 refine z1_ (i:=5) (v:=?_) rfl (by kernel_rfl) (fun _ _ _ h=>h) (by kernel_rfl) ?_ (fun _=>s0) ?_
 rotate_left
 ·(intro w9;go_simp;first|done|with_reducible rfl)
 try simp only[Act.put,zze_,zzi_,zzj_]
 refine zr_ (i:=6) (v:=.agg vs) rfl (by kernel_rfl) (by kernel_rfl) (fun _ _ _ h=>h) (by kernel_rfl) (fun w9 hSw=>yk_ 37 _ rfl (u:=.pointer (some ⟨h2.bk,j*9,none⟩)) rfl (sz37.ld HVS.out hSw.2.1)) (fun _=>s0) ?_
 try simp only[Act.put,zze_,zzi_,zzj_]
 refine z1_ (i:=7) (v:=?_) rfl (by kernel_rfl) (fun _ _ _ h=>h) (by kernel_rfl) ?_ (fun _=>s0) ?_
 rotate_left
 ·(intro w9;go_simp;first|done|with_reducible rfl)
 try simp only[Act.put,zze_,zzi_,zzj_]
 refine z1_ (i:=8) (v:=?_) rfl (by kernel_rfl) (fun _ _ _ h=>h) (by kernel_rfl) ?_ (fun _=>s0) ?_
 rotate_left
 ·(intro w9;go_simp;first|done|with_reducible rfl)
 try simp only[Act.put,zze_,zzi_,zzj_]
 refine z1_ (i:=9) (v:=?_) rfl (by kernel_rfl) (fun _ _ _ h=>h) (by kernel_rfl) ?_ (fun _=>s0) ?_
 rotate_left
 ·(intro w9;go_simp;first|done|with_reducible rfl)
 try simp only[Act.put,zze_,zzi_,zzj_]
 refine z1_ (i:=10) (v:=?_) rfl (by kernel_rfl) (fun _ _ _ h=>h) (by kernel_rfl) ?_ (fun _=>s0) ?_
 rotate_left
 ·(intro w9;go_simp;first|done|with_reducible rfl)
 try simp only[Act.put,zze_,zzi_,zzj_]
 refine zr_ (i:=11) (v:=?_) rfl (by kernel_rfl) (by kernel_rfl) (fun _ _ _ h=>h) (by kernel_rfl) ?_ (fun _=>s0) ?_
 rotate_left
 ·(intro w9 hSw;(try dsimp only at hSw);obtain⟨S1,S0,S2⟩:=hSw;clear S0 S2;go_simp;first|done|with_reducible rfl)
 try simp only[Act.put,zze_,zzi_,zzj_]
 refine z1_ (i:=12) (v:=?_) rfl (by kernel_rfl) (fun _ _ _ h=>h) (by kernel_rfl) ?_ (fun _=>s0) ?_
 rotate_left
 ·(intro w9;go_simp;first|done|with_reducible rfl)
 try simp only[Act.put,zze_,zzi_,zzj_]
 refine z1_ (i:=13) (v:=?_) rfl (by kernel_rfl) (fun _ _ _ h=>h) (by kernel_rfl) ?_ (fun _=>s0) ?_
 rotate_left
 ·(intro w9;go_simp;first|done|with_reducible rfl)
 try simp only[Act.put,zze_,zzi_,zzj_]
 refine zr_ (i:=14) (v:=.agg ms) rfl (by kernel_rfl) (by kernel_rfl) (fun _ _ _ h=>h) (by kernel_rfl) (fun w9 hSw=>yk_ 57 _ rfl (u:=.pointer (some ⟨Kt,0,none⟩)) rfl (sz57.ld HMS.out hSw.2.2)) (fun _=>s0) ?_
 try simp only[Act.put,zze_,zzi_,zzj_]
 refine z9_ (rs:=[15,20]) (by kernel_rfl) (by simp) ?_
 refine z3_ rfl (fun K hK=>?_) (z3_ rfl (fun K hK=>?_) AllG.nil)
 .go_simp
  refine(HC.out _ HB1.out).mono ?_
  rintro e w' ⟨g',rs,A,C,rfl,hv⟩
  have hB3:=HB1.out.trans (Below.mono1 hv.below HB1.out.size)
  have s1:=HS.out _ hB3
  go_simp
  refine hK.out _ _ (fun _=>s1) ?_
  clear hK K
  try simp only[Act.put,zze_,zzi_,zzj_]
  refine z1_ (i:=16) (v:=?_) rfl (by kernel_rfl) (fun _ _ _ h=>h) (by kernel_rfl) ?_ (fun _=>s1) ?_
  rotate_left
  ·(intro w9;go_simp;first|done|with_reducible rfl)
  try simp only[Act.put,zze_,zzi_,zzj_]
  refine z1_ (i:=17) (v:=?_) rfl (by kernel_rfl) (fun _ _ _ h=>h) (by kernel_rfl) ?_ (fun _=>s1) ?_
  rotate_left
  ·(intro w9;go_simp;first|done|with_reducible rfl)
  try simp only[Act.put,zze_,zzi_,zzj_]
  refine z1_ (i:=18) (v:=?_) rfl (by kernel_rfl) (fun _ _ _ h=>h) (by kernel_rfl) ?_ (fun _=>s1) ?_
  rotate_left
  ·(intro w9;go_simp;first|done|with_reducible rfl)
  try simp only[Act.put,zze_,zzi_,zzj_]
  refine z1_ (i:=19) (v:=?_) rfl (by kernel_rfl) (fun _ _ _ h=>h) (by kernel_rfl) ?_ (fun _=>s1) ?_
  rotate_left
  ·(intro w9;go_simp;first|done|with_reducible rfl)
  try simp only[Act.put,zze_,zzi_,zzj_]
  obtain⟨W,hW,hA⟩:=hv.aft1 HN.out HB1.out (zs:=#[.int .i64 0,.bool false,.bool false,.slice none 0 0,.bool false,.bool false,.bool false,.int .i64 0,.int .i64 0]) rfl
  have HW:=Lib.hid hW
  have HA:=Lib.hid hA
  have s2:=HS.out _ (hB3.trans (Below.mono1 (zI_ w' (.cells #[.int .i64 0,.bool false,.bool false,.slice none 0 0,.bool false,.bool false,.bool false,.int .i64 0,.int .i64 0] 37)) hB3.size))
  clear hW hA hv
  refine z9_ (rs:=[20]) (by kernel_rfl) (by simp) ?_
  refine z3_ rfl (fun K hK=>?_) AllG.nil
  go_simp
  refine hK.out _ _ (fun _=>s2) ?_
  clear hK K s2
  try simp only[Act.put,zze_,zzi_,zzj_]
  refine zP_ (by kernel_rfl) (by kernel_rfl) (by decide) ?_
  simp only[List.drop_succ_cons,List.drop_zero]
  refine zk_ rfl rfl 37 _ _ rfl _ _ rfl rfl HW.out ?_
  clear s0 s1
  rcases herr with rfl|rfl|rfl
  all_goals go_wp2
  all_goals go_ret
  all_goals
   have ha:=HA.out
   have hp:=HP.out.out
   have hkp:Kp T g w T2 g' W:=⟨ha.os.trans hp.os,ha.tape.trans hp.tape,ha.output.trans hp.output,yyd_ hp.size ha.size,fun k hk h0=>⟨(hp.fr k hk h0).1,(ha.fr k (zzk_ hk hp.size)).trans (hp.fr k hk h0).2⟩,fun k hk=>ha.same k (zzk_ hk hp.size)⟩
   first|exact⟨T2,g',h2,rfl,ha.net,hkp⟩|exact⟨rfl,T2,g',⟨h2,ha.net⟩,hkp⟩
 .go_simp
  have s1:=HS.out _ HB2.out
  refine hK.out _ _ (fun _=>s1) ?_
  clear hK K
  try simp only[Act.put,zze_,zzi_,zzj_]
  refine z9_ (rs:=[15]) (by kernel_rfl) (by simp) ?_
  refine z3_ rfl (fun K hK=>?_) AllG.nil
  go_simp
  refine(HC.out _ HB2.out).mono ?_
  rintro e w' ⟨g',rs,A,C,rfl,hv⟩
  have hB3:=HB2.out.trans (Below.mono1 hv.below HB2.out.size)
  have s2:=HS.out _ hB3
  go_simp
  refine hK.out _ _ (fun _=>s2) ?_
  clear hK K
  try simp only[Act.put,zze_,zzi_,zzj_]
  refine z1_ (i:=16) (v:=?_) rfl (by kernel_rfl) (fun _ _ _ h=>h) (by kernel_rfl) ?_ (fun _=>s2) ?_
  rotate_left
  ·(intro w9;go_simp;first|done|with_reducible rfl)
  try simp only[Act.put,zze_,zzi_,zzj_]
  refine z1_ (i:=17) (v:=?_) rfl (by kernel_rfl) (fun _ _ _ h=>h) (by kernel_rfl) ?_ (fun _=>s2) ?_
  rotate_left
  ·(intro w9;go_simp;first|done|with_reducible rfl)
  try simp only[Act.put,zze_,zzi_,zzj_]
  refine z1_ (i:=18) (v:=?_) rfl (by kernel_rfl) (fun _ _ _ h=>h) (by kernel_rfl) ?_ (fun _=>s2) ?_
  rotate_left
  ·(intro w9;go_simp;first|done|with_reducible rfl)
  try simp only[Act.put,zze_,zzi_,zzj_]
  refine z1_ (i:=19) (v:=?_) rfl (by kernel_rfl) (fun _ _ _ h=>h) (by kernel_rfl) ?_ (fun _=>s2) ?_
  rotate_left
  ·(intro w9;go_simp;first|done|with_reducible rfl)
  try simp only[Act.put,zze_,zzi_,zzj_]
  obtain⟨W,hW,hA⟩:=hv.aft2 HN.out HB2.out (zs:=#[.int .i64 0,.bool false,.bool false,.slice none 0 0,.bool false,.bool false,.bool false,.int .i64 0,.int .i64 0]) rfl (zzl_ _) HZ2.out
  have HW:=Lib.hid hW
  have HA:=Lib.hid hA
  clear hW hA hv s2
  refine zP_ (by kernel_rfl) (by kernel_rfl) (by decide) ?_
  simp only[List.drop_succ_cons,List.drop_zero]
  refine zk_ rfl rfl 37 _ _ rfl _ _ rfl rfl HW.out ?_
  clear s0 s1
  rcases herr with rfl|rfl|rfl
  all_goals go_wp2
  all_goals go_ret
  all_goals
   have ha:=HA.out
   have hp:=HP.out.out
   have hkp:Kp T g w T2 g' W:=⟨ha.os.trans hp.os,ha.tape.trans hp.tape,ha.output.trans hp.output,yyd_ hp.size ha.size,fun k hk h0=>⟨(hp.fr k hk h0).1,(ha.fr k (zzk_ hk hp.size)).trans (hp.fr k hk h0).2⟩,fun k hk=>ha.same k (zzk_ hk hp.size)⟩
   first|exact⟨T2,g',h2,rfl,ha.net,hkp⟩|exact⟨rfl,T2,g',⟨h2,ha.net⟩,hkp⟩
def cntT(R:Nat->RG.Rs)(U:Nat->Bool):Nat->Nat
 |0=>0
 |k+1=>cntT R U k+if U k=true/\(R k).tk.has=true then 1 else 0
theorem pt_(R:Nat->RG.Rs)(U:Nat->Bool):∀k,cntT R U k<=k
 |0=>zzl_ _
 | k + 1 => by
   have:=pt_ R U k
   simp only[cntT]
   split<;>omega
theorem qK_{T:Nat->Nat}{g:Gh}{w:World}{X n:Nat}{R:Nat->RG.Rs}{U:Nat->Bool}{M:Nat->Nat->List RG.Rm}{h:Hd}(hn:Net T g w X n R U M h)(hok:∀s,s<n->U s=true->(R s).ok n s) :
 Calls Try.prog 19 #[.pointer (some ⟨X,0,none⟩)] w fun e w'=>e=.returned (.bool (decide (cntT R U n<=1)))/\Below w.heap.size w w':=by
 have mx:=zN_
 have x0:=hn.x0'
 have x1:=hn.x1
 have n9:=hn.n9
 have hbcn:=hn.bcn
 have HN:=Lib.hid hn
 have HOK:=Lib.hid hok
 clear hn hok
 go_enter Try.func19,Try.ntmps19
 go_wp2
 go_loopg [3,10] n (fun kx s3 s10 wr=>∃p:Nat,s3=.int .i64 (cntT R U p:Nat)/\s10=.int .i64 p/\p+kx=n/\Below w.heap.size w wr)
 case atStart=>exact⟨0,rfl,rfl,by omega,Below.refl _ _⟩
 case round =>
  obtain⟨p,rfl,rfl,hp,hbel⟩:=hrel
  have hnr:=HN.out.below hbel
  by_cases hm:p<n
  .obtain⟨vs,hvs,hV,hrv,hv1,c0,c1,c2,c4,c5,c6⟩:=hnr.st hm
   have y0:=hnr.x0'
   have y1:=hnr.x1
   have yu:=hnr.u1 hm
   have hpz:(p:Int)<(n:Int):=by omega
   have hp0:¬(p:Int)<0:=by omega
   have hwp:IntKind.i64.wrap ((p:Int)+1)=(p:Int)+1:=by rw[yye_];omega
   have hcl:=pt_ R U p
   have hwc:IntKind.i64.wrap ((cntT R U p:Int)+1)=(cntT R U p:Int)+1:=by rw[yye_];omega
   have hs1:cntT R U (p+1)=cntT R U p+if U p=true/\(R p).tk.has=true then 1 else 0:=rfl
   have HS:Asd (cntT R U (p+1)=cntT R U p+if U p=true/\(R p).tk.has=true then 1 else 0):=⟨hs1⟩
   have HP:Asd (p+gk=n):=⟨hp⟩
   have HB:=Lib.hid hbel
   have HVS:=Lib.hid hvs
   cases hu:U p with
   | false =>
     rw[hu]at HS yu
     clear hvs hV hrv hv1 c0 c1 c2 c4 c5 c6 hnr hs1 hp hbel
     go_wp2
     go_roundg (gk-1)
     case measure=>have:=HP.out;omega
     case rel =>
      have h1:=HS.out
      have h2:=HP.out
      exact⟨p+1,by simp[h1],by rfl,by omega,HB.out⟩
   | true =>
     rw[hu]at HS yu
     have hval:Calls Try.prog 15 #[.agg vs,.int .i64 p,.int .i64 n] wr.drew fun e w'=>e=.returned (.bool true)/\Below wr.heap.size wr w':=by
      have hok1:=HOK.out p hm hu
      refine(uf_ (g:=g) (w:=wr.drew) (vals:=#[.agg vs,.int .i64 p,.int .i64 n]) (zW_ hok1) rfl ?_ ?_ hnr.Ilt).mono ?_
      .intro x hx
       simp at hx
       rcases hx with rfl|rfl|rfl<;>rfl
      .intro x u c hu hc
       match x,hu,hc with
       |0,hu,hc=>cases hu;cases hc;exact yd_ hrv fun b o ho=>⟨ho,rfl⟩
       |1,hu,hc=>cases hu;cases hc;exact .s rfl
       |2,hu,hc=>cases hu;cases hc;exact .s rfl
      .rintro e w' ⟨rfl,hb⟩
       exact⟨rfl,hb.os,hb.tape,hb.output,hb.size,hb.block⟩
     have HVAL:=Lib.hid hval
     have HNR:=Lib.hid hnr
     have s0:=(show wr.drew.cell? ⟨X,0,none⟩=some (.slice (some ⟨h.bk,0,none⟩) n h.bc)/\Hs wr.drew h.bk (p*9) vs from ⟨y0,hV⟩)
     have S0:=Lib.hid s0
     clear s0 hvs hV hrv hv1 c0 c1 c2 c4 c5 c6 hnr hs1 hp hbel hval
     go_wp2
     have s0:=S0.out
     refine zw_ (fun wx=>wx.cell? ⟨X,0,none⟩=some (.slice (some ⟨h.bk,0,none⟩) n h.bc)/\Hs wx h.bk (p*9) vs) 14 mx ?_
     refine z1_ (i:=0) (v:=?_) rfl (by kernel_rfl) (fun _ _ _ h=>h) (by kernel_rfl) ?_ (fun _=>s0) ?_
     rotate_left
     ·(intro w9;go_simp;first|done|with_reducible rfl)
     try simp only[Act.put,zze_,zzi_,zzj_]
     refine z1_ (i:=1) (v:=?_) rfl (by kernel_rfl) (fun _ _ _ h=>h) (by kernel_rfl) ?_ (fun _=>s0) ?_
     rotate_left
     ·(intro w9;go_simp;first|done|with_reducible rfl)
     try simp only[Act.put,zze_,zzi_,zzj_]
     refine z1_ (i:=2) (v:=?_) rfl (by kernel_rfl) (fun _ _ _ h=>h) (by kernel_rfl) ?_ (fun _=>s0) ?_
     rotate_left
     ·(intro w9;go_simp;first|done|with_reducible rfl)
     try simp only[Act.put,zze_,zzi_,zzj_]
     refine zr_ (i:=3) (v:=?_) rfl (by kernel_rfl) (by kernel_rfl) (fun _ _ _ h=>h) (by kernel_rfl) ?_ (fun _=>s0) ?_
     rotate_left
     ·(intro w9 hSw;(try dsimp only at hSw);obtain⟨S1,S0⟩:=hSw;clear S0;go_simp;first|done|with_reducible rfl)
     try simp only[Act.put,zze_,zzi_,zzj_]
     refine z1_ (i:=4) (v:=?_) rfl (by kernel_rfl) (fun _ _ _ h=>h) (by kernel_rfl) ?_ (fun _=>s0) ?_
     rotate_left
     ·(intro w9;go_simp;first|done|with_reducible rfl)
     try simp only[Act.put,zze_,zzi_,zzj_]
     refine z1_ (i:=5) (v:=?_) rfl (by kernel_rfl) (fun _ _ _ h=>h) (by kernel_rfl) ?_ (fun _=>s0) ?_
     rotate_left
     ·(intro w9;go_simp;first|done|with_reducible rfl)
     try simp only[Act.put,zze_,zzi_,zzj_]
     refine zr_ (i:=6) (v:=.agg vs) rfl (by kernel_rfl) (by kernel_rfl) (fun _ _ _ h=>h) (by kernel_rfl) (fun w9 hSw=>yk_ 37 _ rfl (u:=.pointer (some ⟨h.bk,p*9,none⟩)) rfl (sz37.ld HVS.out hSw.2)) (fun _=>s0) ?_
     try simp only[Act.put,zze_,zzi_,zzj_]
     refine z1_ (i:=7) (v:=?_) rfl (by kernel_rfl) (fun _ _ _ h=>h) (by kernel_rfl) ?_ (fun _=>s0) ?_
     rotate_left
     ·(intro w9;go_simp;first|done|with_reducible rfl)
     try simp only[Act.put,zze_,zzi_,zzj_]
     refine z1_ (i:=8) (v:=?_) rfl (by kernel_rfl) (fun _ _ _ h=>h) (by kernel_rfl) ?_ (fun _=>s0) ?_
     rotate_left
     ·(intro w9;go_simp;first|done|with_reducible rfl)
     try simp only[Act.put,zze_,zzi_,zzj_]
     refine z1_ (i:=9) (v:=?_) rfl (by kernel_rfl) (fun _ _ _ h=>h) (by kernel_rfl) ?_ (fun _=>s0) ?_
     rotate_left
     ·(intro w9;go_simp;first|done|with_reducible rfl)
     try simp only[Act.put,zze_,zzi_,zzj_]
     refine z1_ (i:=10) (v:=?_) rfl (by kernel_rfl) (fun _ _ _ h=>h) (by kernel_rfl) ?_ (fun _=>s0) ?_
     rotate_left
     ·(intro w9;go_simp;first|done|with_reducible rfl)
     try simp only[Act.put,zze_,zzi_,zzj_]
     refine zr_ (i:=11) (v:=?_) rfl (by kernel_rfl) (by kernel_rfl) (fun _ _ _ h=>h) (by kernel_rfl) ?_ (fun _=>s0) ?_
     rotate_left
     ·(intro w9 hSw;(try dsimp only at hSw);obtain⟨S1,S0⟩:=hSw;clear S0;go_simp;first|done|with_reducible rfl)
     try simp only[Act.put,zze_,zzi_,zzj_]
     refine z1_ (i:=12) (v:=?_) rfl (by kernel_rfl) (fun _ _ _ h=>h) (by kernel_rfl) ?_ (fun _=>s0) ?_
     rotate_left
     ·(intro w9;go_simp;first|done|with_reducible rfl)
     try simp only[Act.put,zze_,zzi_,zzj_]
     refine z9_ (rs:=[13]) (by kernel_rfl) (by simp) ?_
     refine z3_ rfl (fun K hK=>?_) AllG.nil
     go_simp
     refine HVAL.out.mono ?_
     rintro e w' ⟨rfl,hb⟩
     go_simp
     refine hK.out _ _ (fun _=>⟨xd_ hb s0.1 HNR.out.lt.1,Hs.below (w:=wr) s0.2 hb HNR.out.lt.2.1⟩) ?_
     clear hK K
     try simp only[Act.put,zze_,zzi_,zzj_]
     refine zP_ (by kernel_rfl) (by kernel_rfl) (by decide) ?_
     simp only[List.drop_succ_cons,List.drop_zero]
     have hnr2:=HNR.out.below hb
     obtain⟨_,_,_,_,_,c0,c1,c2,c4,c5,c6⟩:=hnr2.st hm
     have y0:=hnr2.x0'
     have hbel:=HB.out.trans (Below.mono1 hb HB.out.size)
     have HB:=Lib.hid hbel
     clear hnr2 hb hbel s0
     cases hh:(R p).tk.has
     all_goals
      rw[hh]at HS c4
      go_wp2
      go_roundg (gk-1)
      case measure=>have:=HP.out;omega
      case rel =>
       have h1:=HS.out
       have h2:=HP.out
       exact⟨p+1,by simp[h1],by rfl,by omega,HB.out⟩
  .have hpz:¬(p:Int)<(n:Int):=by omega
   have hpe:p=n:=by omega
   have HB:Asd (Below w.heap.size w wr):=⟨hbel⟩
   clear hbel hnr
   subst hpe
   go_wp2
   go_ret
   refine⟨?_,HB.out⟩
   have e:decide ((cntT R U p:Int)<=1)=decide (cntT R U p<=1):=by
    rw[Bool.eq_iff_iff]
    simp only[zzp_]
    omega
   first|(rw[<-e];rfl)|(simp only[<-e];rfl)|(simp;constructor<;>intro hh<;>omega)
end Go.Proofs.Ytnbppaolinopeaa
namespace Go.Proofs.Ytnbppaolinopeaa.RG
def updU(U:Nat->Bool)(i:Nat)(b:Bool):Nat->Bool:=fun k=>if k=i then b else U k
inductive Stp(n:Nat)(R:Nat->Rs)(U:Nat->Bool)(M:Nat->Nat->List Rm):(Nat->Rs)->(Nat->Bool)->(Nat->Nat->List Rm)->Prop
 |idle:Stp n R U M R U M
 |hear {i j:Nat} {m:Rm} {l:List Rm} {r:Rs} {o:Out} (hi:i<n) (hj:j<n) (hu:U j=true) (hM:M i j=m::l) (h:hearR (R j) j i m=some (r,o)):Stp n R U M (updR R j r) U (put (pop M i j) j o)
 |drop {i j:Nat} {m:Rm} {l:List Rm} (hi:i<n) (hj:j<n) (hu:U j=true) (hM:M i j=m::l) (h:hearR (R j) j i m=none):Stp n R U M R U (pop M i j)
 |crash {i:Nat} (hi:i<n) (hu:U i=true):Stp n R U M R (updU U i false) M
 |restart {i:Nat} (hi:i<n) (hu:U i=false):Stp n R U M (updR R i (restartR (R i))) (updU U i true) M
 |begin {i:Nat} (hi:i<n) (hu:U i=true):Stp n R U M (updR R i (beginR n i (R i)).1) U (put M i (beginR n i (R i)).2)
 |done {i:Nat} (hi:i<n) (hu:U i=true) (h:(R i).tk.using_=true):Stp n R U M (updR R i (doneR (R i)).1) U (put M i (doneR (R i)).2)
 |want {i:Nat} (hi:i<n) (hu:U i=true) (h1:(R i).lost=false) (h2:(R i).tk.want=false) (h3:(R i).tk.using_=false):Stp n R U M (updR R i (wantR (R i) i).1) U (put M i (wantR (R i) i).2)
structure Outs(n s E:Nat)(o:Out):Prop where
 to:∀p∈o,0<=p.1/\p.1<n/\p.1≠s
 z:∀p∈o,p.2.k≠.req->p.2.s=0
 len:o.length<=4
theorem Outs.nil{n s E:Nat}:Outs n s E []:=⟨(fun _ h=>by cases h),(fun _ h=>by cases h),zzn_ _⟩
theorem x9_{n s e E:Nat}{l:List Ms}(h:∀m∈l,Rng n m.to/\m.to≠s)(hl:l.length<=1):Outs n s E (posts e l):=by
 refine⟨fun p hp=>?_,fun p hp hk=>?_,by rw[vp_];omega⟩
 .obtain⟨m,hm,rfl⟩:=List.mem_map.1 hp
  obtain⟨⟨h1,h2⟩,h3⟩:=h m hm
  exact⟨h1,h2,h3⟩
 .obtain⟨m,hm,rfl⟩:=List.mem_map.1 hp
  unfold toRm at hk ⊢
  simp only at hk ⊢
  split
  .rfl
  .next q=>rw[if_neg q]at hk;exact absurd rfl hk
theorem tl_{n s E:Nat}{r:Rs}(h:r.tk.next≠-1->Othr n s r.tk.next):Outs n s E (made r).2:=by
 unfold made
 split
 .exact .nil
 .split
  .exact .nil
  .next q =>
   obtain⟨h1,h2,h3⟩:=h q
   refine⟨fun p hp=>?_,fun p hp _=>?_,by simp⟩
   .rw[List.mem_singleton]at hp;subst hp;exact⟨h1,h2,h3⟩
   .rw[List.mem_singleton]at hp;subst hp;rfl
section
variable{n:Nat}{R:Nat->Rs}{U:Nat->Bool}{M:Nat->Nat->List Rm}{D:Id}{E:Nat}
theorem RInv.tok2(h:RInv n R M D){s:Nat}(hs:s<n)(ha:(R s).ask=true):({ (R s).tk with want:=true }:Tk).ok n s:=by
 obtain⟨a1,a2,a3,a4,a5,a6⟩:=h.asks s hs ha
 have:=(h.inv (R s).ep).val s ⟨by omega,by omega⟩
 have e:({ (R s).tk with want:=true }:Tk)=tAt (D (R s).ep).1 s:=by rw[a6,<-a5]
 rw[e]
 exact this
theorem RInv.want_out(h:RInv n R M D){s:Nat}(hs:s<n)(h1:(R s).lost=false)(hw:(R s).tk.want=false)(hu:(R s).tk.using_=false):Outs n s E (wantR (R s) s).2:=by
 unfold wantR
 split
 .exact .nil
 .next ha =>
  have ok:=(h.plain hs h1 (by simpa using ha)).2
  refine x9_ (fun m hm=>?_) ?_
  .unfold xA_ at hm
   split at hm
   .cases hm
   .next hh =>
    rw[List.mem_singleton]at hm
    subst hm
    have hl:=ok.l fun z=>hh ((ok.idle hu hw).2.1 z)
    exact⟨⟨hl.1,hl.2.1⟩,hl.2.2⟩
  .unfold xA_
   split<;>simp
theorem RInv.done_out(h:RInv n R M D){s:Nat}(hs:s<n)(hu:(R s).tk.using_=true):Outs n s E (doneR (R s)).2:=by
 obtain⟨h1,ha⟩:=h.using_ hs hu
 have ok:=(h.plain hs h1 ha).2
 refine x9_ (fun m hm=>?_) ?_
 .unfold xy_ at hm
  split at hm
  .cases hm
  .next hh =>
   rw[List.mem_singleton]at hm
   subst hm
   have hl:=ok.x hh
   exact⟨⟨hl.1,hl.2.1⟩,hl.2.2⟩
 .unfold xy_
  split<;>simp
theorem begin_out{s:Nat}(hn:n<=4)(r:Rs):Outs n s E (beginR n s r).2:=by
 unfold beginR
 simp only
 split
 .exact tl_ fun q=>absurd rfl q
 .refine⟨fun p hp=>?_,fun p hp _=>?_,?_⟩
  .obtain⟨k,hk,rfl⟩:=List.mem_map.1 hp
   obtain⟨hk1,hk2⟩:=List.mem_filter.1 hk
   have:=List.mem_range.1 hk1
   simp only[zzp_]at hk2
   exact⟨by simp,by simp only;omega,by simp only;omega⟩
  .obtain⟨k,hk,rfl⟩:=List.mem_map.1 hp
   rfl
  .rw[List.length_map]
   have:=List.length_filter_le (fun x=>decide (x≠s)) (List.range n)
   simp at this ⊢
   omega
theorem RInv.hear_out(h:RInv n R M D){i j:Nat}(hi:i<n)(hj:j<n){m:Rm}{l:List Rm}(hM:M i j=m::l){r:Rs}{o:Out}(he:hearR (R j) j i m=some (r,o)):Outs n j E o:=by
 have hmm:m∈M i j:=by rw[hM];simp
 have hne:=h.other i j hi hj (by rw[hM];simp)
 have hro:=h.req_ok hi hj hmm
 unfold hearR at he
 obtain⟨k,e,s⟩:=m
 cases k with
 | prm =>
   simp only at he
   split at he
   .cases he
   .injection he with he
    have:Outs n j E (promR (R j) j i e).2:=by
     unfold promR
     simp only
     split
     .refine⟨fun p hp=>?_,fun p hp hk=>?_,by simp⟩
      .simp only[List.mem_cons,List.not_mem_nil,or_false]at hp
       rcases hp with rfl|rfl<;>exact⟨by simp,by simp only;omega,by simp only;omega⟩
      .simp only[List.mem_cons,List.not_mem_nil,or_false]at hp
       rcases hp with rfl|rfl
       .rfl
       .exact absurd rfl hk
     .refine⟨fun p hp=>?_,fun p hp hk=>?_,by simp⟩
      .rw[List.mem_singleton]at hp;subst hp
       exact⟨by simp,by simp only;omega,by simp only;omega⟩
      .rw[List.mem_singleton]at hp;subst hp;rfl
    rw[he]at this
    exact this
 | prd =>
   simp only at he
   split at he
   .cases he
   .next q =>
    injection he with he
    have ha:(R j).ask=true:=by
     cases z:(R j).ask
     .exact absurd (.inr z) q
     .rfl
    have ok:=h.tok2 hj ha
    have:Outs n j E (prdR (R j) i).2:=by
     unfold prdR
     simp only
     split
     .exact tl_ ok.x
     .exact .nil
    rw[he]at this
    exact this
 | tok =>
   simp only at he
   split at he
   .cases he
   .injection he with he
    have:Outs n j E (passR (R j) ⟨j,true,0⟩).2:=x9_ (e:=(R j).ep) (l:=hearM (R j).tk ⟨j,true,0⟩) (fun m hm=>by unfold hearM at hm;rw[if_pos rfl]at hm;cases hm) (xI_ _ _)
    rw[he]at this
    exact this
 | req =>
   have ho:=hro rfl
   simp only at he
   split at he
   .cases he
   .next q =>
    have hl:(R j).lost=false:=by
     cases z:(R j).lost
     .rfl
     .exact absurd (.inr z) q
    split at he
    .next ha =>
     injection he with he
     have ok:=h.tok2 hj ha
     have:Outs n j E (passA (R j) ⟨j,false,s⟩).2:=x9_ (e:=(R j).ep) (l:=hearM { (R j).tk with want:=true } ⟨j,false,s⟩) (fun m hm=>⟨(yj_ ok (.inr ho) hm).1.1,(yj_ ok (.inr ho) hm).1.2.1⟩) (xI_ _ _)
     rw[he]at this
     exact this
    .next ha =>
     injection he with he
     have ok:=(h.plain hj hl (by simpa using ha)).2
     have:Outs n j E (passR (R j) ⟨j,false,s⟩).2:=x9_ (e:=(R j).ep) (l:=hearM (R j).tk ⟨j,false,s⟩) (fun m hm=>⟨(yj_ ok (.inr ho) hm).1.1,(yj_ ok (.inr ho) hm).1.2.1⟩) (xI_ _ _)
     rw[he]at this
     exact this
structure GI(n:Nat)(R:Nat->Rs)(M:Nat->Nat->List Rm)(D:Id)(E:Nat):Prop where
 inv:RInv n R M D
 pend:Pend n R M
 bd:∀s,s<n->(R s).ep<=E
 wf:∀i j,i<n->j<n->∀m∈M i j,m.k≠.req->m.s=0
theorem GI.me(h:GI n R M D E){i j:Nat}(hi:i<n)(hj:j<n){m:Rm}(hm:m∈M i j):m.e<=E :=
 yyd_ (h.inv.ownm i j hi hj m hm) (h.bd _ (Nat.mod_lt _ (by omega)))
theorem sq_{s:Nat}{o:Out}{E':Nat}(h:∀i j,i<n->j<n->∀m∈M i j,m.k≠.req->m.s=0)(ho:Outs n s E' o):∀i j,i<n->j<n->∀m∈put M s o i j,m.k≠.req->m.s=0:=fun i j hi hj m hm hk=>by
 rcases vk_ hm with g|⟨_,g⟩
 .exact h i j hi hj m g hk
 .exact ho.z _ g hk
theorem tQ_{s:Nat}{r:Rs}(h:∀x,x<n->(R x).ep<=E){E':Nat}(hr:r.ep<=E')(hE:E<=E'):∀x,x<n->(updR R s r x).ep<=E':=fun x hx=>by
 by_cases q:x=s
 .subst q;rw[updR_s];exact hr
 .rw[updR_ne q];have:=h x hx;omega
theorem ss_(r:Rs)(i:Nat):(wantR r i).1.ep=r.ep:=by unfold wantR;split<;>rfl
theorem GI.hear(h:GI n R M D E){i j:Nat}{m:Rm}{l:List Rm}{r:Rs}{o:Out}(hi:i<n)(hj:j<n)(hM:M i j=m::l)(he:hearR (R j) j i m=some (r,o)){V:List Bool}(hV:Vis n (D (R j).ep).1 (D (R j).ep).2.1 (D (R j).ep).2.2 V) :
 ∃D',GI n (updR R j r) (put (pop M i j) j o) D' E/\Slk n (fun _ _=>0) R M D (updR R j r) (put (pop M i j) j o) D'/\(m.k≠.prm->r.ep=(R j).ep/\∃V',Vis n (D' (R j).ep).1 (D' (R j).ep).2.1 (D' (R j).ep).2.2 V'/\2*mu (D' (R j).ep).1 V'+o.length<=2*mu (D (R j).ep).1 V):=by
 obtain⟨D',q1,q2,q3⟩:=h.inv.hear hi hj hM he hV
 refine⟨D',⟨q1,h.pend.hear h.inv hi hj hM he,tQ_ h.bd ?_ (zzl_ _),sq_ (fun a b ha hb m hm=>h.wf a b ha hb m (s9_ hm)) (h.inv.hear_out (E:=E) hi hj hM he)⟩,q2,q3⟩
 obtain⟨e1,e2⟩:=sT_ he
 by_cases hk:m.k=.prm
 .rw[(e1 hk).2]
  exact h.me hi hj (by rw[hM];simp)
 .rw[(e2 hk).2];exact h.bd j hj
theorem GI.drop(h:GI n R M D E){i j:Nat}{m:Rm}{l:List Rm}(hi:i<n)(hj:j<n)(hM:M i j=m::l)(he:hearR (R j) j i m=none):GI n R (pop M i j) D E:=by
 refine⟨(h.inv.pop hi hj hM).1,h.pend.drop hM fun q=>?_,h.bd,fun a b ha hb m hm=>h.wf a b ha hb m (s9_ hm)⟩
 unfold hearR at he
 rw[q]at he
 simp only at he
 split at he
 .assumption
 .cases he
theorem GI.done(h:GI n R M D E){s:Nat}(hs:s<n)(hu:(R s).tk.using_=true){V:List Bool}(hV:Vis n (D (R s).ep).1 (D (R s).ep).2.1 (D (R s).ep).2.2 V) :
 ∃D',GI n (updR R s (doneR (R s)).1) (put M s (doneR (R s)).2) D' E/\Slk n (fun _ _=>0) R M D (updR R s (doneR (R s)).1) (put M s (doneR (R s)).2) D'/\∃V',Vis n (D' (R s).ep).1 (D' (R s).ep).2.1 (D' (R s).ep).2.2 V'/\mu (D' (R s).ep).1 V'+1<=mu (D (R s).ep).1 V:=by
 obtain⟨D',q1,q2⟩:=h.inv.done hs hu hV
 exact⟨D',⟨q1,h.pend.site rfl,tQ_ h.bd (h.bd s hs) (zzl_ _),sq_ h.wf (h.inv.done_out (E:=E) hs hu)⟩,q2⟩
theorem GI.restart(h:GI n R M D E){s:Nat}(hs:s<n):GI n (updR R s (restartR (R s))) M D E :=
 ⟨h.inv.restart hs,h.pend.site (s:=s) (r:=restartR (R s)) (o:=[]) rfl,tQ_ h.bd (h.bd s hs) (zzl_ _),h.wf⟩
theorem GI.begin(h:GI n R M D E){s:Nat}(hs:s<n):∃D',GI n (updR R s (beginR n s (R s)).1) (put M s (beginR n s (R s)).2) D' (E+4) /\
 ∀x,(D' (nextE n s (R s).ep)).2.1.count x<=cnt n (put M s (beginR n s (R s)).2) (nextE n s (R s).ep) x+RG.due n (updR R s (beginR n s (R s)).1) (nextE n s (R s).ep) x:=by
 obtain⟨D',q1,q2⟩:=h.inv.begin hs
 have hn:=h.inv.n1
 have h4:=h.inv.n4
 refine⟨D',⟨q1,h.pend.begin hn hs,tQ_ h.bd ?_ (by omega),sq_ h.wf (begin_out (E:=E) h4 _)⟩,q2⟩
 rw[vG_]
 have:=(nextE_lt (i:=s) (e:=(R s).ep) hn).2
 have:=h.bd s hs
 omega
theorem GI.want(h:GI n R M D E){s:Nat}(hs:s<n)(h1:(R s).lost=false)(h2:(R s).tk.want=false)(h3:(R s).tk.using_=false):∃D',GI n (updR R s (wantR (R s) s).1) (put M s (wantR (R s) s).2) D' E:=by
 obtain⟨D',q1,_⟩:=h.inv.want hs h1 h2 h3
 exact⟨D',q1,h.pend.site (ss_ _ _),tQ_ h.bd (by rw[ss_];exact h.bd s hs) (zzl_ _),sq_ h.wf (h.inv.want_out (E:=E) hs h1 h2 h3)⟩
theorem GI.stp(h:GI n R M D E){R':Nat->Rs}{U':Nat->Bool}{M':Nat->Nat->List Rm}(hs:Stp n R U M R' U' M'):∃D',GI n R' M' D' (E+4):=by
 have up:∀ {R M D},GI n R M D E->GI n R M D (E+4):=fun h=>⟨h.inv,h.pend,fun s hs=>by have:=h.bd s hs;omega,h.wf⟩
 cases hs with
 |idle=>exact⟨D,up h⟩
 | hear hi hj hu hM he =>
   obtain⟨D',q,_⟩:=h.hear hi hj hM he (Vis.none _ _ _ _)
   exact⟨D',up q⟩
 |drop hi hj hu hM he=>exact⟨D,up (h.drop hi hj hM he)⟩
 |crash hi hu=>exact⟨D,up h⟩
 |restart hi hu=>exact⟨D,up (h.restart hi)⟩
 | begin hi hu =>
   obtain⟨D',q,_⟩:=h.begin hi
   exact⟨D',q⟩
 | done hi hu hh =>
   obtain⟨D',q,_⟩:=h.done hi hh (Vis.none _ _ _ _)
   exact⟨D',up q⟩
 | want hi hu h1 h2 h3 =>
   obtain⟨D',q⟩:=h.want hi h1 h2 h3
   exact⟨D',up q⟩
theorem GI.start(h1:1<=n)(h4:n<=4):GI n (fun s=>⟨0,false,false,[],idT n 0 s⟩) (fun _ _=>[]) (fun e=>(idTs n e,idM n e,idG n e)) 0 :=
 ⟨.start h1 h4,fun b s hb hs hbs h1 h2=>by simp at h2,fun s _=>zzl_ _,fun i j _ _ m hm=>by cases hm⟩
end
end Go.Proofs.Ytnbppaolinopeaa.RG
namespace Go.Proofs.Ytnbppaolinopeaa
open Go.RowKit Go.Proofs
section
theorem yg_{P:Program}{ops:Array Oper}{rest:List Oper}{o:Oper}{a:Act}{w:World}{Q:Exit->Act->World->Prop}(t:TypeId)(x:Operand)(ho:o.op=.load t x)(hgd:Region.wanted o (yielded ops a.tmps)=true)(u v:Value)(hx:a.eval x=u)(hr:(Instr.loadAt t u).run P w=.ok v w)(h:wpList P ops Q rest (a.put o.dst v) w):wpList P ops Q (o::rest) a w :=
 wpList_step fun K hK=>by
  rw[if_pos hgd]
  unfold Oper.wp execOp
  simp only[ho,Sem.run_bind,hx,hr,Sem.run_pure,Result.andThen_ok]
  exact hK _ _ h
theorem q7_{M:Nat->Nat->List RG.Rm}{i j:Nat}{m:RG.Rm}{rest:List RG.Rm}(hm:M i j=m::rest):updM M i j rest=RG.pop M i j:=by
 funext a b
 unfold updM RG.pop
 by_cases h:a=i/\b=j
 .rw[if_pos h,if_pos h,h.1,h.2,hm];rfl
 .rw[if_neg h,if_neg h]
section
variable{T:Nat->Nat}{g:Gh}{w:World}{X n:Nat}{R:Nat->RG.Rs}{U:Nat->Bool}{M:Nat->Nat->List RG.Rm}{h:Hd}{D:RG.Id}{E:Nat}
theorem rN_(hn:Net T g w X n R U M h)(hG:RG.GI n R M D E)(hE:E<=1073741824)(hL:∀a b,(M a b).length<=90000){i j:Nat}(hi:i<n)(hj:j<n){m:RG.Rm}{rest:List RG.Rm}(hm:M i j=m::rest) :
 Calls Try.prog 20 #[.pointer (some ⟨X,0,none⟩),.int .i64 i,.int .i64 j] w fun e w'=>∃T' g' h' R' M',e=.returned (.bool true)/\Net T' g' w' X n R' U M' h'/\Kp T g w T' g' w' /\
  ((∃r o,RG.hearR (R j) j i m=some (r,o)/\R'=RG.updR R j r/\M'=RG.put (RG.pop M i j) j o)\/(RG.hearR (R j) j i m=none/\R'=R/\M'=RG.pop M i j)):=by
 have hmm:m∈M i j:=by rw[hm];simp
 have hne:=hG.inv.other i j hi hj (by rw[hm];simp)
 have hok:=hG.inv.ok hj (yyd_ (hG.bd j hj) hE)
 have hH:=uM_ (j:=i) (m:=m) hok ⟨by omega,by omega,by omega⟩ (yyd_ (hG.me hi hj hmm) hE) (fun q=>hG.wf i j hi hj m hmm (by rw[q];simp)) (fun q=>hG.inv.req_ok hi hj hmm q) (fun q e=>hG.inv.tok_ok hi hj hmm q e)
 cases he:RG.hearR (R j) j i m with
 | some p =>
   obtain⟨r,o⟩:=p
   have ho:=hG.inv.hear_out (E:=E) hi hj hm he
   have e1:xq_ (R j) j i m=.tup [rv r,.list 19 (ou o),.s (.int .i64 0)]:=by unfold xq_;rw[he]
   rw[e1]at hH
   refine(rO_ hn hi hj hm hH ho.to (by have:=ho.len;omega) (fun a b=>by have:=hL a b;have:=ho.len;omega)).mono ?_
   rintro e w' ⟨T',g',h',rfl,hn',hk⟩
   rw[q7_ hm]at hn'
   exact⟨T',g',h',_,_,rfl,hn',hk,.inl ⟨r,o,rfl,rfl,rfl⟩⟩
 | none =>
   have e1:xq_ (R j) j i m=.tup [rv r0,.list 19 (ou []),.s (.int .i64 (hErr (R j) m))]:=by unfold xq_;rw[he];rfl
   rw[e1]at hH
   have her:hErr (R j) m=14\/hErr (R j) m=18\/hErr (R j) m=19:=by
    unfold hErr
    split
    .exact .inr (.inl rfl)
    .split
     .exact .inl rfl
     .exact .inr (.inr rfl)
   refine(rP_ hn hi hj hm hH her (fun p hp=>by cases hp) (by simp) (fun a b=>by have:=hL a b;simp;omega)).mono ?_
   rintro e w' ⟨T',g',h',rfl,hn',hk⟩
   rw[q7_ hm]at hn'
   exact⟨T',g',h',_,_,rfl,hn',hk,.inr ⟨rfl,rfl,rfl⟩⟩
theorem Net.setU(hn:Net T g w X n R U M h){i:Nat}(hi:i<n)(b:Bool):w.frozen? ⟨h.ub,i,none⟩=false/\Net T g (w.setCell ⟨h.ub,i,none⟩ (.bool b)) X n R (RG.updU U i b) M h/\Kp T g w T g (w.setCell ⟨h.ub,i,none⟩ (.bool b)):=by
 obtain⟨cur,c1,c2⟩:=hn.uu
 have hic:=(zzm_.1 (c2 i hi)).1
 have hoth:∀k,k≠h.ub->(w.setCell ⟨h.ub,i,none⟩ (.bool b)).heap[k]?=w.heap[k]?:=fun k hk=>by
  simp[World.setCell,yyu_,Ne.symm hk]
 have hset:(w.setCell ⟨h.ub,i,none⟩ (.bool b)).heap[h.ub]?=some (.cells (cur.setIfInBounds i (.bool b)) 4 (0,0)):=by
  simp[World.setCell,yyu_,c1]
 have hsz:(w.setCell ⟨h.ub,i,none⟩ (.bool b)).heap.size=w.heap.size:=by simp[World.setCell]
 have hI0:g.I h.ub=0:=(hn.tz _ (by rw[hn.tag.u];omega)).2
 have hI:∀b' o,o<g.I b'->o<g.I b'/\(w.setCell ⟨h.ub,i,none⟩ (.bool b)).cell? ⟨b',o,none⟩=w.cell? ⟨b',o,none⟩:=fun b' o ho=>by
  refine⟨ho,yyb_ (a:=⟨b',o,none⟩) (hoth b' ?_)⟩
  rintro rfl
  omega
 have hT:∀k,T k≠50->(w.setCell ⟨h.ub,i,none⟩ (.bool b)).heap[k]?=w.heap[k]?:=fun k h2=>hoth k (by rintro rfl;exact h2 hn.tag.u)
 have hn4:=hn.n9
 refine⟨by simp[World.frozen?,c1],⟨hn.n9,fun k hk=>by rw[hsz];exact hn.Ilt k hk,hn.tag,fun k hk=>by rw[hsz];exact hn.tz k hk,(hT X (by rw[hn.tag.x];omega)).trans hn.hX,hn.bcn,hn.mcn,hn.rcn,?_,?_,?_,fun a ha=>?_,fun a b ha hb=>?_⟩,rfl,rfl,rfl,by rw[hsz];exact zzl_ _,fun k hk h0=>⟨h0,hT k (by omega)⟩,fun k _=>rfl⟩
 .obtain⟨cb,h1,h2,h3⟩:=hn.bb
  refine⟨cb,(hT _ (by rw[hn.tag.b];omega)).trans h1,h2,fun a ha j u hu=>?_⟩
  obtain⟨c,q1,q2,q3⟩:=h3 a ha j u hu
  exact⟨c,q1,q2,zO_ q3 (wU_ _ u (zzd_ hu)) hI⟩
 .refine⟨_,hset,fun a ha=>?_⟩
  unfold RG.updU
  by_cases q:a=i
  .subst q;rw[if_pos rfl];simp[hic]
  .rw[if_neg q,Array.getElem?_setIfInBounds_ne (Ne.symm q)]
   exact c2 a ha
 .obtain⟨cb,h1,h2⟩:=hn.mm
  exact⟨cb,(hT _ (by rw[hn.tag.m];omega)).trans h1,h2⟩
 .obtain⟨cb,h1,h2⟩:=hn.rr a ha
  exact⟨cb,(hT _ (by rw[hn.tag.r a ha];omega)).trans h1,h2⟩
 .exact(hn.vv a b ha hb).keep fun k hk=>hT k (by rw[hn.tag.v a b k ha hb hk];omega)
theorem Net.stU(hn:Net T g w X n R U M h){i:Nat}(hi:i<n)(b:Bool):(Instr.storeAt 4 (.pointer (some ⟨h.ub,i,none⟩)) (.bool b)).run Try.prog w=.ok () (w.setCell ⟨h.ub,i,none⟩ (.bool b)):=by
 obtain⟨cur,c1,c2⟩:=hn.uu
 have hic:=(zzm_.1 (c2 i hi)).1
 obtain⟨i0,hi0,hzs⟩:∃i0,Try.prog.info? 4=some i0/\i0.size=1:=⟨_,rfl,by kernel_rfl⟩
 have hst:=run_storeCells_cells (P:=Try.prog) h.ub i [.bool b] 0 w (fun j hj=>by
  have:j=0:=by simpa using hj
  subst this
  simp[World.cell?,c1,hic]) (fun j hj=>by simp[World.frozen?,c1]) (by intro v hv;simp at hv;subst hv;rfl)
 simp only[Nat.add_zero]at hst
 have e:w.setCells h.ub i [.bool b]=w.setCell ⟨h.ub,i,none⟩ (.bool b):=rfl
 rw[e]at hst
 simp[Instr.storeAt,Instr.sureAddr,storeVar,sizeOf,typeInfo,hi0,hzs,Value.cells,hst]
theorem oV_{g':Gh}{w':World}{b:RG.Rs}{e:Int}{v:Value}(hr:Rep g' w' (.tup [rv b,.s (.int .i64 e)]) v)(h1:Below w.heap.size w w')(h2:∀k,k<w.heap.size->g'.I k=g.I k)(h3:∀k,0<g'.I k->k<w'.heap.size) :
 ∃rs,v=.tuple #[.agg rs,.int .i64 e]/\Gv g w b [] w' g' rs none 0:=by
 cases hr with
 | tup e1 e2 =>
   rename_i vs
   obtain⟨a,d,rfl⟩:∃a d,vs=#[a,d]:=by
    have:vs.toList.length=2:=by have:=e1;simp at this;simp;omega
    match hv:vs.toList,this with
    |[a,d],_=>exact⟨a,d,Array.ext' (by simpa using hv)⟩
   have ha:=e2 0 _ a rfl rfl
   have hd:=(e2 1 _ d rfl rfl).of_s rfl
   subst hd
   obtain⟨vs,rfl⟩:∃vs,a=.agg vs:=by
    cases ha with
    |agg _ _ _=>exact⟨_,rfl⟩
   refine⟨vs,rfl,h1,h2,h3,ha,?_⟩
   exact .list (xs:=[]) (fun _=>undef) (zzl_ _) (by simp) (fun _=>rfl) (by simp) (by simp[flat]) (by simp[flat]) (by simp[flat])
end
end
end Go.Proofs.Ytnbppaolinopeaa
namespace Go.Proofs.Ytnbppaolinopeaa.RG
def S7(c n i:Nat)(R:Nat->Rs)(U:Nat->Bool)(M:Nat->Nat->List Rm)(R':Nat->Rs)(U':Nat->Bool)(M':Nat->Nat->List Rm):Prop :=
 Stp n R U M R' U' M'/\(c=7->(U i=false->R'=updR R i (restartR (R i))/\U'=updU U i true/\M'=M) /\
  (U i=true->(R i).tk.using_=true->R'=updR R i (doneR (R i)).1/\U'=U/\M'=put M i (doneR (R i)).2))
section
variable{c n i:Nat}{R R':Nat->Rs}{U U':Nat->Bool}{M M':Nat->Nat->List Rm}
theorem S7.no(h:Stp n R U M R' U' M')(hc:c≠7):S7 c n i R U M R' U' M':=⟨h,fun q=>absurd q hc⟩
theorem S7.up(hi:i<n)(hU:U i=false):S7 c n i R U M (updR R i (restartR (R i))) (updU U i true) M :=
 ⟨.restart hi hU,fun _=>⟨fun _=>⟨rfl,rfl,rfl⟩,fun q=>by rw[hU]at q;cases q⟩⟩
theorem S7.done(hi:i<n)(hU:U i=true)(hu:(R i).tk.using_=true):S7 c n i R U M (updR R i (doneR (R i)).1) U (put M i (doneR (R i)).2) :=
 ⟨.done hi hU hu,fun _=>⟨fun q=>(by rw[hU]at q;cases q),fun _ _=>⟨rfl,rfl,rfl⟩⟩⟩
theorem S7.off(h:Stp n R U M R' U' M')(hU:U i=true)(hu:(R i).tk.using_=false):S7 c n i R U M R' U' M' :=
 ⟨h,fun _=>⟨fun q=>(by rw[hU]at q;cases q),fun _ q=>by rw[hu]at q;cases q⟩⟩
end
end Go.Proofs.Ytnbppaolinopeaa.RG
namespace Go.Proofs.Ytnbppaolinopeaa
open Go.RowKit Go.Proofs
theorem rk_{T:Nat->Nat}{g:Gh}{w:World}{X n:Nat}{R:Nat->RG.Rs}{U:Nat->Bool}{M:Nat->Nat->List RG.Rm}{h:Hd}{D:RG.Id}{E:Nat}(hn:Net T g w X n R U M h)(hG:RG.GI n R M D E)(hE:E<=1000000000)(hL:∀a b,(M a b).length<=90000){c i j:Nat}(hc:c<10)(hi:i<1000)(hj:j<1000) :
 Calls Try.prog 17 #[.pointer (some ⟨X,0,none⟩),.int .i64 c,.int .i64 i,.int .i64 j] w fun e w'=>∃T' g' h' R' U' M',e=.returned (.bool true)/\Net T' g' w' X n R' U' M' h'/\Kp T g w T' g' w'/\RG.S7 c n (i%n) R U M R' U' M':=by
 have mx:=zN_
 have n9:=hn.n9
 have n1:=hG.inv.n1
 have x0:=hn.x0'
 have hbcn:=hn.bcn
 have hn0:¬(n:Int)=0:=by omega
 have hnb:((n:Int)==0)=false:=by simp;omega
 have hri:(i:Int).tmod (n:Int)=((i%n:Nat):Int):=by rw[Int.tmod_eq_emod_of_nonneg (by omega)];rfl
 have hrj:(j:Int).tmod (n:Int)=((j%n:Nat):Int):=by rw[Int.tmod_eq_emod_of_nonneg (by omega)];rfl
 have hI0:i%n<n:=Nat.mod_lt _ (by omega)
 have hJ0:j%n<n:=Nat.mod_lt _ (by omega)
 have hwi:IntKind.i64.wrap ((i%n:Nat):Int)=((i%n:Nat):Int):=by rw[yye_];omega
 have hwj:IntKind.i64.wrap ((j%n:Nat):Int)=((j%n:Nat):Int):=by rw[yye_];omega
 generalize i%n=I at *
 generalize j%n=J at *
 obtain⟨W0,hW⟩:∃W0,W0=w.drew:=⟨_,rfl⟩
 have hnW:Net T g W0 X n R U M h:=by
  rw[hW]
  exact hn.grow (zzl_ _) (fun _ _=>rfl) (fun _ _=>rfl) hn.Ilt
 have hK0:Kp T g w T g W0:=by rw[hW];exact⟨rfl,rfl,rfl,zzl_ _,fun _ _ h=>⟨h,rfl⟩,fun _ _=>rfl⟩
 have HN:=Lib.hid hnW
 have HK0:=Lib.hid hK0
 have HG:=Lib.hid hG
 have HL:=Lib.hid hL
 have HW:=Lib.hid hW.symm
 have hiz:(I:Int)<n:=by omega
 have hjz:(J:Int)<n:=by omega
 have hE:E<=1073741824-100:=by omega
 have hE2:E<=1073741824:=by omega
 clear hn hnW hK0 hG hL hW
 go_enter Try.func17,Try.ntmps17
 go_wp2
 go_region
 rw[HW.out]
 clear HW x0
 have x0:=HN.out.x0'
 have x1:=HN.out.x1
 have x2:=HN.out.x2'
 have uI:=HN.out.u1 hI0
 have uJ:=HN.out.u1 hJ0
 by_cases hc6:(c:Int)<6
 case pos =>
  have m1:=HN.out.m1 hI0
  have m2:=HN.out.m2 hI0 hJ0
  have hmcn:=HN.out.mcn
  have hrcn:=HN.out.rcn I hI0
  cases hU:U J with
  | false =>
    rw[hU]at uJ
    go_wp2
    go_ret
    first|exact⟨T,g,h,R,U,M,rfl,HN.out,HK0.out,.no .idle (by omega)⟩|exact⟨rfl,T,g,⟨h,R,U,M,HN.out,HK0.out,.no .idle (by omega)⟩⟩
  | true =>
    rw[hU]at uJ
    obtain⟨A,C,hmv⟩:∃A C,h.mv I J=.slice A (M I J).length C:=by
     rcases HN.out.vv I J hI0 hJ0 with ⟨e1,A,e2⟩|⟨k,off,cap,cur,e2,_⟩
     .exact⟨A,0,by rw[e2,e1];rfl⟩
     .exact⟨_,_,e2⟩
    rw[hmv]at m2
    cases hMe:M I J with
    | nil =>
      rw[hMe]at m2
      have hd0:(((([]:List RG.Rm).length:Nat):Int)==0)=true:=rfl
      go_wp2
      go_ret
      first|exact⟨T,g,h,R,U,M,rfl,HN.out,HK0.out,.no .idle (by omega)⟩|exact⟨rfl,T,g,⟨h,R,U,M,HN.out,HK0.out,.no .idle (by omega)⟩⟩
    | cons m rest =>
      rw[hMe]at m2
      have hcall:=rN_ HN.out HG.out hE2 HL.out hI0 hJ0 hMe
      have HC:=Lib.hid hcall
      have hst:∀R' M',((∃r o,RG.hearR (R J) J I m=some (r,o)/\R'=RG.updR R J r/\M'=RG.put (RG.pop M I J) J o)\/(RG.hearR (R J) J I m=none/\R'=R/\M'=RG.pop M I J))->RG.Stp n R U M R' U M':=fun R' M' hh=>by
       rcases hh with ⟨r,o,q1,rfl,rfl⟩|⟨q1,rfl,rfl⟩
       .exact .hear hI0 hJ0 hU hMe q1
       .exact .drop hI0 hJ0 hU hMe q1
      have HS:=Lib.hid hst
      clear hcall hst
      have hll:((((m::rest:List RG.Rm).length:Nat):Int)==0)=false:=by rw[List.length_cons];simp;omega
      have hl2:¬(((m::rest:List RG.Rm).length:Nat):Int)=0:=by rw[List.length_cons];omega
      generalize (m::rest).length=ml at *
      go_wp2_with ((go_at_call 20
                    refine HC.out.mono ?_
                    rintro e w' ⟨T',g',h',R',M',rfl,hn',hk,hs⟩
                    have HR:=Lib.hid (And.intro hn' (And.intro hk hs))
                    clear hn' hk hs))
      all_goals go_wp2
      all_goals go_ret
      all_goals
       have hst:=RG.S7.no (c:=c) (i:=I) (HS.out _ _ HR.out.2.2) (by omega)
       first|exact⟨T',g',h',R',U,M',rfl,HR.out.1,HK0.out.trans HR.out.2.1,hst⟩|exact⟨rfl,T',g',⟨h',R',U,M',HR.out.1,HK0.out.trans HR.out.2.1,hst⟩⟩
 case neg =>
  obtain⟨vs,hvs,hV,hrv,hv1,c0,c1,c2,c4,c5,c6⟩:=HN.out.st hI0
  have HVS:=Lib.hid hvs
  have hS:∀wx,Below W0.heap.size W0 wx->wx.cell? ⟨X,0,none⟩=some (.slice (some ⟨h.bk,0,none⟩) n h.bc)/\Hs wx h.bk (I*9) vs:=fun wx hb=>⟨xd_ hb x0 HN.out.lt.1,hV.below hb HN.out.lt.2.1⟩
  have HS:=Lib.hid hS
  have hB1:Below W0.heap.size W0 W0.drew:=⟨rfl,rfl,rfl,zzl_ _,fun _ _=>rfl⟩
  have hB2:Below W0.heap.size W0 (W0.drew.alloc (.cells #[.int .i64 0,.bool false,.bool false,.slice none 0 0,.bool false,.bool false,.bool false,.int .i64 0,.int .i64 0] 37)):=⟨rfl,rfl,rfl,by simp,fun k hk=>Below.heap_alloc W0.drew _ k hk⟩
  have hZ2:(W0.drew.alloc (.cells #[.int .i64 0,.bool false,.bool false,.slice none 0 0,.bool false,.bool false,.bool false,.int .i64 0,.int .i64 0] 37)).heap[W0.heap.size]?=some (.cells #[.int .i64 0,.bool false,.bool false,.slice none 0 0,.bool false,.bool false,.bool false,.int .i64 0,.int .i64 0] 37 (0,0)):=heap_alloc_new W0.drew _
  have HB1:=Lib.hid hB1
  have HB2:=Lib.hid hB2
  have HZ2:=Lib.hid hZ2
  clear hS hB1 hB2 hZ2 hvs
  cases hU:U I with
  | false =>
    rw[hU]at uI
    cases hd9:((c:Int)==9)
    all_goals
     have hpc:=rU_ (R I) I n ⟨by omega,n9,hI0⟩ (yyd_ (HG.out.bd I hI0) hE2)
     have hcall:∀wx,Below W0.heap.size W0 wx->Calls Try.prog 35 #[.int .i64 I,.int .i64 n,.int .i64 (R I).ep] wx fun e w'=>∃g' rs A C,e=.returned (.tuple #[.agg rs,.int .i64 0])/\Gv g wx (RG.restartR (R I)) [] w' g' rs A C:=by
      intro wx hbx
      have hI:=HN.out.keepI hbx
      refine(xw_ hpc (g:=g) (w:=wx) (vals:=#[.int .i64 I,.int .i64 n,.int .i64 (R I).ep]) rfl ?_ ?_ fun k hk=>zzk_ (HN.out.Ilt k hk) hbx.size).mono ?_
      .intro x hx
       simp at hx
       rcases hx with rfl|rfl|rfl<;>rfl
      .intro x u c hu hc
       match x,hu,hc with
       |0,hu,hc=>cases hu;cases hc;exact .s rfl
       |1,hu,hc=>cases hu;cases hc;exact .s rfl
       |2,hu,hc=>cases hu;cases hc;exact .s rfl
      .rintro e w' ⟨v,r,g',rfl,rfl,hr,hbel,hg,hlt⟩
       obtain⟨rs,rfl,hv⟩:=oV_ (g:=g) (w:=wx) hr hbel hg hlt
       exact⟨g',rs,none,0,rfl,hv⟩
     have HC:=Lib.hid hcall
     have hSR:∀wx,Below W0.heap.size W0 wx->wx.cell? ⟨X,0,none⟩=some (.slice (some ⟨h.bk,0,none⟩) n h.bc)/\wx.cell? ⟨h.bk,I*9,none⟩=some (.int .i64 (R I).ep):=fun wx hb=>⟨xd_ hb x0 HN.out.lt.1,xd_ hb c0 HN.out.lt.2.1⟩
     have HSR:=Lib.hid hSR
     clear hcall hpc hrv hV hv1 hSR
     go_wp2
     have s0:=HSR.out _ HB1.out
     refine zw_ (fun wx=>wx.cell? ⟨X,0,none⟩=some (.slice (some ⟨h.bk,0,none⟩) n h.bc)/\wx.cell? ⟨h.bk,I*9,none⟩=some (.int .i64 (R I).ep)) 19 mx ?_
     refine z1_ (i:=0) (v:=?_) rfl (by kernel_rfl) (fun _ _ _ h=>h) (by kernel_rfl) ?_ (fun _=>s0) ?_
     rotate_left
     ·(intro w9;go_simp;first|done|with_reducible rfl)
     try simp only[Act.put,zze_,zzi_,zzj_]
     refine z1_ (i:=1) (v:=?_) rfl (by kernel_rfl) (fun _ _ _ h=>h) (by kernel_rfl) ?_ (fun _=>s0) ?_
     rotate_left
     ·(intro w9;go_simp;first|done|with_reducible rfl)
     try simp only[Act.put,zze_,zzi_,zzj_]
     refine z1_ (i:=2) (v:=?_) rfl (by kernel_rfl) (fun _ _ _ h=>h) (by kernel_rfl) ?_ (fun _=>s0) ?_
     rotate_left
     ·(intro w9;go_simp;first|done|with_reducible rfl)
     try simp only[Act.put,zze_,zzi_,zzj_]
     refine z1_ (i:=3) (v:=?_) rfl (by kernel_rfl) (fun _ _ _ h=>h) (by kernel_rfl) ?_ (fun _=>s0) ?_
     rotate_left
     ·(intro w9;go_simp;first|done|with_reducible rfl)
     try simp only[Act.put,zze_,zzi_,zzj_]
     refine zr_ (i:=4) (v:=?_) rfl (by kernel_rfl) (by kernel_rfl) (fun _ _ _ h=>h) (by kernel_rfl) ?_ (fun _=>s0) ?_
     rotate_left
     ·(intro w9 hSw;(try dsimp only at hSw);obtain⟨S1,S0⟩:=hSw;go_simp;first|done|with_reducible rfl)
     try simp only[Act.put,zze_,zzi_,zzj_]
     refine z1_ (i:=5) (v:=?_) rfl (by kernel_rfl) (fun _ _ _ h=>h) (by kernel_rfl) ?_ (fun _=>s0) ?_
     rotate_left
     ·(intro w9;go_simp;first|done|with_reducible rfl)
     try simp only[Act.put,zze_,zzi_,zzj_]
     refine z1_ (i:=6) (v:=?_) rfl (by kernel_rfl) (fun _ _ _ h=>h) (by kernel_rfl) ?_ (fun _=>s0) ?_
     rotate_left
     ·(intro w9;go_simp;first|done|with_reducible rfl)
     try simp only[Act.put,zze_,zzi_,zzj_]
     refine z1_ (i:=7) (v:=?_) rfl (by kernel_rfl) (fun _ _ _ h=>h) (by kernel_rfl) ?_ (fun _=>s0) ?_
     rotate_left
     ·(intro w9;go_simp;first|done|with_reducible rfl)
     try simp only[Act.put,zze_,zzi_,zzj_]
     refine z1_ (i:=8) (v:=?_) rfl (by kernel_rfl) (fun _ _ _ h=>h) (by kernel_rfl) ?_ (fun _=>s0) ?_
     rotate_left
     ·(intro w9;go_simp;first|done|with_reducible rfl)
     try simp only[Act.put,zze_,zzi_,zzj_]
     refine zr_ (i:=9) (v:=?_) rfl (by kernel_rfl) (by kernel_rfl) (fun _ _ _ h=>h) (by kernel_rfl) ?_ (fun _=>s0) ?_
     rotate_left
     ·(intro w9 hSw;(try dsimp only at hSw);obtain⟨S1,S0⟩:=hSw;go_simp;first|done|with_reducible rfl)
     try simp only[Act.put,zze_,zzi_,zzj_]
     refine z1_ (i:=10) (v:=?_) rfl (by kernel_rfl) (fun _ _ _ h=>h) (by kernel_rfl) ?_ (fun _=>s0) ?_
     rotate_left
     ·(intro w9;go_simp;first|done|with_reducible rfl)
     try simp only[Act.put,zze_,zzi_,zzj_]
     refine z1_ (i:=11) (v:=?_) rfl (by kernel_rfl) (fun _ _ _ h=>h) (by kernel_rfl) ?_ (fun _=>s0) ?_
     rotate_left
     ·(intro w9;go_simp;first|done|with_reducible rfl)
     try simp only[Act.put,zze_,zzi_,zzj_]
     refine z1_ (i:=12) (v:=?_) rfl (by kernel_rfl) (fun _ _ _ h=>h) (by kernel_rfl) ?_ (fun _=>s0) ?_
     rotate_left
     ·(intro w9;go_simp;first|done|with_reducible rfl)
     try simp only[Act.put,zze_,zzi_,zzj_]
     refine zr_ (i:=13) (v:=?_) rfl (by kernel_rfl) (by kernel_rfl) (fun _ _ _ h=>h) (by kernel_rfl) ?_ (fun _=>s0) ?_
     rotate_left
     ·(intro w9 hSw;(try dsimp only at hSw);obtain⟨S1,S0⟩:=hSw;go_simp;first|done|with_reducible rfl)
     try simp only[Act.put,zze_,zzi_,zzj_]
     refine z9_ (rs:=[14,18]) (by kernel_rfl) (by simp) ?_
     refine z3_ rfl (fun K hK=>?_) (z3_ rfl (fun K hK=>?_) AllG.nil)
     .go_simp
      refine(HC.out _ HB1.out).mono ?_
      rintro e w' ⟨g',rs,A,C,rfl,hv⟩
      have hB3:=HB1.out.trans (Below.mono1 hv.below HB1.out.size)
      have s1:=HSR.out _ hB3
      go_simp
      refine hK.out _ _ (fun _=>s1) ?_
      clear hK K
      try simp only[Act.put,zze_,zzi_,zzj_]
      refine z1_ (i:=15) (v:=?_) rfl (by kernel_rfl) (fun _ _ _ h=>h) (by kernel_rfl) ?_ (fun _=>s1) ?_
      rotate_left
      ·(intro w9;go_simp;first|done|with_reducible rfl)
      try simp only[Act.put,zze_,zzi_,zzj_]
      refine z1_ (i:=16) (v:=?_) rfl (by kernel_rfl) (fun _ _ _ h=>h) (by kernel_rfl) ?_ (fun _=>s1) ?_
      rotate_left
      ·(intro w9;go_simp;first|done|with_reducible rfl)
      try simp only[Act.put,zze_,zzi_,zzj_]
      refine z1_ (i:=17) (v:=?_) rfl (by kernel_rfl) (fun _ _ _ h=>h) (by kernel_rfl) ?_ (fun _=>s1) ?_
      rotate_left
      ·(intro w9;go_simp;first|done|with_reducible rfl)
      try simp only[Act.put,zze_,zzi_,zzj_]
      obtain⟨W,hW,hA⟩:=hv.aft1 HN.out HB1.out (zs:=#[.int .i64 0,.bool false,.bool false,.slice none 0 0,.bool false,.bool false,.bool false,.int .i64 0,.int .i64 0]) rfl
      have HW:=Lib.hid hW
      have HA:=Lib.hid hA
      have s2:=HSR.out _ (hB3.trans (Below.mono1 (zI_ w' (.cells #[.int .i64 0,.bool false,.bool false,.slice none 0 0,.bool false,.bool false,.bool false,.int .i64 0,.int .i64 0] 37)) hB3.size))
      clear hW hA hv
      refine z9_ (rs:=[18]) (by kernel_rfl) (by simp) ?_
      refine z3_ rfl (fun K hK=>?_) AllG.nil
      go_simp
      refine hK.out _ _ (fun _=>s2) ?_
      clear hK K s2
      try simp only[Act.put,zze_,zzi_,zzj_]
      refine zP_ (by kernel_rfl) (by kernel_rfl) (by decide) ?_
      simp only[List.drop_succ_cons,List.drop_zero]
      refine zk_ rfl rfl 37 _ _ rfl _ _ rfl rfl HW.out ?_
      clear s0 s1
      have ha:=HA.out
      obtain⟨u1,u2,u3⟩:=ha.net.setU hI0 true
      obtain⟨W2,hW2⟩:∃W2,W2=W.setCell ⟨h.ub,I,none⟩ (.bool true):=⟨_,rfl⟩
      have hstu:=ha.net.stU hI0 true
      rw[<-hW2]at u2 u3 hstu
      have HSTU:=Lib.hid hstu
      have y1:=ha.net.x1
      have yu:=ha.net.u1 hI0
      have hKu:w'.heap.size≠h.ub:=by
       have:=HN.out.lt.2.2.1
       have:=hB3.size
       omega
      have hub0:g'.I h.ub=0:=(ha.net.tz _ (by rw[ha.net.tag.u];omega)).2
      have hcz:∀b o,b≠h.ub->W2.cell? ⟨b,o,none⟩=W.cell? ⟨b,o,none⟩:=fun b o hb=>yyb_ (a:=⟨b,o,none⟩) (by rw[hW2];simp[World.setCell,yyu_,Ne.symm hb])
      have hI2:∀b o,o<g'.I b->o<g'.I b/\W2.cell? ⟨b,o,none⟩=W.cell? ⟨b,o,none⟩:=fun b o ho=>⟨ho,hcz b o (by rintro rfl;omega)⟩
      have hrb2:Rep g' W2 (rv (RG.restartR (R I))) (.agg rs):=yd_ ha.rb hI2
      have hrl2:Rep g' W2 (.list 19 (ou [])) (.slice none ([]:RG.Out).length 0):=.list (xs:=[]) (fun _=>undef) (zzl_ _) (by simp) (fun _=>rfl) (by simp) (by simp[flat]) (by simp[flat]) (by simp[flat])
      have hcall2:=zX_ u2 hI0 hrb2 hrl2 (fun p hp=>by cases hp) (by simp) (fun a b=>by have:=HL.out a b;simp;omega)
      have HC2:=Lib.hid hcall2
      have HLD:=Lib.hid (sz37.ld (w:=W2) (b:=w'.heap.size) (o:=0) (xW_ ha.rb).1 (fun j v hj=>(hcz w'.heap.size (0+j) hKu).trans (zB_ ha.box j v hj)))
      have HKU:=Lib.hid u3
      clear hW2 hstu u1
      clear hcall2 hrb2 hrl2 hI2 hcz u2 u3 ha
      go_wp2_with (first
       |(refine zk_ rfl rfl 4 _ _ rfl _ _ rfl rfl HSTU.out ?_)
       |(refine zL_ rfl 37 _ rfl _ _ rfl HLD.out ?_)
       |(refine yg_ 37 _ rfl (by kernel_rfl) _ _ rfl HLD.out ?_)
       | (go_at_call 11
          refine HC2.out.mono ?_
          rintro e w2 ⟨T',h',rfl,hk⟩
          have HK:=Lib.hid hk
          clear hk))
      all_goals go_wp2
      all_goals go_ret
      all_goals
       obtain⟨t1,t2,t3,t4,t5,t6⟩:=HK.out
       have ha:=HA.out
       have hku:=HKU.out
       have hkp:Kp T g W0 T' g' w2:=(Kp.trans ⟨ha.os,ha.tape,ha.output,ha.size,fun k hk h0=>⟨h0,ha.fr k hk⟩,ha.same⟩ hku).trans ⟨t2,t3,t4,t5,t6,fun k _=>rfl⟩
       have hst:=RG.S7.up (c:=c) (n:=n) (R:=R) (U:=U) (M:=M) hI0 hU
       first|exact⟨T',g',h',_,_,_,rfl,t1,HK0.out.trans hkp,hst⟩|exact⟨rfl,T',g',h',_,_,_,t1,HK0.out.trans hkp,hst⟩|exact⟨rfl,T',g',⟨h',_,_,_,t1,HK0.out.trans hkp,hst⟩⟩
     .go_simp
      have s1:=HSR.out _ HB2.out
      refine hK.out _ _ (fun _=>s1) ?_
      clear hK K
      try simp only[Act.put,zze_,zzi_,zzj_]
      refine z9_ (rs:=[14]) (by kernel_rfl) (by simp) ?_
      refine z3_ rfl (fun K hK=>?_) AllG.nil
      go_simp
      refine(HC.out _ HB2.out).mono ?_
      rintro e w' ⟨g',rs,A,C,rfl,hv⟩
      have hB3:=HB2.out.trans (Below.mono1 hv.below HB2.out.size)
      have s2:=HSR.out _ hB3
      go_simp
      refine hK.out _ _ (fun _=>s2) ?_
      clear hK K
      try simp only[Act.put,zze_,zzi_,zzj_]
      refine z1_ (i:=15) (v:=?_) rfl (by kernel_rfl) (fun _ _ _ h=>h) (by kernel_rfl) ?_ (fun _=>s2) ?_
      rotate_left
      ·(intro w9;go_simp;first|done|with_reducible rfl)
      try simp only[Act.put,zze_,zzi_,zzj_]
      refine z1_ (i:=16) (v:=?_) rfl (by kernel_rfl) (fun _ _ _ h=>h) (by kernel_rfl) ?_ (fun _=>s2) ?_
      rotate_left
      ·(intro w9;go_simp;first|done|with_reducible rfl)
      try simp only[Act.put,zze_,zzi_,zzj_]
      refine z1_ (i:=17) (v:=?_) rfl (by kernel_rfl) (fun _ _ _ h=>h) (by kernel_rfl) ?_ (fun _=>s2) ?_
      rotate_left
      ·(intro w9;go_simp;first|done|with_reducible rfl)
      try simp only[Act.put,zze_,zzi_,zzj_]
      obtain⟨W,hW,hA⟩:=hv.aft2 HN.out HB2.out (zs:=#[.int .i64 0,.bool false,.bool false,.slice none 0 0,.bool false,.bool false,.bool false,.int .i64 0,.int .i64 0]) rfl (zzl_ _) HZ2.out
      have HW:=Lib.hid hW
      have HA:=Lib.hid hA
      clear hW hA hv s2
      refine zP_ (by kernel_rfl) (by kernel_rfl) (by decide) ?_
      simp only[List.drop_succ_cons,List.drop_zero]
      refine zk_ rfl rfl 37 _ _ rfl _ _ rfl rfl HW.out ?_
      clear s0 s1
      have ha:=HA.out
      obtain⟨u1,u2,u3⟩:=ha.net.setU hI0 true
      obtain⟨W2,hW2⟩:∃W2,W2=W.setCell ⟨h.ub,I,none⟩ (.bool true):=⟨_,rfl⟩
      have hstu:=ha.net.stU hI0 true
      rw[<-hW2]at u2 u3 hstu
      have HSTU:=Lib.hid hstu
      have y1:=ha.net.x1
      have yu:=ha.net.u1 hI0
      have hKu:W0.heap.size≠h.ub:=by
       have:=HN.out.lt.2.2.1
       have:=hB3.size
       omega
      have hub0:g'.I h.ub=0:=(ha.net.tz _ (by rw[ha.net.tag.u];omega)).2
      have hcz:∀b o,b≠h.ub->W2.cell? ⟨b,o,none⟩=W.cell? ⟨b,o,none⟩:=fun b o hb=>yyb_ (a:=⟨b,o,none⟩) (by rw[hW2];simp[World.setCell,yyu_,Ne.symm hb])
      have hI2:∀b o,o<g'.I b->o<g'.I b/\W2.cell? ⟨b,o,none⟩=W.cell? ⟨b,o,none⟩:=fun b o ho=>⟨ho,hcz b o (by rintro rfl;omega)⟩
      have hrb2:Rep g' W2 (rv (RG.restartR (R I))) (.agg rs):=yd_ ha.rb hI2
      have hrl2:Rep g' W2 (.list 19 (ou [])) (.slice none ([]:RG.Out).length 0):=.list (xs:=[]) (fun _=>undef) (zzl_ _) (by simp) (fun _=>rfl) (by simp) (by simp[flat]) (by simp[flat]) (by simp[flat])
      have hcall2:=zX_ u2 hI0 hrb2 hrl2 (fun p hp=>by cases hp) (by simp) (fun a b=>by have:=HL.out a b;simp;omega)
      have HC2:=Lib.hid hcall2
      have HLD:=Lib.hid (sz37.ld (w:=W2) (b:=W0.heap.size) (o:=0) (xW_ ha.rb).1 (fun j v hj=>(hcz W0.heap.size (0+j) hKu).trans (zB_ ha.box j v hj)))
      have HKU:=Lib.hid u3
      clear hW2 hstu u1
      clear hcall2 hrb2 hrl2 hI2 hcz u2 u3 ha
      go_wp2_with (first
       |(refine zk_ rfl rfl 4 _ _ rfl _ _ rfl rfl HSTU.out ?_)
       |(refine zL_ rfl 37 _ rfl _ _ rfl HLD.out ?_)
       |(refine yg_ 37 _ rfl (by kernel_rfl) _ _ rfl HLD.out ?_)
       | (go_at_call 11
          refine HC2.out.mono ?_
          rintro e w2 ⟨T',h',rfl,hk⟩
          have HK:=Lib.hid hk
          clear hk))
      all_goals go_wp2
      all_goals go_ret
      all_goals
       obtain⟨t1,t2,t3,t4,t5,t6⟩:=HK.out
       have ha:=HA.out
       have hku:=HKU.out
       have hkp:Kp T g W0 T' g' w2:=(Kp.trans ⟨ha.os,ha.tape,ha.output,ha.size,fun k hk h0=>⟨h0,ha.fr k hk⟩,ha.same⟩ hku).trans ⟨t2,t3,t4,t5,t6,fun k _=>rfl⟩
       have hst:=RG.S7.up (c:=c) (n:=n) (R:=R) (U:=U) (M:=M) hI0 hU
       first|exact⟨T',g',h',_,_,_,rfl,t1,HK0.out.trans hkp,hst⟩|exact⟨rfl,T',g',h',_,_,_,t1,HK0.out.trans hkp,hst⟩|exact⟨rfl,T',g',⟨h',_,_,_,t1,HK0.out.trans hkp,hst⟩⟩
  | true =>
    rw[hU]at uI
    by_cases hc9:(c:Int)=9
    .have hd9:((c:Int)==9)=true:=by rw[hc9];rfl
     obtain⟨u1,u2,u3⟩:=HN.out.setU hI0 false
     obtain⟨W2,hW2⟩:∃W2,W2=W0.setCell ⟨h.ub,I,none⟩ (.bool false):=⟨_,rfl⟩
     have hstu:=HN.out.stU hI0 false
     rw[<-hW2]at u2 u3 hstu
     have HSTU:=Lib.hid hstu
     have HU:=Lib.hid (And.intro u2 u3)
     clear u1 u2 u3 hrv hV hv1 hW2 hstu
     go_wp2_with (refine zk_ rfl rfl 4 _ _ rfl _ _ rfl rfl HSTU.out ?_)
     go_ret
     have hst:=RG.S7.no (c:=c) (i:=I) (RG.Stp.crash (n:=n) (R:=R) (U:=U) (M:=M) hI0 hU) (by omega)
     first|exact⟨T,g,h,R,_,M,rfl,HU.out.1,HK0.out.trans HU.out.2,hst⟩|exact⟨rfl,T,g,⟨h,R,_,M,HU.out.1,HK0.out.trans HU.out.2,hst⟩⟩
    have hd9:((c:Int)==9)=false:=by simpa using hc9
    by_cases hc8:(c:Int)=8
    .have hd8:((c:Int)==8)=true:=by rw[hc8];rfl
     have ho:=RG.begin_out (n:=n) (s:=I) (E:=E) n9 (R I)
     have HO:=Lib.hid ho
     have hpc:=tU_ (r:=R I) (n:=n) (i:=I) (HG.out.inv.ok hI0 (yyd_ (HG.out.bd I hI0) hE2)) (by have:=(RG.nextE_lt (n:=n) (i:=I) (e:=(R I).ep) (by omega)).2;have:=HG.out.bd I hI0;omega)
     have hcall:∀wx,Below W0.heap.size W0 wx->Calls Try.prog 10 #[.agg vs,.int .i64 I,.int .i64 n] wx fun e w'=>∃g' rs A C,e=.returned (.tuple #[.agg rs,.slice A ((RG.beginR n I (R I)).2:RG.Out).length C,.int .i64 0])/\Gv g wx (RG.beginR n I (R I)).1 (RG.beginR n I (R I)).2 w' g' rs A C:=by
      intro wx hbx
      have hI:=HN.out.keepI hbx
      refine(xw_ hpc (g:=g) (w:=wx) (vals:=#[.agg vs,.int .i64 I,.int .i64 n]) rfl ?_ ?_ fun k hk=>zzk_ (HN.out.Ilt k hk) hbx.size).mono ?_
      .intro x hx
       simp at hx
       rcases hx with rfl|rfl|rfl<;>rfl
      .intro x u c hu hc
       match x,hu,hc with
       |0,hu,hc=>cases hu;cases hc;exact yd_ hrv hI
       |1,hu,hc=>cases hu;cases hc;exact .s rfl
       |2,hu,hc=>cases hu;cases hc;exact .s rfl
      .rintro e w' ⟨v,r,g',rfl,rfl,hr,hbel,hg,hlt⟩
       obtain⟨rs,A,C,rfl,hv⟩:=rJ_ hr hbel hg hlt
       exact⟨g',rs,A,C,rfl,hv⟩
     have HC:=Lib.hid hcall
     clear hcall hpc ho hrv hV hv1
     go_wp2
     have s0:=HS.out _ HB1.out
     refine zw_ (fun wx=>wx.cell? ⟨X,0,none⟩=some (.slice (some ⟨h.bk,0,none⟩) n h.bc)/\Hs wx h.bk (I*9) vs) 19 mx ?_
     refine z1_ (i:=0) (v:=?_) rfl (by kernel_rfl) (fun _ _ _ h=>h) (by kernel_rfl) ?_ (fun _=>s0) ?_
     rotate_left
     ·(intro w9;go_simp;first|done|with_reducible rfl)
     try simp only[Act.put,zze_,zzi_,zzj_]
     refine z1_ (i:=1) (v:=?_) rfl (by kernel_rfl) (fun _ _ _ h=>h) (by kernel_rfl) ?_ (fun _=>s0) ?_
     rotate_left
     ·(intro w9;go_simp;first|done|with_reducible rfl)
     try simp only[Act.put,zze_,zzi_,zzj_]
     refine z1_ (i:=2) (v:=?_) rfl (by kernel_rfl) (fun _ _ _ h=>h) (by kernel_rfl) ?_ (fun _=>s0) ?_
     rotate_left
     ·(intro w9;go_simp;first|done|with_reducible rfl)
     try simp only[Act.put,zze_,zzi_,zzj_]
     refine zr_ (i:=3) (v:=?_) rfl (by kernel_rfl) (by kernel_rfl) (fun _ _ _ h=>h) (by kernel_rfl) ?_ (fun _=>s0) ?_
     rotate_left
     ·(intro w9 hSw;(try dsimp only at hSw);obtain⟨S1,S0⟩:=hSw;clear S0;go_simp;first|done|with_reducible rfl)
     try simp only[Act.put,zze_,zzi_,zzj_]
     refine z1_ (i:=4) (v:=?_) rfl (by kernel_rfl) (fun _ _ _ h=>h) (by kernel_rfl) ?_ (fun _=>s0) ?_
     rotate_left
     ·(intro w9;go_simp;first|done|with_reducible rfl)
     try simp only[Act.put,zze_,zzi_,zzj_]
     refine z1_ (i:=5) (v:=?_) rfl (by kernel_rfl) (fun _ _ _ h=>h) (by kernel_rfl) ?_ (fun _=>s0) ?_
     rotate_left
     ·(intro w9;go_simp;first|done|with_reducible rfl)
     try simp only[Act.put,zze_,zzi_,zzj_]
     refine zr_ (i:=6) (v:=.agg vs) rfl (by kernel_rfl) (by kernel_rfl) (fun _ _ _ h=>h) (by kernel_rfl) (fun w9 hSw=>yk_ 37 _ rfl (u:=.pointer (some ⟨h.bk,I*9,none⟩)) rfl (sz37.ld HVS.out hSw.2)) (fun _=>s0) ?_
     try simp only[Act.put,zze_,zzi_,zzj_]
     refine z1_ (i:=7) (v:=?_) rfl (by kernel_rfl) (fun _ _ _ h=>h) (by kernel_rfl) ?_ (fun _=>s0) ?_
     rotate_left
     ·(intro w9;go_simp;first|done|with_reducible rfl)
     try simp only[Act.put,zze_,zzi_,zzj_]
     refine z1_ (i:=8) (v:=?_) rfl (by kernel_rfl) (fun _ _ _ h=>h) (by kernel_rfl) ?_ (fun _=>s0) ?_
     rotate_left
     ·(intro w9;go_simp;first|done|with_reducible rfl)
     try simp only[Act.put,zze_,zzi_,zzj_]
     refine z1_ (i:=9) (v:=?_) rfl (by kernel_rfl) (fun _ _ _ h=>h) (by kernel_rfl) ?_ (fun _=>s0) ?_
     rotate_left
     ·(intro w9;go_simp;first|done|with_reducible rfl)
     try simp only[Act.put,zze_,zzi_,zzj_]
     refine z1_ (i:=10) (v:=?_) rfl (by kernel_rfl) (fun _ _ _ h=>h) (by kernel_rfl) ?_ (fun _=>s0) ?_
     rotate_left
     ·(intro w9;go_simp;first|done|with_reducible rfl)
     try simp only[Act.put,zze_,zzi_,zzj_]
     refine zr_ (i:=11) (v:=?_) rfl (by kernel_rfl) (by kernel_rfl) (fun _ _ _ h=>h) (by kernel_rfl) ?_ (fun _=>s0) ?_
     rotate_left
     ·(intro w9 hSw;(try dsimp only at hSw);obtain⟨S1,S0⟩:=hSw;clear S0;go_simp;first|done|with_reducible rfl)
     try simp only[Act.put,zze_,zzi_,zzj_]
     refine z1_ (i:=12) (v:=?_) rfl (by kernel_rfl) (fun _ _ _ h=>h) (by kernel_rfl) ?_ (fun _=>s0) ?_
     rotate_left
     ·(intro w9;go_simp;first|done|with_reducible rfl)
     try simp only[Act.put,zze_,zzi_,zzj_]
     refine z9_ (rs:=[13,18]) (by kernel_rfl) (by simp) ?_
     refine z3_ rfl (fun K hK=>?_) (z3_ rfl (fun K hK=>?_) AllG.nil)
     .go_simp
      refine(HC.out _ HB1.out).mono ?_
      rintro e w' ⟨g',rs,A,C,rfl,hv⟩
      have hB3:=HB1.out.trans (Below.mono1 hv.below HB1.out.size)
      have s1:=HS.out _ hB3
      go_simp
      refine hK.out _ _ (fun _=>s1) ?_
      clear hK K
      try simp only[Act.put,zze_,zzi_,zzj_]
      refine z1_ (i:=14) (v:=?_) rfl (by kernel_rfl) (fun _ _ _ h=>h) (by kernel_rfl) ?_ (fun _=>s1) ?_
      rotate_left
      ·(intro w9;go_simp;first|done|with_reducible rfl)
      try simp only[Act.put,zze_,zzi_,zzj_]
      refine z1_ (i:=15) (v:=?_) rfl (by kernel_rfl) (fun _ _ _ h=>h) (by kernel_rfl) ?_ (fun _=>s1) ?_
      rotate_left
      ·(intro w9;go_simp;first|done|with_reducible rfl)
      try simp only[Act.put,zze_,zzi_,zzj_]
      refine z1_ (i:=16) (v:=?_) rfl (by kernel_rfl) (fun _ _ _ h=>h) (by kernel_rfl) ?_ (fun _=>s1) ?_
      rotate_left
      ·(intro w9;go_simp;first|done|with_reducible rfl)
      try simp only[Act.put,zze_,zzi_,zzj_]
      refine z1_ (i:=17) (v:=?_) rfl (by kernel_rfl) (fun _ _ _ h=>h) (by kernel_rfl) ?_ (fun _=>s1) ?_
      rotate_left
      ·(intro w9;go_simp;first|done|with_reducible rfl)
      try simp only[Act.put,zze_,zzi_,zzj_]
      obtain⟨W,hW,hA⟩:=hv.aft1 HN.out HB1.out (zs:=#[.int .i64 0,.bool false,.bool false,.slice none 0 0,.bool false,.bool false,.bool false,.int .i64 0,.int .i64 0]) rfl
      have HW:=Lib.hid hW
      have HA:=Lib.hid hA
      have s2:=HS.out _ (hB3.trans (Below.mono1 (zI_ w' (.cells #[.int .i64 0,.bool false,.bool false,.slice none 0 0,.bool false,.bool false,.bool false,.int .i64 0,.int .i64 0] 37)) hB3.size))
      clear hW hA hv
      refine z9_ (rs:=[18]) (by kernel_rfl) (by simp) ?_
      refine z3_ rfl (fun K hK=>?_) AllG.nil
      go_simp
      refine hK.out _ _ (fun _=>s2) ?_
      clear hK K s2
      try simp only[Act.put,zze_,zzi_,zzj_]
      refine zP_ (by kernel_rfl) (by kernel_rfl) (by decide) ?_
      simp only[List.drop_succ_cons,List.drop_zero]
      refine zk_ rfl rfl 37 _ _ rfl _ _ rfl rfl HW.out ?_
      clear s0 s1
      have hcall2:=zX_ HA.out.net hI0 HA.out.rb HA.out.rl HO.out.to (by have:=HO.out.len;omega) (fun a b=>by have:=HL.out a b;have:=HO.out.len;omega)
      have HC2:=Lib.hid hcall2
      have HLD:=Lib.hid (sz37.ld (xW_ HA.out.rb).1 (zB_ HA.out.box))
      clear hcall2
      go_wp2_with (first
       |(refine zL_ rfl 37 _ rfl _ _ rfl HLD.out ?_)
       |(refine yg_ 37 _ rfl (by kernel_rfl) _ _ rfl HLD.out ?_)
       | (go_at_call 11
          refine HC2.out.mono ?_
          rintro e w2 ⟨T',h',rfl,hk⟩
          have HK:=Lib.hid hk
          clear hk))
      all_goals go_wp2
      all_goals go_ret
      all_goals
       obtain⟨t1,t2,t3,t4,t5,t6⟩:=HK.out
       have ha:=HA.out
       have hkp:Kp T g W0 T' g' w2:=⟨t2.trans ha.os,t3.trans ha.tape,t4.trans ha.output,yyd_ ha.size t5,fun k hk h0=>⟨(t6 k (zzk_ hk ha.size) h0).1,(t6 k (zzk_ hk ha.size) h0).2.trans (ha.fr k hk)⟩,fun k hk=>ha.same k hk⟩
       have hst:=RG.S7.no (c:=c) (i:=I) (RG.Stp.begin (n:=n) (R:=R) (U:=U) (M:=M) hI0 hU) (by omega)
       first|exact⟨T',g',h',_,_,_,rfl,t1,HK0.out.trans hkp,hst⟩|exact⟨rfl,T',g',h',_,_,_,t1,HK0.out.trans hkp,hst⟩|exact⟨rfl,T',g',⟨h',_,_,_,t1,HK0.out.trans hkp,hst⟩⟩
     .go_simp
      have s1:=HS.out _ HB2.out
      refine hK.out _ _ (fun _=>s1) ?_
      clear hK K
      try simp only[Act.put,zze_,zzi_,zzj_]
      refine z9_ (rs:=[13]) (by kernel_rfl) (by simp) ?_
      refine z3_ rfl (fun K hK=>?_) AllG.nil
      go_simp
      refine(HC.out _ HB2.out).mono ?_
      rintro e w' ⟨g',rs,A,C,rfl,hv⟩
      have hB3:=HB2.out.trans (Below.mono1 hv.below HB2.out.size)
      have s2:=HS.out _ hB3
      go_simp
      refine hK.out _ _ (fun _=>s2) ?_
      clear hK K
      try simp only[Act.put,zze_,zzi_,zzj_]
      refine z1_ (i:=14) (v:=?_) rfl (by kernel_rfl) (fun _ _ _ h=>h) (by kernel_rfl) ?_ (fun _=>s2) ?_
      rotate_left
      ·(intro w9;go_simp;first|done|with_reducible rfl)
      try simp only[Act.put,zze_,zzi_,zzj_]
      refine z1_ (i:=15) (v:=?_) rfl (by kernel_rfl) (fun _ _ _ h=>h) (by kernel_rfl) ?_ (fun _=>s2) ?_
      rotate_left
      ·(intro w9;go_simp;first|done|with_reducible rfl)
      try simp only[Act.put,zze_,zzi_,zzj_]
      refine z1_ (i:=16) (v:=?_) rfl (by kernel_rfl) (fun _ _ _ h=>h) (by kernel_rfl) ?_ (fun _=>s2) ?_
      rotate_left
      ·(intro w9;go_simp;first|done|with_reducible rfl)
      try simp only[Act.put,zze_,zzi_,zzj_]
      refine z1_ (i:=17) (v:=?_) rfl (by kernel_rfl) (fun _ _ _ h=>h) (by kernel_rfl) ?_ (fun _=>s2) ?_
      rotate_left
      ·(intro w9;go_simp;first|done|with_reducible rfl)
      try simp only[Act.put,zze_,zzi_,zzj_]
      obtain⟨W,hW,hA⟩:=hv.aft2 HN.out HB2.out (zs:=#[.int .i64 0,.bool false,.bool false,.slice none 0 0,.bool false,.bool false,.bool false,.int .i64 0,.int .i64 0]) rfl (zzl_ _) HZ2.out
      have HW:=Lib.hid hW
      have HA:=Lib.hid hA
      clear hW hA hv s2
      refine zP_ (by kernel_rfl) (by kernel_rfl) (by decide) ?_
      simp only[List.drop_succ_cons,List.drop_zero]
      refine zk_ rfl rfl 37 _ _ rfl _ _ rfl rfl HW.out ?_
      clear s0 s1
      have hcall2:=zX_ HA.out.net hI0 HA.out.rb HA.out.rl HO.out.to (by have:=HO.out.len;omega) (fun a b=>by have:=HL.out a b;have:=HO.out.len;omega)
      have HC2:=Lib.hid hcall2
      have HLD:=Lib.hid (sz37.ld (xW_ HA.out.rb).1 (zB_ HA.out.box))
      clear hcall2
      go_wp2_with (first
       |(refine zL_ rfl 37 _ rfl _ _ rfl HLD.out ?_)
       |(refine yg_ 37 _ rfl (by kernel_rfl) _ _ rfl HLD.out ?_)
       | (go_at_call 11
          refine HC2.out.mono ?_
          rintro e w2 ⟨T',h',rfl,hk⟩
          have HK:=Lib.hid hk
          clear hk))
      all_goals go_wp2
      all_goals go_ret
      all_goals
       obtain⟨t1,t2,t3,t4,t5,t6⟩:=HK.out
       have ha:=HA.out
       have hkp:Kp T g W0 T' g' w2:=⟨t2.trans ha.os,t3.trans ha.tape,t4.trans ha.output,yyd_ ha.size t5,fun k hk h0=>⟨(t6 k (zzk_ hk ha.size) h0).1,(t6 k (zzk_ hk ha.size) h0).2.trans (ha.fr k hk)⟩,fun k hk=>ha.same k hk⟩
       have hst:=RG.S7.no (c:=c) (i:=I) (RG.Stp.begin (n:=n) (R:=R) (U:=U) (M:=M) hI0 hU) (by omega)
       first|exact⟨T',g',h',_,_,_,rfl,t1,HK0.out.trans hkp,hst⟩|exact⟨rfl,T',g',h',_,_,_,t1,HK0.out.trans hkp,hst⟩|exact⟨rfl,T',g',⟨h',_,_,_,t1,HK0.out.trans hkp,hst⟩⟩
    have hd8:((c:Int)==8)=false:=by simpa using hc8
    cases hus:(R I).tk.using_ with
    | true =>
      rw[hus]at c6
      have ho:=HG.out.inv.done_out (E:=E) hI0 hus
      have HO:=Lib.hid ho
      have hpc:=oE_ (r:=R I) (n:=n) (i:=I) (HG.out.inv.ok hI0 (yyd_ (HG.out.bd I hI0) hE2)) (HG.out.inv.using_ hI0 hus).1 (HG.out.inv.using_ hI0 hus).2 hus
      have hcall:∀wx,Below W0.heap.size W0 wx->Calls Try.prog 36 #[.agg vs,.int .i64 I,.int .i64 n] wx fun e w'=>∃g' rs A C,e=.returned (.tuple #[.agg rs,.slice A ((RG.doneR (R I)).2:RG.Out).length C,.int .i64 0])/\Gv g wx (RG.doneR (R I)).1 (RG.doneR (R I)).2 w' g' rs A C:=by
       intro wx hbx
       have hI:=HN.out.keepI hbx
       refine(xw_ hpc (g:=g) (w:=wx) (vals:=#[.agg vs,.int .i64 I,.int .i64 n]) rfl ?_ ?_ fun k hk=>zzk_ (HN.out.Ilt k hk) hbx.size).mono ?_
       .intro x hx
        simp at hx
        rcases hx with rfl|rfl|rfl<;>rfl
       .intro x u c hu hc
        match x,hu,hc with
        |0,hu,hc=>cases hu;cases hc;exact yd_ hrv hI
        |1,hu,hc=>cases hu;cases hc;exact .s rfl
        |2,hu,hc=>cases hu;cases hc;exact .s rfl
       .rintro e w' ⟨v,r,g',rfl,rfl,hr,hbel,hg,hlt⟩
        obtain⟨rs,A,C,rfl,hv⟩:=rJ_ hr hbel hg hlt
        exact⟨g',rs,A,C,rfl,hv⟩
      have HC:=Lib.hid hcall
      clear hcall hpc ho hrv hV hv1
      go_wp2
      have s0:=HS.out _ HB1.out
      refine zw_ (fun wx=>wx.cell? ⟨X,0,none⟩=some (.slice (some ⟨h.bk,0,none⟩) n h.bc)/\Hs wx h.bk (I*9) vs) 19 mx ?_
      refine z1_ (i:=0) (v:=?_) rfl (by kernel_rfl) (fun _ _ _ h=>h) (by kernel_rfl) ?_ (fun _=>s0) ?_
      rotate_left
      ·(intro w9;go_simp;first|done|with_reducible rfl)
      try simp only[Act.put,zze_,zzi_,zzj_]
      refine z1_ (i:=1) (v:=?_) rfl (by kernel_rfl) (fun _ _ _ h=>h) (by kernel_rfl) ?_ (fun _=>s0) ?_
      rotate_left
      ·(intro w9;go_simp;first|done|with_reducible rfl)
      try simp only[Act.put,zze_,zzi_,zzj_]
      refine z1_ (i:=2) (v:=?_) rfl (by kernel_rfl) (fun _ _ _ h=>h) (by kernel_rfl) ?_ (fun _=>s0) ?_
      rotate_left
      ·(intro w9;go_simp;first|done|with_reducible rfl)
      try simp only[Act.put,zze_,zzi_,zzj_]
      refine zr_ (i:=3) (v:=?_) rfl (by kernel_rfl) (by kernel_rfl) (fun _ _ _ h=>h) (by kernel_rfl) ?_ (fun _=>s0) ?_
      rotate_left
      ·(intro w9 hSw;(try dsimp only at hSw);obtain⟨S1,S0⟩:=hSw;clear S0;go_simp;first|done|with_reducible rfl)
      try simp only[Act.put,zze_,zzi_,zzj_]
      refine z1_ (i:=4) (v:=?_) rfl (by kernel_rfl) (fun _ _ _ h=>h) (by kernel_rfl) ?_ (fun _=>s0) ?_
      rotate_left
      ·(intro w9;go_simp;first|done|with_reducible rfl)
      try simp only[Act.put,zze_,zzi_,zzj_]
      refine z1_ (i:=5) (v:=?_) rfl (by kernel_rfl) (fun _ _ _ h=>h) (by kernel_rfl) ?_ (fun _=>s0) ?_
      rotate_left
      ·(intro w9;go_simp;first|done|with_reducible rfl)
      try simp only[Act.put,zze_,zzi_,zzj_]
      refine zr_ (i:=6) (v:=.agg vs) rfl (by kernel_rfl) (by kernel_rfl) (fun _ _ _ h=>h) (by kernel_rfl) (fun w9 hSw=>yk_ 37 _ rfl (u:=.pointer (some ⟨h.bk,I*9,none⟩)) rfl (sz37.ld HVS.out hSw.2)) (fun _=>s0) ?_
      try simp only[Act.put,zze_,zzi_,zzj_]
      refine z1_ (i:=7) (v:=?_) rfl (by kernel_rfl) (fun _ _ _ h=>h) (by kernel_rfl) ?_ (fun _=>s0) ?_
      rotate_left
      ·(intro w9;go_simp;first|done|with_reducible rfl)
      try simp only[Act.put,zze_,zzi_,zzj_]
      refine z1_ (i:=8) (v:=?_) rfl (by kernel_rfl) (fun _ _ _ h=>h) (by kernel_rfl) ?_ (fun _=>s0) ?_
      rotate_left
      ·(intro w9;go_simp;first|done|with_reducible rfl)
      try simp only[Act.put,zze_,zzi_,zzj_]
      refine z1_ (i:=9) (v:=?_) rfl (by kernel_rfl) (fun _ _ _ h=>h) (by kernel_rfl) ?_ (fun _=>s0) ?_
      rotate_left
      ·(intro w9;go_simp;first|done|with_reducible rfl)
      try simp only[Act.put,zze_,zzi_,zzj_]
      refine z1_ (i:=10) (v:=?_) rfl (by kernel_rfl) (fun _ _ _ h=>h) (by kernel_rfl) ?_ (fun _=>s0) ?_
      rotate_left
      ·(intro w9;go_simp;first|done|with_reducible rfl)
      try simp only[Act.put,zze_,zzi_,zzj_]
      refine zr_ (i:=11) (v:=?_) rfl (by kernel_rfl) (by kernel_rfl) (fun _ _ _ h=>h) (by kernel_rfl) ?_ (fun _=>s0) ?_
      rotate_left
      ·(intro w9 hSw;(try dsimp only at hSw);obtain⟨S1,S0⟩:=hSw;clear S0;go_simp;first|done|with_reducible rfl)
      try simp only[Act.put,zze_,zzi_,zzj_]
      refine z1_ (i:=12) (v:=?_) rfl (by kernel_rfl) (fun _ _ _ h=>h) (by kernel_rfl) ?_ (fun _=>s0) ?_
      rotate_left
      ·(intro w9;go_simp;first|done|with_reducible rfl)
      try simp only[Act.put,zze_,zzi_,zzj_]
      refine z9_ (rs:=[13,18]) (by kernel_rfl) (by simp) ?_
      refine z3_ rfl (fun K hK=>?_) (z3_ rfl (fun K hK=>?_) AllG.nil)
      .go_simp
       refine(HC.out _ HB1.out).mono ?_
       rintro e w' ⟨g',rs,A,C,rfl,hv⟩
       have hB3:=HB1.out.trans (Below.mono1 hv.below HB1.out.size)
       have s1:=HS.out _ hB3
       go_simp
       refine hK.out _ _ (fun _=>s1) ?_
       clear hK K
       try simp only[Act.put,zze_,zzi_,zzj_]
       refine z1_ (i:=14) (v:=?_) rfl (by kernel_rfl) (fun _ _ _ h=>h) (by kernel_rfl) ?_ (fun _=>s1) ?_
       rotate_left
       ·(intro w9;go_simp;first|done|with_reducible rfl)
       try simp only[Act.put,zze_,zzi_,zzj_]
       refine z1_ (i:=15) (v:=?_) rfl (by kernel_rfl) (fun _ _ _ h=>h) (by kernel_rfl) ?_ (fun _=>s1) ?_
       rotate_left
       ·(intro w9;go_simp;first|done|with_reducible rfl)
       try simp only[Act.put,zze_,zzi_,zzj_]
       refine z1_ (i:=16) (v:=?_) rfl (by kernel_rfl) (fun _ _ _ h=>h) (by kernel_rfl) ?_ (fun _=>s1) ?_
       rotate_left
       ·(intro w9;go_simp;first|done|with_reducible rfl)
       try simp only[Act.put,zze_,zzi_,zzj_]
       refine z1_ (i:=17) (v:=?_) rfl (by kernel_rfl) (fun _ _ _ h=>h) (by kernel_rfl) ?_ (fun _=>s1) ?_
       rotate_left
       ·(intro w9;go_simp;first|done|with_reducible rfl)
       try simp only[Act.put,zze_,zzi_,zzj_]
       obtain⟨W,hW,hA⟩:=hv.aft1 HN.out HB1.out (zs:=#[.int .i64 0,.bool false,.bool false,.slice none 0 0,.bool false,.bool false,.bool false,.int .i64 0,.int .i64 0]) rfl
       have HW:=Lib.hid hW
       have HA:=Lib.hid hA
       have s2:=HS.out _ (hB3.trans (Below.mono1 (zI_ w' (.cells #[.int .i64 0,.bool false,.bool false,.slice none 0 0,.bool false,.bool false,.bool false,.int .i64 0,.int .i64 0] 37)) hB3.size))
       clear hW hA hv
       refine z9_ (rs:=[18]) (by kernel_rfl) (by simp) ?_
       refine z3_ rfl (fun K hK=>?_) AllG.nil
       go_simp
       refine hK.out _ _ (fun _=>s2) ?_
       clear hK K s2
       try simp only[Act.put,zze_,zzi_,zzj_]
       refine zP_ (by kernel_rfl) (by kernel_rfl) (by decide) ?_
       simp only[List.drop_succ_cons,List.drop_zero]
       refine zk_ rfl rfl 37 _ _ rfl _ _ rfl rfl HW.out ?_
       clear s0 s1
       have hcall2:=zX_ HA.out.net hI0 HA.out.rb HA.out.rl HO.out.to (by have:=HO.out.len;omega) (fun a b=>by have:=HL.out a b;have:=HO.out.len;omega)
       have HC2:=Lib.hid hcall2
       have HLD:=Lib.hid (sz37.ld (xW_ HA.out.rb).1 (zB_ HA.out.box))
       clear hcall2
       go_wp2_with (first
        |(refine zL_ rfl 37 _ rfl _ _ rfl HLD.out ?_)
        |(refine yg_ 37 _ rfl (by kernel_rfl) _ _ rfl HLD.out ?_)
        | (go_at_call 11
           refine HC2.out.mono ?_
           rintro e w2 ⟨T',h',rfl,hk⟩
           have HK:=Lib.hid hk
           clear hk))
       all_goals go_wp2
       all_goals go_ret
       all_goals
        obtain⟨t1,t2,t3,t4,t5,t6⟩:=HK.out
        have ha:=HA.out
        have hkp:Kp T g W0 T' g' w2:=⟨t2.trans ha.os,t3.trans ha.tape,t4.trans ha.output,yyd_ ha.size t5,fun k hk h0=>⟨(t6 k (zzk_ hk ha.size) h0).1,(t6 k (zzk_ hk ha.size) h0).2.trans (ha.fr k hk)⟩,fun k hk=>ha.same k hk⟩
        have hst:=RG.S7.done (c:=c) (n:=n) (R:=R) (U:=U) (M:=M) hI0 hU hus
        first|exact⟨T',g',h',_,_,_,rfl,t1,HK0.out.trans hkp,hst⟩|exact⟨rfl,T',g',h',_,_,_,t1,HK0.out.trans hkp,hst⟩|exact⟨rfl,T',g',⟨h',_,_,_,t1,HK0.out.trans hkp,hst⟩⟩
      .go_simp
       have s1:=HS.out _ HB2.out
       refine hK.out _ _ (fun _=>s1) ?_
       clear hK K
       try simp only[Act.put,zze_,zzi_,zzj_]
       refine z9_ (rs:=[13]) (by kernel_rfl) (by simp) ?_
       refine z3_ rfl (fun K hK=>?_) AllG.nil
       go_simp
       refine(HC.out _ HB2.out).mono ?_
       rintro e w' ⟨g',rs,A,C,rfl,hv⟩
       have hB3:=HB2.out.trans (Below.mono1 hv.below HB2.out.size)
       have s2:=HS.out _ hB3
       go_simp
       refine hK.out _ _ (fun _=>s2) ?_
       clear hK K
       try simp only[Act.put,zze_,zzi_,zzj_]
       refine z1_ (i:=14) (v:=?_) rfl (by kernel_rfl) (fun _ _ _ h=>h) (by kernel_rfl) ?_ (fun _=>s2) ?_
       rotate_left
       ·(intro w9;go_simp;first|done|with_reducible rfl)
       try simp only[Act.put,zze_,zzi_,zzj_]
       refine z1_ (i:=15) (v:=?_) rfl (by kernel_rfl) (fun _ _ _ h=>h) (by kernel_rfl) ?_ (fun _=>s2) ?_
       rotate_left
       ·(intro w9;go_simp;first|done|with_reducible rfl)
       try simp only[Act.put,zze_,zzi_,zzj_]
       refine z1_ (i:=16) (v:=?_) rfl (by kernel_rfl) (fun _ _ _ h=>h) (by kernel_rfl) ?_ (fun _=>s2) ?_
       rotate_left
       ·(intro w9;go_simp;first|done|with_reducible rfl)
       try simp only[Act.put,zze_,zzi_,zzj_]
       refine z1_ (i:=17) (v:=?_) rfl (by kernel_rfl) (fun _ _ _ h=>h) (by kernel_rfl) ?_ (fun _=>s2) ?_
       rotate_left
       ·(intro w9;go_simp;first|done|with_reducible rfl)
       try simp only[Act.put,zze_,zzi_,zzj_]
       obtain⟨W,hW,hA⟩:=hv.aft2 HN.out HB2.out (zs:=#[.int .i64 0,.bool false,.bool false,.slice none 0 0,.bool false,.bool false,.bool false,.int .i64 0,.int .i64 0]) rfl (zzl_ _) HZ2.out
       have HW:=Lib.hid hW
       have HA:=Lib.hid hA
       clear hW hA hv s2
       refine zP_ (by kernel_rfl) (by kernel_rfl) (by decide) ?_
       simp only[List.drop_succ_cons,List.drop_zero]
       refine zk_ rfl rfl 37 _ _ rfl _ _ rfl rfl HW.out ?_
       clear s0 s1
       have hcall2:=zX_ HA.out.net hI0 HA.out.rb HA.out.rl HO.out.to (by have:=HO.out.len;omega) (fun a b=>by have:=HL.out a b;have:=HO.out.len;omega)
       have HC2:=Lib.hid hcall2
       have HLD:=Lib.hid (sz37.ld (xW_ HA.out.rb).1 (zB_ HA.out.box))
       clear hcall2
       go_wp2_with (first
        |(refine zL_ rfl 37 _ rfl _ _ rfl HLD.out ?_)
        |(refine yg_ 37 _ rfl (by kernel_rfl) _ _ rfl HLD.out ?_)
        | (go_at_call 11
           refine HC2.out.mono ?_
           rintro e w2 ⟨T',h',rfl,hk⟩
           have HK:=Lib.hid hk
           clear hk))
       all_goals go_wp2
       all_goals go_ret
       all_goals
        obtain⟨t1,t2,t3,t4,t5,t6⟩:=HK.out
        have ha:=HA.out
        have hkp:Kp T g W0 T' g' w2:=⟨t2.trans ha.os,t3.trans ha.tape,t4.trans ha.output,yyd_ ha.size t5,fun k hk h0=>⟨(t6 k (zzk_ hk ha.size) h0).1,(t6 k (zzk_ hk ha.size) h0).2.trans (ha.fr k hk)⟩,fun k hk=>ha.same k hk⟩
        have hst:=RG.S7.done (c:=c) (n:=n) (R:=R) (U:=U) (M:=M) hI0 hU hus
        first|exact⟨T',g',h',_,_,_,rfl,t1,HK0.out.trans hkp,hst⟩|exact⟨rfl,T',g',h',_,_,_,t1,HK0.out.trans hkp,hst⟩|exact⟨rfl,T',g',⟨h',_,_,_,t1,HK0.out.trans hkp,hst⟩⟩
    | false =>
      rw[hus]at c6
      by_cases hact:(R I).tk.want=false/\(R I).lost=false
      .obtain⟨hw,hlost⟩:=hact
       rw[hw]at c5
       rw[hlost]at c1
       have ho:=HG.out.inv.want_out (E:=E) hI0 hlost hw hus
       have HO:=Lib.hid ho
       have hpc:=oB_ (r:=R I) (n:=n) (i:=I) (HG.out.inv.ok hI0 (yyd_ (HG.out.bd I hI0) hE2)) hlost hw hus
       have hcall:∀wx,Below W0.heap.size W0 wx->Calls Try.prog 37 #[.agg vs,.int .i64 I,.int .i64 n] wx fun e w'=>∃g' rs A C,e=.returned (.tuple #[.agg rs,.slice A ((RG.wantR (R I) I).2:RG.Out).length C,.int .i64 0])/\Gv g wx (RG.wantR (R I) I).1 (RG.wantR (R I) I).2 w' g' rs A C:=by
        intro wx hbx
        have hI:=HN.out.keepI hbx
        refine(xw_ hpc (g:=g) (w:=wx) (vals:=#[.agg vs,.int .i64 I,.int .i64 n]) rfl ?_ ?_ fun k hk=>zzk_ (HN.out.Ilt k hk) hbx.size).mono ?_
        .intro x hx
         simp at hx
         rcases hx with rfl|rfl|rfl<;>rfl
        .intro x u c hu hc
         match x,hu,hc with
         |0,hu,hc=>cases hu;cases hc;exact yd_ hrv hI
         |1,hu,hc=>cases hu;cases hc;exact .s rfl
         |2,hu,hc=>cases hu;cases hc;exact .s rfl
        .rintro e w' ⟨v,r,g',rfl,rfl,hr,hbel,hg,hlt⟩
         obtain⟨rs,A,C,rfl,hv⟩:=rJ_ hr hbel hg hlt
         exact⟨g',rs,A,C,rfl,hv⟩
       have HC:=Lib.hid hcall
       clear hcall hpc ho hrv hV hv1
       go_wp2
       have s0:=HS.out _ HB1.out
       refine zw_ (fun wx=>wx.cell? ⟨X,0,none⟩=some (.slice (some ⟨h.bk,0,none⟩) n h.bc)/\Hs wx h.bk (I*9) vs) 19 mx ?_
       refine z1_ (i:=0) (v:=?_) rfl (by kernel_rfl) (fun _ _ _ h=>h) (by kernel_rfl) ?_ (fun _=>s0) ?_
       rotate_left
       ·(intro w9;go_simp;first|done|with_reducible rfl)
       try simp only[Act.put,zze_,zzi_,zzj_]
       refine z1_ (i:=1) (v:=?_) rfl (by kernel_rfl) (fun _ _ _ h=>h) (by kernel_rfl) ?_ (fun _=>s0) ?_
       rotate_left
       ·(intro w9;go_simp;first|done|with_reducible rfl)
       try simp only[Act.put,zze_,zzi_,zzj_]
       refine z1_ (i:=2) (v:=?_) rfl (by kernel_rfl) (fun _ _ _ h=>h) (by kernel_rfl) ?_ (fun _=>s0) ?_
       rotate_left
       ·(intro w9;go_simp;first|done|with_reducible rfl)
       try simp only[Act.put,zze_,zzi_,zzj_]
       refine zr_ (i:=3) (v:=?_) rfl (by kernel_rfl) (by kernel_rfl) (fun _ _ _ h=>h) (by kernel_rfl) ?_ (fun _=>s0) ?_
       rotate_left
       ·(intro w9 hSw;(try dsimp only at hSw);obtain⟨S1,S0⟩:=hSw;clear S0;go_simp;first|done|with_reducible rfl)
       try simp only[Act.put,zze_,zzi_,zzj_]
       refine z1_ (i:=4) (v:=?_) rfl (by kernel_rfl) (fun _ _ _ h=>h) (by kernel_rfl) ?_ (fun _=>s0) ?_
       rotate_left
       ·(intro w9;go_simp;first|done|with_reducible rfl)
       try simp only[Act.put,zze_,zzi_,zzj_]
       refine z1_ (i:=5) (v:=?_) rfl (by kernel_rfl) (fun _ _ _ h=>h) (by kernel_rfl) ?_ (fun _=>s0) ?_
       rotate_left
       ·(intro w9;go_simp;first|done|with_reducible rfl)
       try simp only[Act.put,zze_,zzi_,zzj_]
       refine zr_ (i:=6) (v:=.agg vs) rfl (by kernel_rfl) (by kernel_rfl) (fun _ _ _ h=>h) (by kernel_rfl) (fun w9 hSw=>yk_ 37 _ rfl (u:=.pointer (some ⟨h.bk,I*9,none⟩)) rfl (sz37.ld HVS.out hSw.2)) (fun _=>s0) ?_
       try simp only[Act.put,zze_,zzi_,zzj_]
       refine z1_ (i:=7) (v:=?_) rfl (by kernel_rfl) (fun _ _ _ h=>h) (by kernel_rfl) ?_ (fun _=>s0) ?_
       rotate_left
       ·(intro w9;go_simp;first|done|with_reducible rfl)
       try simp only[Act.put,zze_,zzi_,zzj_]
       refine z1_ (i:=8) (v:=?_) rfl (by kernel_rfl) (fun _ _ _ h=>h) (by kernel_rfl) ?_ (fun _=>s0) ?_
       rotate_left
       ·(intro w9;go_simp;first|done|with_reducible rfl)
       try simp only[Act.put,zze_,zzi_,zzj_]
       refine z1_ (i:=9) (v:=?_) rfl (by kernel_rfl) (fun _ _ _ h=>h) (by kernel_rfl) ?_ (fun _=>s0) ?_
       rotate_left
       ·(intro w9;go_simp;first|done|with_reducible rfl)
       try simp only[Act.put,zze_,zzi_,zzj_]
       refine z1_ (i:=10) (v:=?_) rfl (by kernel_rfl) (fun _ _ _ h=>h) (by kernel_rfl) ?_ (fun _=>s0) ?_
       rotate_left
       ·(intro w9;go_simp;first|done|with_reducible rfl)
       try simp only[Act.put,zze_,zzi_,zzj_]
       refine zr_ (i:=11) (v:=?_) rfl (by kernel_rfl) (by kernel_rfl) (fun _ _ _ h=>h) (by kernel_rfl) ?_ (fun _=>s0) ?_
       rotate_left
       ·(intro w9 hSw;(try dsimp only at hSw);obtain⟨S1,S0⟩:=hSw;clear S0;go_simp;first|done|with_reducible rfl)
       try simp only[Act.put,zze_,zzi_,zzj_]
       refine z1_ (i:=12) (v:=?_) rfl (by kernel_rfl) (fun _ _ _ h=>h) (by kernel_rfl) ?_ (fun _=>s0) ?_
       rotate_left
       ·(intro w9;go_simp;first|done|with_reducible rfl)
       try simp only[Act.put,zze_,zzi_,zzj_]
       refine z9_ (rs:=[13,18]) (by kernel_rfl) (by simp) ?_
       refine z3_ rfl (fun K hK=>?_) (z3_ rfl (fun K hK=>?_) AllG.nil)
       .go_simp
        refine(HC.out _ HB1.out).mono ?_
        rintro e w' ⟨g',rs,A,C,rfl,hv⟩
        have hB3:=HB1.out.trans (Below.mono1 hv.below HB1.out.size)
        have s1:=HS.out _ hB3
        go_simp
        refine hK.out _ _ (fun _=>s1) ?_
        clear hK K
        try simp only[Act.put,zze_,zzi_,zzj_]
        refine z1_ (i:=14) (v:=?_) rfl (by kernel_rfl) (fun _ _ _ h=>h) (by kernel_rfl) ?_ (fun _=>s1) ?_
        rotate_left
        ·(intro w9;go_simp;first|done|with_reducible rfl)
        try simp only[Act.put,zze_,zzi_,zzj_]
        refine z1_ (i:=15) (v:=?_) rfl (by kernel_rfl) (fun _ _ _ h=>h) (by kernel_rfl) ?_ (fun _=>s1) ?_
        rotate_left
        ·(intro w9;go_simp;first|done|with_reducible rfl)
        try simp only[Act.put,zze_,zzi_,zzj_]
        refine z1_ (i:=16) (v:=?_) rfl (by kernel_rfl) (fun _ _ _ h=>h) (by kernel_rfl) ?_ (fun _=>s1) ?_
        rotate_left
        ·(intro w9;go_simp;first|done|with_reducible rfl)
        try simp only[Act.put,zze_,zzi_,zzj_]
        refine z1_ (i:=17) (v:=?_) rfl (by kernel_rfl) (fun _ _ _ h=>h) (by kernel_rfl) ?_ (fun _=>s1) ?_
        rotate_left
        ·(intro w9;go_simp;first|done|with_reducible rfl)
        try simp only[Act.put,zze_,zzi_,zzj_]
        obtain⟨W,hW,hA⟩:=hv.aft1 HN.out HB1.out (zs:=#[.int .i64 0,.bool false,.bool false,.slice none 0 0,.bool false,.bool false,.bool false,.int .i64 0,.int .i64 0]) rfl
        have HW:=Lib.hid hW
        have HA:=Lib.hid hA
        have s2:=HS.out _ (hB3.trans (Below.mono1 (zI_ w' (.cells #[.int .i64 0,.bool false,.bool false,.slice none 0 0,.bool false,.bool false,.bool false,.int .i64 0,.int .i64 0] 37)) hB3.size))
        clear hW hA hv
        refine z9_ (rs:=[18]) (by kernel_rfl) (by simp) ?_
        refine z3_ rfl (fun K hK=>?_) AllG.nil
        go_simp
        refine hK.out _ _ (fun _=>s2) ?_
        clear hK K s2
        try simp only[Act.put,zze_,zzi_,zzj_]
        refine zP_ (by kernel_rfl) (by kernel_rfl) (by decide) ?_
        simp only[List.drop_succ_cons,List.drop_zero]
        refine zk_ rfl rfl 37 _ _ rfl _ _ rfl rfl HW.out ?_
        clear s0 s1
        have hcall2:=zX_ HA.out.net hI0 HA.out.rb HA.out.rl HO.out.to (by have:=HO.out.len;omega) (fun a b=>by have:=HL.out a b;have:=HO.out.len;omega)
        have HC2:=Lib.hid hcall2
        have HLD:=Lib.hid (sz37.ld (xW_ HA.out.rb).1 (zB_ HA.out.box))
        clear hcall2
        go_wp2_with (first
         |(refine zL_ rfl 37 _ rfl _ _ rfl HLD.out ?_)
         |(refine yg_ 37 _ rfl (by kernel_rfl) _ _ rfl HLD.out ?_)
         | (go_at_call 11
            refine HC2.out.mono ?_
            rintro e w2 ⟨T',h',rfl,hk⟩
            have HK:=Lib.hid hk
            clear hk))
        all_goals go_wp2
        all_goals go_ret
        all_goals
         obtain⟨t1,t2,t3,t4,t5,t6⟩:=HK.out
         have ha:=HA.out
         have hkp:Kp T g W0 T' g' w2:=⟨t2.trans ha.os,t3.trans ha.tape,t4.trans ha.output,yyd_ ha.size t5,fun k hk h0=>⟨(t6 k (zzk_ hk ha.size) h0).1,(t6 k (zzk_ hk ha.size) h0).2.trans (ha.fr k hk)⟩,fun k hk=>ha.same k hk⟩
         have hst:=RG.S7.off (c:=c) (i:=I) (RG.Stp.want (n:=n) (R:=R) (U:=U) (M:=M) hI0 hU hlost hw hus) hU hus
         first|exact⟨T',g',h',_,_,_,rfl,t1,HK0.out.trans hkp,hst⟩|exact⟨rfl,T',g',h',_,_,_,t1,HK0.out.trans hkp,hst⟩|exact⟨rfl,T',g',⟨h',_,_,_,t1,HK0.out.trans hkp,hst⟩⟩
       .go_simp
        have s1:=HS.out _ HB2.out
        refine hK.out _ _ (fun _=>s1) ?_
        clear hK K
        try simp only[Act.put,zze_,zzi_,zzj_]
        refine z9_ (rs:=[13]) (by kernel_rfl) (by simp) ?_
        refine z3_ rfl (fun K hK=>?_) AllG.nil
        go_simp
        refine(HC.out _ HB2.out).mono ?_
        rintro e w' ⟨g',rs,A,C,rfl,hv⟩
        have hB3:=HB2.out.trans (Below.mono1 hv.below HB2.out.size)
        have s2:=HS.out _ hB3
        go_simp
        refine hK.out _ _ (fun _=>s2) ?_
        clear hK K
        try simp only[Act.put,zze_,zzi_,zzj_]
        refine z1_ (i:=14) (v:=?_) rfl (by kernel_rfl) (fun _ _ _ h=>h) (by kernel_rfl) ?_ (fun _=>s2) ?_
        rotate_left
        ·(intro w9;go_simp;first|done|with_reducible rfl)
        try simp only[Act.put,zze_,zzi_,zzj_]
        refine z1_ (i:=15) (v:=?_) rfl (by kernel_rfl) (fun _ _ _ h=>h) (by kernel_rfl) ?_ (fun _=>s2) ?_
        rotate_left
        ·(intro w9;go_simp;first|done|with_reducible rfl)
        try simp only[Act.put,zze_,zzi_,zzj_]
        refine z1_ (i:=16) (v:=?_) rfl (by kernel_rfl) (fun _ _ _ h=>h) (by kernel_rfl) ?_ (fun _=>s2) ?_
        rotate_left
        ·(intro w9;go_simp;first|done|with_reducible rfl)
        try simp only[Act.put,zze_,zzi_,zzj_]
        refine z1_ (i:=17) (v:=?_) rfl (by kernel_rfl) (fun _ _ _ h=>h) (by kernel_rfl) ?_ (fun _=>s2) ?_
        rotate_left
        ·(intro w9;go_simp;first|done|with_reducible rfl)
        try simp only[Act.put,zze_,zzi_,zzj_]
        obtain⟨W,hW,hA⟩:=hv.aft2 HN.out HB2.out (zs:=#[.int .i64 0,.bool false,.bool false,.slice none 0 0,.bool false,.bool false,.bool false,.int .i64 0,.int .i64 0]) rfl (zzl_ _) HZ2.out
        have HW:=Lib.hid hW
        have HA:=Lib.hid hA
        clear hW hA hv s2
        refine zP_ (by kernel_rfl) (by kernel_rfl) (by decide) ?_
        simp only[List.drop_succ_cons,List.drop_zero]
        refine zk_ rfl rfl 37 _ _ rfl _ _ rfl rfl HW.out ?_
        clear s0 s1
        have hcall2:=zX_ HA.out.net hI0 HA.out.rb HA.out.rl HO.out.to (by have:=HO.out.len;omega) (fun a b=>by have:=HL.out a b;have:=HO.out.len;omega)
        have HC2:=Lib.hid hcall2
        have HLD:=Lib.hid (sz37.ld (xW_ HA.out.rb).1 (zB_ HA.out.box))
        clear hcall2
        go_wp2_with (first
         |(refine zL_ rfl 37 _ rfl _ _ rfl HLD.out ?_)
         |(refine yg_ 37 _ rfl (by kernel_rfl) _ _ rfl HLD.out ?_)
         | (go_at_call 11
            refine HC2.out.mono ?_
            rintro e w2 ⟨T',h',rfl,hk⟩
            have HK:=Lib.hid hk
            clear hk))
        all_goals go_wp2
        all_goals go_ret
        all_goals
         obtain⟨t1,t2,t3,t4,t5,t6⟩:=HK.out
         have ha:=HA.out
         have hkp:Kp T g W0 T' g' w2:=⟨t2.trans ha.os,t3.trans ha.tape,t4.trans ha.output,yyd_ ha.size t5,fun k hk h0=>⟨(t6 k (zzk_ hk ha.size) h0).1,(t6 k (zzk_ hk ha.size) h0).2.trans (ha.fr k hk)⟩,fun k hk=>ha.same k hk⟩
         have hst:=RG.S7.off (c:=c) (i:=I) (RG.Stp.want (n:=n) (R:=R) (U:=U) (M:=M) hI0 hU hlost hw hus) hU hus
         first|exact⟨T',g',h',_,_,_,rfl,t1,HK0.out.trans hkp,hst⟩|exact⟨rfl,T',g',h',_,_,_,t1,HK0.out.trans hkp,hst⟩|exact⟨rfl,T',g',⟨h',_,_,_,t1,HK0.out.trans hkp,hst⟩⟩
      .clear hrv hV hv1
       cases hw:(R I).tk.want with
       | true =>
         rw[hw]at c5
         go_wp2
         go_ret
         first|exact⟨T,g,h,R,U,M,rfl,HN.out,HK0.out,.off .idle hU hus⟩|exact⟨rfl,T,g,⟨h,R,U,M,HN.out,HK0.out,.off .idle hU hus⟩⟩
       | false =>
         have hlost:(R I).lost=true:=by
          cases q:(R I).lost
          .exact absurd ⟨hw,q⟩ hact
          .rfl
         rw[hw]at c5
         rw[hlost]at c1
         go_wp2
         go_ret
         first|exact⟨T,g,h,R,U,M,rfl,HN.out,HK0.out,.off .idle hU hus⟩|exact⟨rfl,T,g,⟨h,R,U,M,HN.out,HK0.out,.off .idle hU hus⟩⟩
end Go.Proofs.Ytnbppaolinopeaa
namespace Go.Proofs.Ytnbppaolinopeaa
open Go Go.Proofs
section
variable{P:Program}{l:List Oper}{n:Nat}{Q:Exit->Act->World->Prop}
end
end Go.Proofs.Ytnbppaolinopeaa
namespace Go.Proofs.Ytnbppaolinopeaa
open Go Go.Proofs
structure Orow where
 v:Value
 e:TypeId
 z:Nat
 n:Nat
 xs:List Value
structure Bs(w0:World)(X:Nat)(O:List Orow)(L:List (Nat×Obj))(w:World):Prop where
 os:w.os=w0.os
 tape:w.tape=w0.tape
 output:w.output=w0.output
 size:w0.heap.size<=w.heap.size
 old:∀k,k<w0.heap.size->k≠X->w.heap[k]?=w0.heap[k]?
 own:∀r∈O,w.ownsRow w0.heap.size r.e r.z r.v r.n r.xs
 loose:∀q∈L,w0.heap.size<=q.1/\q.1<w.heap.size/\w.heap[q.1]?=some q.2
 ndO:∀(i j:Nat) (r s:Orow) (k:Nat),O[i]?=some r->O[j]?=some s->r.v.ownBlock=some k->s.v.ownBlock=some k->i=j
 ndL:L.Pairwise fun p q=>p.1<q.1
 ndOL:∀r∈O,∀q∈L,r.v.ownBlock≠some q.1
section
variable{w0 w:World}{X:Nat}{O:List Orow}{L:List (Nat×Obj)}
theorem Bs.drew(h:Bs w0 X O L w):Bs w0 X O L w.drew:=⟨h.os,h.tape,h.output,h.size,h.old,h.own,h.loose,h.ndO,h.ndL,h.ndOL⟩
theorem Bs.grown{w':World}(h:Bs w0 X O L w)(hg:w.grownBy w' none):Bs w0 X O L w':=by
 have hb:∀k,k<w.heap.size->w'.heap[k]?=w.heap[k]?:=fun k hk=>hg.block k hk (by simp)
 refine⟨hg.os.trans h.os,hg.tape.trans h.tape,hg.output.trans h.output,yyd_ h.size hg.size,fun k hk hx=>(hb k (zzk_ hk h.size)).trans (h.old k hk hx),fun r hr=>(h.own r hr).kept hg ?_,fun q hq=>?_,h.ndO,h.ndL,h.ndOL⟩
 .cases r.v.ownBlock<;>simp
 .obtain⟨h1,h2,h3⟩:=h.loose q hq
  exact⟨h1,zzk_ h2 hg.size,(hb q.1 h2).trans h3⟩
theorem Bs.alloc(h:Bs w0 X O L w)(cs:Array Value)(t:TypeId):Bs w0 X O (L++[(w.heap.size,.cells cs t (0,0))]) (w.alloc (.cells cs t)):=by
 have h':=h.grown (World.grownBy_alloc w (.cells cs t) none)
 refine⟨h'.os,h'.tape,h'.output,h'.size,h'.old,h'.own,fun q hq=>?_,h.ndO,?_,fun r hr q hq=>?_⟩
 .rcases zzw_.1 hq with hq|hq
  .exact h'.loose q hq
  .have:=List.mem_singleton.1 hq
   subst this
   exact⟨h.size,by simp,heap_alloc_new w _⟩
 .rw[List.pairwise_append]
  refine⟨h.ndL,by simp,fun a ha b hb=>?_⟩
  have:=List.mem_singleton.1 hb
  subst this
  exact(h.loose a ha).2.1
 .rcases zzw_.1 hq with hq|hq
  .exact h.ndOL r hr q hq
  .have:=List.mem_singleton.1 hq
   subst this
   intro e
   have:=((h.own r hr).lt _ e).2
   simp at this
theorem Bs.append{P:Program}(h:Bs w0 X O L w)(hX:X<w0.heap.size){j:Nat}{r:Orow}(hj:O[j]?=some r)(t ty:TypeId)(i:TypeInfo)(z:Value)(bytes:Nat)(ht:P.underlying t=some (.slice r.e))(hi:P.info? r.e=some i)(hz:i.zero=some z)
 (hsize:i.size=r.z) (hby:i.bytes=bytes) (hzs:z.cells.size=r.z) (hsz:0<r.z) {k:Nat} {cs:Array Value} {e':TypeId} (hk:(k,Obj.cells cs e' (0,0))∈L) (hl:cs.size=r.z) (h1:∀u∈cs.toList,u.oneCell'=true)
 (hn:r.n+1<=1000) (hb:bytes<=100000) :
 ∃g cap w',(Builtin.append_ #[t,t] ty #[r.v,.slice (some ⟨k,0,none⟩) 1 1]).run P w=.ok (.slice (some ⟨g,0,none⟩) (r.n+1) cap) w'/\Bs w0 X (O.set j ⟨.slice (some ⟨g,0,none⟩) (r.n+1) cap,r.e,r.z,r.n+1,r.xs++cs.toList⟩) L w'/\w'.heap[X]?=w.heap[X]?:=by
 obtain⟨k1,k2,k3⟩:=h.loose _ hk
 have hrm:r∈O:=zzd_ hj
 have hjl:=(zzc_.1 hj).1
 have hown:=h.own r hrm
 have hbb:(r.n+1)*bytes<=140737488355328:=by
  have:(r.n+1)*bytes<=1000*100000:=Nat.mul_le_mul hn hb
  omega
 obtain⟨g,cap,w',q1,q2,q3,q4,q5⟩:=run_append_lies (P:=P) w t ty w0.heap.size r.e i z r.z bytes ht hi hz hsize hby hzs hsz r.v r.n r.xs hown ⟨k,0,none⟩ 1 1 cs.toList (by simp[hl]) (World.news_of_block k3) h1 (by omega) (by simp[maxLen];omega) hbb h.size w.heap.size rfl
 have hrow:∀b,r.v.ownBlock=some b->w0.heap.size<=b:=fun b hb=>(hown.lt b hb).1
 have hkeep:∀b,b<w.heap.size->r.v.ownBlock≠some b->w'.heap[b]?=w.heap[b]?:=fun b hb hne=>q3.block b hb fun e=>hne e.symm
 have hob:∀c n' cap',(Value.slice (some ⟨c,0,none⟩) n' cap').ownBlock=some c:=fun _ _ _=>rfl
 -- the new row's block
 have hg:∀(i':Nat) (r':Orow),O[i']?=some r'->i'≠j->r'.v.ownBlock≠some g:=by
  intro i' r' hi' hne e
  rcases q4 with q4|q4
  .exact hne (h.ndO i' j r' r g hi' hj e q4)
  .have:=((h.own r' (zzd_ hi')).lt g e).2
   omega
 refine⟨g,cap,w',q1,⟨q3.os.trans h.os,q3.tape.trans h.tape,q3.output.trans h.output,yyd_ h.size q3.size,fun b hb' hx=>?_,fun r' hr'=>?_,fun q hq=>?_,fun i1 i2 r1 r2 b e1 e2 e3 e4=>?_,h.ndL,fun r' hr' q hq=>?_⟩,?_⟩
 .rw[hkeep b (zzk_ hb' h.size) (fun e=>by have:=hrow b e;omega)]
  exact h.old b hb' hx
 .obtain⟨i',hi'⟩:=List.mem_iff_getElem?.1 hr'
  rw[List.getElem?_set]at hi'
  split at hi'
  .cases hi'
   exact q2
  .next hne =>
   refine(h.own r' (zzd_ hi')).kept q3 ?_
   cases e1:r'.v.ownBlock with
   |none=>exact .inl rfl
   | some b =>
     refine .inr fun e2=>hne ?_
     exact(h.ndO i' j r' r b hi' hj e1 e2.symm).symm
 .obtain⟨a1,a2,a3⟩:=h.loose q hq
  exact⟨a1,zzk_ a2 q3.size,(hkeep q.1 a2 (h.ndOL r hrm q hq)).trans a3⟩
 .rw[List.getElem?_set]at e1 e2
  split at e1
  .next h1' =>
   split at e2
   .next h2'=>exact h1'.symm.trans h2'
   .next h2' =>
    cases e1
    rw[hob]at e3
    cases e3
    exact absurd e4 (hg i2 r2 e2 (Ne.symm h2'))
  .next h1' =>
   split at e2
   .next h2' =>
    cases e2
    rw[hob]at e4
    cases e4
    exact absurd e3 (hg i1 r1 e1 (Ne.symm h1'))
   .exact h.ndO i1 i2 r1 r2 b e1 e2 e3 e4
 .obtain⟨i',hi'⟩:=List.mem_iff_getElem?.1 hr'
  rw[List.getElem?_set]at hi'
  split at hi'
  .cases hi'
   rw[hob]
   rintro e
   cases e
   rcases q4 with q4|q4
   .exact h.ndOL r hrm q hq q4
   .have:=(h.loose q hq).2.1
    omega
  .exact h.ndOL r' (zzd_ hi') q hq
 .exact hkeep X (zzk_ hX h.size) fun e=>by have:=hrow X e;omega
theorem Bs.setX(h:Bs w0 X O L w)(hX:X<w0.heap.size)(o:Nat)(v:Value):Bs w0 X O L (w.setCell ⟨X,o,none⟩ v):=by
 have hb:∀k,k≠X->(w.setCell ⟨X,o,none⟩ v).heap[k]?=w.heap[k]?:=fun k hk=>by
  simp[World.setCell,yyu_,Ne.symm hk]
 have hs:(w.setCell ⟨X,o,none⟩ v).heap.size=w.heap.size:=by simp[World.setCell]
 refine⟨h.os,h.tape,h.output,by rw[hs];exact h.size,fun k hk hx=>(hb k hx).trans (h.old k hk hx),fun r hr=>?_,fun q hq=>?_,h.ndO,h.ndL,h.ndOL⟩
 .obtain⟨a,b⟩:=h.own r hr
  refine⟨a,?_⟩
  rcases b with b|⟨g,cap,cur,e1,e2,e3,e4⟩
  .exact .inl b
  .exact .inr ⟨g,cap,cur,e1,e2,(hb g (by omega)).trans e3,e4⟩
 .obtain⟨a1,a2,a3⟩:=h.loose q hq
  exact⟨a1,by rw[hs];exact a2,(hb q.1 (by omega)).trans a3⟩
theorem Bs.sub(h:Bs w0 X O L w){L':List (Nat×Obj)}(hs:L'.Sublist L):Bs w0 X O L' w :=
 ⟨h.os,h.tape,h.output,h.size,h.old,h.own,fun q hq=>h.loose q (hs.subset hq),h.ndO,h.ndL.sublist hs,fun r hr q hq=>h.ndOL r hr q (hs.subset hq)⟩
end
end Go.Proofs.Ytnbppaolinopeaa
namespace Go.Proofs.Ytnbppaolinopeaa
open Go.RowKit Go.Proofs
structure Fst0(i:Nat)(vs:Array Value):Prop where
 sz:vs.size=9
 one:∀v∈vs.toList,v.oneCell'=true
 rep:∀g w,Rep g w (rv ⟨0,false,false,[],newT i⟩) (.agg vs)
theorem s7_{g g':Gh}{w w':World}{z:Nat}{v:Value}(h:Rep g w (.list z []) v):Rep g' w' (.list z []) v:=by
 cases h with
 |list vals hc hm hA hz hi hcell hrep=>exact .list vals hc hm hA hz hi (fun j hj=>by simp[flat]at hj) (fun j u hu=>by simp[flat]at hu)
theorem m6_{g:Gh}{w:World}{i:Nat}{vs:Array Value}(h:Rep g w (rv ⟨0,false,false,[],newT i⟩) (.agg vs)):Fst0 i vs:=by
 obtain⟨h1,h2,h3⟩:=xW_ h
 refine⟨h1,h2,fun g' w'=>?_⟩
 cases h with
 | agg e1 e2 e3 =>
   refine .agg e1 e2 fun j u c hu hc=>?_
   have hr:=e3 j u c hu hc
   have hj:j<9:=by
    have:=(zzc_.1 hu).1
    simpa[rw_] using this
   match j,hj,hu with
   |0,_,hu=>cases hu;rw[hr.of_s rfl];exact .s rfl
   |1,_,hu=>cases hu;rw[hr.of_s rfl];exact .s rfl
   |2,_,hu=>cases hu;rw[hr.of_s rfl];exact .s rfl
   |3,_,hu=>cases hu;exact s7_ hr
   |4,_,hu=>cases hu;rw[hr.of_s rfl];exact .s rfl
   |5,_,hu=>cases hu;rw[hr.of_s rfl];exact .s rfl
   |6,_,hu=>cases hu;rw[hr.of_s rfl];exact .s rfl
   |7,_,hu=>cases hu;rw[hr.of_s rfl];exact .s rfl
   |8,_,hu=>cases hu;rw[hr.of_s rfl];exact .s rfl
theorem py_{g:Gh}{w:World}(hlt:∀k,0<g.I k->k<w.heap.size){n i:Nat}(h:1<=n/\n<=4/\i<n):Calls Try.prog 14 #[.int .i64 i,.int .i64 n] w fun e w'=>∃vs,e=.returned (.tuple #[.agg vs,.int .i64 0])/\Fst0 i vs/\Below w.heap.size w w':=by
 refine(xw_ (so_ i n h) (g:=g) (w:=w) (vals:=#[.int .i64 i,.int .i64 n]) rfl ?_ ?_ hlt).mono ?_
 .intro x hx
  simp at hx
  rcases hx with rfl|rfl<;>rfl
 .intro x u c hu hc
  match x,hu,hc with
  |0,hu,hc=>cases hu;cases hc;exact .s rfl
  |1,hu,hc=>cases hu;cases hc;exact .s rfl
 .rintro e w' ⟨v,r,g',rfl,rfl,hr,hbel,hg,hlt'⟩
  obtain⟨rs,rfl,hv⟩:=oV_ (g:=g) (w:=w) hr hbel hg hlt'
  exact⟨rs,rfl,m6_ hv.rb,hbel⟩
def mkO(n:Nat)(bv uv mv:Value)(p:Nat)(sts:Nat->Array Value)(rk:Nat->Nat):List Orow:=[⟨bv,37,9,p,(List.range p).flatMap fun i=>(sts i).toList⟩,⟨uv,4,1,p,List.replicate p (.bool true)⟩,⟨mv,66,1,p,(List.range p).map fun i=>.slice (some ⟨rk i,0,none⟩) n n⟩]
def nils(n:Nat):Array Value:=Array.replicate n (.slice none 0 0)
def mkL(n p:Nat)(rk:Nat->Nat):List (Nat×Obj):=(List.range p).map fun i=>(rk i,.cells (nils n) 58 (0,0))
structure Mk(w0:World)(X n p:Nat)(w:World):Prop where
 ex:∃bv uv mv sts rk,Bs w0 X (mkO n bv uv mv p sts rk) (mkL n p rk) w/\w.heap[X]?=some (.cells #[bv,uv,mv] 33 (0,0))/\∀i,i<p->Fst0 i (sts i)
theorem nz_{w0 V:World}{X n:Nat}{bv uv mv:Value}{p gb cb gu cu gm cm kr:Nat}{sts:Nat->Array Value}{rk:Nat->Nat}{vs:Array Value}{O:List Orow}{L:List (Nat×Obj)}(h:Bs w0 X O L V)
 (hx:V.heap[X]?=some (.cells #[.slice (some ⟨gb,0,none⟩) (p+1) cb,.slice (some ⟨gu,0,none⟩) (p+1) cu,.slice (some ⟨gm,0,none⟩) (p+1) cm] 33 (0,0)))
 (hO:O=(((mkO n bv uv mv p sts rk).set 0 ⟨.slice (some ⟨gb,0,none⟩) (p+1) cb,37,9,p+1,((List.range p).flatMap fun i=>(sts i).toList)++vs.toList⟩).set 1 ⟨.slice (some ⟨gu,0,none⟩) (p+1) cu,4,1,p+1,List.replicate p (.bool true)++[.bool true]⟩).set 2 ⟨.slice (some ⟨gm,0,none⟩) (p+1) cm,66,1,p+1,((List.range p).map fun i=>.slice (some ⟨rk i,0,none⟩) n n)++[.slice (some ⟨kr,0,none⟩) n n]⟩)
 (hL:∃R,L=mkL n p rk++R/\(kr,Obj.cells (nils n) 58 (0,0))∈R) (hs:∀i,i<p->Fst0 i (sts i)) (hv:Fst0 p vs):Mk w0 X n (p+1) V:=by
 obtain⟨R,rfl,hR⟩:=hL
 have e1:O=mkO n (.slice (some ⟨gb,0,none⟩) (p+1) cb) (.slice (some ⟨gu,0,none⟩) (p+1) cu) (.slice (some ⟨gm,0,none⟩) (p+1) cm) (p+1) (fun i=>if i=p then vs else sts i) fun i=>if i=p then kr else rk i:=by
  rw[hO]
  have h1:(List.range p).map (fun i=>Value.slice (some ⟨rk i,0,none⟩) n n)=(List.range p).map fun i=>Value.slice (some ⟨if i=p then kr else rk i,0,none⟩) n n:=by
   refine List.map_congr_left fun i hi=>?_
   have:=List.mem_range.1 hi
   rw[if_neg (by omega)]
  have h2:((List.range p).flatMap fun i=>(sts i).toList)=(List.range p).flatMap fun i=>(if i=p then vs else sts i).toList:=by
   rw[List.flatMap_def,List.flatMap_def]
   congr 1
   refine List.map_congr_left fun i hi=>?_
   have:=List.mem_range.1 hi
   rw[if_neg (by omega)]
  simp[mkO,List.range_succ,h1,h2,List.replicate_succ']
 have e2:mkL n (p+1) (fun i=>if i=p then kr else rk i)=mkL n p rk++[(kr,.cells (nils n) 58 (0,0))]:=by
  have h1:(List.range p).map (fun i=>((if i=p then kr else rk i,Obj.cells (nils n) 58 (0,0)):Nat×Obj))=(List.range p).map fun i=>(rk i,.cells (nils n) 58 (0,0)):=by
   refine List.map_congr_left fun i hi=>?_
   have:=List.mem_range.1 hi
   rw[if_neg (by omega)]
  simp[mkL,List.range_succ,h1]
 rw[e1]at h
 refine⟨_,_,_,_,_,h.sub ?_,hx,fun i hi=>?_⟩
 .rw[e2]
  exact List.Sublist.append (List.Sublist.refl _) (List.singleton_sublist.2 hR)
 .by_cases q:i=p
  .subst q;rw[if_pos rfl];exact hv
  .rw[if_neg q];exact hs i (by omega)
theorem xi_{n:Nat}(hn:n<=9){w:World}:(Instr.makeSlice 66 (.int .i64 n) (.int .i64 n)).run Try.prog w=.ok (.slice (some ⟨w.heap.size,0,none⟩) n n) (w.alloc (.cells (nils n) 58)):=by
 obtain⟨i0,hi0,hz0,hzs,hzb⟩:∃i0,Try.prog.info? 58=some i0/\i0.zero=some (.slice none 0 0)/\i0.size=1/\i0.bytes=24:=⟨_,rfl,by kernel_rfl,by kernel_rfl,by kernel_rfl⟩
 have:=run_make (P:=Try.prog) w 66 58 i0 _ Try.underlying66 hi0 hz0 .i64 .i64 n n (by omega) (Int.le_refl _) (by rw[hzb];omega) (by omega)
 rw[this]
 have e:madeCells (Value.slice none 0 0).cells ((n:Int).toNat*i0.size)=nils n:=by
  rw[hzs]
  simp[madeCells,nils,Value.cells]
  apply Array.ext
  .simp
  .intro i h1 h2
   simp[Nat.mod_one]
 rw[e]
 simp
def zR:Array Value:=#[.int .i64 0,.bool false,.bool false,.slice none 0 0,.bool false,.bool false,.bool false,.int .i64 0,.int .i64 0]
theorem xQ_(w:World){ms:Array Value}(h:ms.size=9):(Instr.buildSlice 29 1 #[(0,.agg ms)]).run Try.prog w=.ok (.slice (some ⟨w.heap.size,0,none⟩) 1 1) (w.alloc (.cells ms 37)):=by
 obtain⟨i0,hi0,hz0,hzs⟩:∃i0,Try.prog.info? 37=some i0/\i0.zero=some (.agg zR)/\i0.size=9:=⟨_,rfl,by kernel_rfl,by kernel_rfl⟩
 refine run_buildSlice (P:=Try.prog) w 29 37 1 #[(0,.agg ms)] ms i0 _ Try.underlying29 hi0 hz0 (by rw[hzs];decide) (by rw[hzs];decide) ?_
 rw[hzs]
 obtain⟨m0,m1,m2,m3,m4,m5,m6,m7,m8,rfl⟩:∃m0 m1 m2 m3 m4 m5 m6 m7 m8,ms=#[m0,m1,m2,m3,m4,m5,m6,m7,m8]:=by
  have hl:ms.toList.length=9:=by simpa using h
  match hv:ms.toList,hl with
  |[m0,m1,m2,m3,m4,m5,m6,m7,m8],_=>exact⟨m0,m1,m2,m3,m4,m5,m6,m7,m8,Array.ext' (by simpa using hv)⟩
 have hC:((Array.range (1*9)).map fun x=>(Value.agg zR).cells[x%(Value.agg zR).cells.size]!).size=9:=by simp
 generalize ((Array.range (1*9)).map fun x=>(Value.agg zR).cells[x%(Value.agg zR).cells.size]!)=C at hC
 obtain⟨c0,c1,c2,c3,c4,c5,c6,c7,c8,rfl⟩:∃c0 c1 c2 c3 c4 c5 c6 c7 c8,C=#[c0,c1,c2,c3,c4,c5,c6,c7,c8]:=by
  have hl:C.toList.length=9:=by simpa using hC
  match hv:C.toList,hl with
  |[c0,c1,c2,c3,c4,c5,c6,c7,c8],_=>exact⟨c0,c1,c2,c3,c4,c5,c6,c7,c8,Array.ext' (by simpa using hv)⟩
 simp[Instr.fill,Value.cells,List.zipIdx]
theorem qi_(w:World){t e:TypeId}{v z:Value}(ht:Try.prog.underlying t=some (.slice e)){i0:TypeInfo}(hi0:Try.prog.info? e=some i0)(hz0:i0.zero=some z)(hzs:i0.size=1)(hzc:z.cells.size=1)(hv:v.cells=#[v]):(Instr.buildSlice t 1 #[(0,v)]).run Try.prog w=.ok (.slice (some ⟨w.heap.size,0,none⟩) 1 1) (w.alloc (.cells #[v] e)):=by
 refine run_buildSlice (P:=Try.prog) w t e 1 #[(0,v)] #[v] i0 z ht hi0 hz0 (by rw[hzs];decide) (by rw[hzs];decide) ?_
 rw[hzs]
 have hC:((Array.range (1*1)).map fun x=>z.cells[x%z.cells.size]!).size=1:=by simp
 generalize ((Array.range (1*1)).map fun x=>z.cells[x%z.cells.size]!)=C at hC
 obtain⟨c0,rfl⟩:∃c0,C=#[c0]:=by
  have hl:C.toList.length=1:=by simpa using hC
  match hv:C.toList,hl with
  |[c0],_=>exact⟨c0,Array.ext' (by simpa using hv)⟩
 have hz:v.cells.zipIdx=#[(v,0)]:=by rw[hv];rfl
 have hvs:v.cells.size=1:=by rw[hv];rfl
 simp only[Instr.fill,hvs,hz]
 rfl
theorem xk_(w:World):(Instr.buildSlice 30 1 #[(0,.bool true)]).run Try.prog w=.ok (.slice (some ⟨w.heap.size,0,none⟩) 1 1) (w.alloc (.cells #[.bool true] 4)):=by
 obtain⟨i0,hi0,hz0,hzs⟩:∃i0,Try.prog.info? 4=some i0/\i0.zero=some (.bool false)/\i0.size=1:=⟨_,rfl,by kernel_rfl,by kernel_rfl⟩
 exact qi_ w Try.underlying30 hi0 hz0 hzs rfl rfl
theorem xj_(w:World)(k n:Nat):(Instr.buildSlice 31 1 #[(0,.slice (some ⟨k,0,none⟩) n n)]).run Try.prog w=.ok (.slice (some ⟨w.heap.size,0,none⟩) 1 1) (w.alloc (.cells #[.slice (some ⟨k,0,none⟩) n n] 66)):=by
 obtain⟨i0,hi0,hz0,hzs⟩:∃i0,Try.prog.info? 66=some i0/\i0.zero=some (.slice none 0 0)/\i0.size=1:=⟨_,rfl,by kernel_rfl,by kernel_rfl⟩
 exact qi_ w Try.underlying31 hi0 hz0 hzs rfl rfl
section
structure Nd(w0:World)(X n p:Nat)(bv uv mv:Value)(rk:Nat->Nat)(O:List Orow)(ks:List (Nat×Obj))(V:World):Prop where
 ex:∃Rr,Bs w0 X O (mkL n p rk++Rr) V/\∀q∈ks,q∈Rr
 x:V.heap[X]?=some (.cells #[bv,uv,mv] 33 (0,0))
section
variable{w0 w:World}{X n p:Nat}{bv uv mv:Value}{rk:Nat->Nat}{O:List Orow}{ks:List (Nat×Obj)}
theorem Nd.perm(h:Nd w0 X n p bv uv mv rk O ks w){ks':List (Nat×Obj)}(hs:∀q∈ks',q∈ks):Nd w0 X n p bv uv mv rk O ks' w:=by
 obtain⟨Rr,h1,h2⟩:=h.ex
 exact⟨⟨Rr,h1,fun q hq=>h2 q (hs q hq)⟩,h.x⟩
theorem Nd.s(h:Nd w0 X n p bv uv mv rk O ks w):w.cell? ⟨X,0,none⟩=some bv/\w.cell? ⟨X,1,none⟩=some uv/\w.cell? ⟨X,2,none⟩=some mv:=by
 have:=h.x
 simp[World.cell?,this]
theorem Nd.alloc(h:Nd w0 X n p bv uv mv rk O ks w)(hX:X<w0.heap.size)(cs:Array Value)(t:TypeId):∃V k,w.alloc (.cells cs t)=V/\w.heap.size=k/\Nd w0 X n p bv uv mv rk O ((k,.cells cs t (0,0))::ks) V:=by
 obtain⟨Rr,h1,h2⟩:=h.ex
 refine⟨_,_,rfl,rfl,⟨Rr++[(w.heap.size,.cells cs t (0,0))],?_,fun q hq=>?_⟩,(Below.heap_alloc w (.cells cs t) X (zzk_ hX h1.size)).trans h.x⟩
 .rw[<-List.append_assoc];exact h1.alloc cs t
 .rcases List.mem_cons.1 hq with hq|hq
  .subst hq;simp
  .exact zzw_.2 (.inl (h2 q hq))
theorem Nd.app(h:Nd w0 X n p bv uv mv rk O ks w)(hX:X<w0.heap.size){j:Nat}{r:Orow}(hj:O[j]?=some r)(t:TypeId)(i:TypeInfo)(z:Value)(bytes:Nat)(ht:Try.prog.underlying t=some (.slice r.e))(hi:Try.prog.info? r.e=some i)(hz:i.zero=some z)
 (hsize:i.size=r.z) (hby:i.bytes=bytes) (hzs:z.cells.size=r.z) (hsz:0<r.z) {k:Nat} {cs:Array Value} {e':TypeId} (hk:(k,Obj.cells cs e' (0,0))∈ks) (hl:cs.size=r.z) (h1:∀u∈cs.toList,u.oneCell'=true) (hn:r.n+1<=1000) (hb:bytes<=100000) :
 ∃g cap V,(∀ty,(Builtin.append_ #[t,t] ty #[r.v,.slice (some ⟨k,0,none⟩) 1 1]).run Try.prog w=.ok (.slice (some ⟨g,0,none⟩) (r.n+1) cap) V)/\Nd w0 X n p bv uv mv rk (O.set j ⟨.slice (some ⟨g,0,none⟩) (r.n+1) cap,r.e,r.z,r.n+1,r.xs++cs.toList⟩) ks V:=by
 obtain⟨Rr,h2,h3⟩:=h.ex
 obtain⟨g,cap,V,q1,q2,q3⟩:=h2.append (P:=Try.prog) hX hj t 0 i z bytes ht hi hz hsize hby hzs hsz (zzw_.2 (.inr (h3 _ hk))) hl h1 hn hb
 exact⟨g,cap,V,fun ty=>q1,⟨Rr,q2,h3⟩,q3.trans h.x⟩
end
theorem Nd.ap37{w0 w:World}{X n p q:Nat}{bv uv mv v:Value}{rk:Nat->Nat}{O:List Orow}{ks:List (Nat×Obj)}{xs:List Value}(h:Nd w0 X n p bv uv mv rk O ks w)(hX:X<w0.heap.size)(hj:O[0]?=some ⟨v,37,9,q,xs⟩){k:Nat}{cs:Array Value}(hk:(k,Obj.cells cs 37 (0,0))∈ks)(hl:cs.size=9)(h1:∀u∈cs.toList,u.oneCell'=true)(hn:q+1<=1000) :
 ∃g cap V,(∀ty,(Builtin.append_ #[29,29] ty #[v,.slice (some ⟨k,0,none⟩) 1 1]).run Try.prog w=.ok (.slice (some ⟨g,0,none⟩) (q+1) cap) V)/\Nd w0 X n p bv uv mv rk (O.set 0 ⟨.slice (some ⟨g,0,none⟩) (q+1) cap,37,9,q+1,xs++cs.toList⟩) ks V:=by
 obtain⟨i0,hi0,hz0,hzs,hzb⟩:∃i0,Try.prog.info? 37=some i0/\i0.zero=some (.agg zR)/\i0.size=9/\i0.bytes<=100000:=⟨_,rfl,by kernel_rfl,by kernel_rfl,by decide +kernel⟩
 exact h.app hX hj 29 i0 _ _ Try.underlying29 hi0 hz0 hzs rfl rfl (by simp) hk hl h1 hn hzb
theorem Nd.ap4{w0 w:World}{X n p q:Nat}{bv uv mv v:Value}{rk:Nat->Nat}{O:List Orow}{ks:List (Nat×Obj)}{xs:List Value}(h:Nd w0 X n p bv uv mv rk O ks w)(hX:X<w0.heap.size)(hj:O[1]?=some ⟨v,4,1,q,xs⟩){k:Nat}(hk:(k,Obj.cells #[.bool true] 4 (0,0))∈ks)(hn:q+1<=1000) :
 ∃g cap V,(∀ty,(Builtin.append_ #[30,30] ty #[v,.slice (some ⟨k,0,none⟩) 1 1]).run Try.prog w=.ok (.slice (some ⟨g,0,none⟩) (q+1) cap) V)/\Nd w0 X n p bv uv mv rk (O.set 1 ⟨.slice (some ⟨g,0,none⟩) (q+1) cap,4,1,q+1,xs++[.bool true]⟩) ks V:=by
 obtain⟨i0,hi0,hz0,hzs,hzb⟩:∃i0,Try.prog.info? 4=some i0/\i0.zero=some (.bool false)/\i0.size=1/\i0.bytes<=100000:=⟨_,rfl,by kernel_rfl,by kernel_rfl,by decide +kernel⟩
 exact h.app hX hj 30 i0 _ _ Try.underlying30 hi0 hz0 hzs rfl rfl (by simp) hk rfl (by intro u hu;simp at hu;subst hu;rfl) hn hzb
theorem Nd.ap66{w0 w:World}{X n p q kr:Nat}{bv uv mv v:Value}{rk:Nat->Nat}{O:List Orow}{ks:List (Nat×Obj)}{xs:List Value}(h:Nd w0 X n p bv uv mv rk O ks w)(hX:X<w0.heap.size)(hj:O[2]?=some ⟨v,66,1,q,xs⟩){k:Nat}(hk:(k,Obj.cells #[.slice (some ⟨kr,0,none⟩) n n] 66 (0,0))∈ks)(hn:q+1<=1000) :
 ∃g cap V,(∀ty,(Builtin.append_ #[31,31] ty #[v,.slice (some ⟨k,0,none⟩) 1 1]).run Try.prog w=.ok (.slice (some ⟨g,0,none⟩) (q+1) cap) V)/\Nd w0 X n p bv uv mv rk (O.set 2 ⟨.slice (some ⟨g,0,none⟩) (q+1) cap,66,1,q+1,xs++[.slice (some ⟨kr,0,none⟩) n n]⟩) ks V:=by
 obtain⟨i0,hi0,hz0,hzs,hzb⟩:∃i0,Try.prog.info? 66=some i0/\i0.zero=some (.slice none 0 0)/\i0.size=1/\i0.bytes<=100000:=⟨_,rfl,by kernel_rfl,by kernel_rfl,by decide +kernel⟩
 exact h.app hX hj 31 i0 _ _ Try.underlying31 hi0 hz0 hzs rfl rfl (by simp) hk rfl (by intro u hu;simp at hu;subst hu;rfl) hn hzb
theorem Nd.st{w0 w:World}{X n p:Nat}{bv uv mv:Value}{rk:Nat->Nat}{sts:Nat->Array Value}{vs:Array Value}{O:List Orow}{ks:List (Nat×Obj)}{gb cb gu cu gm cm kr:Nat}(h:Nd w0 X n p bv uv mv rk O ks w)(hX:X<w0.heap.size)
 (hO:O=(((mkO n bv uv mv p sts rk).set 0 ⟨.slice (some ⟨gb,0,none⟩) (p+1) cb,37,9,p+1,((List.range p).flatMap fun i=>(sts i).toList)++vs.toList⟩).set 1 ⟨.slice (some ⟨gu,0,none⟩) (p+1) cu,4,1,p+1,List.replicate p (.bool true)++[.bool true]⟩).set 2 ⟨.slice (some ⟨gm,0,none⟩) (p+1) cm,66,1,p+1,((List.range p).map fun i=>.slice (some ⟨rk i,0,none⟩) n n)++[.slice (some ⟨kr,0,none⟩) n n]⟩)
 (hk:(kr,Obj.cells (nils n) 58 (0,0))∈ks) (hs:∀i,i<p->Fst0 i (sts i)) (hv:Fst0 p vs) :
 ∃V7 V8 V9,(w.cell? ⟨X,0,none⟩=some bv/\w.frozen? ⟨X,0,none⟩=false)/\w.setCell ⟨X,0,none⟩ (.slice (some ⟨gb,0,none⟩) (p+1) cb)=V7/\(V7.cell? ⟨X,1,none⟩=some uv/\V7.frozen? ⟨X,1,none⟩=false)/\V7.setCell ⟨X,1,none⟩ (.slice (some ⟨gu,0,none⟩) (p+1) cu)=V8/\(V8.cell? ⟨X,2,none⟩=some mv/\V8.frozen? ⟨X,2,none⟩=false)/\V8.setCell ⟨X,2,none⟩ (.slice (some ⟨gm,0,none⟩) (p+1) cm)=V9/\Mk w0 X n (p+1) V9:=by
 obtain⟨Rr,hB,hks⟩:=h.ex
 have hx:=h.x
 have h7:=hB.setX hX 0 (.slice (some ⟨gb,0,none⟩) (p+1) cb)
 have x7:(w.setCell ⟨X,0,none⟩ (.slice (some ⟨gb,0,none⟩) (p+1) cb)).heap[X]?=some (.cells #[.slice (some ⟨gb,0,none⟩) (p+1) cb,uv,mv] 33 (0,0)):=by simp[World.setCell,yyu_,hx]
 have e7:∃V7,w.setCell ⟨X,0,none⟩ (.slice (some ⟨gb,0,none⟩) (p+1) cb)=V7:=⟨_,rfl⟩
 obtain⟨V7,e7⟩:=e7
 rw[e7]at h7 x7
 have h8:=h7.setX hX 1 (.slice (some ⟨gu,0,none⟩) (p+1) cu)
 have x8:(V7.setCell ⟨X,1,none⟩ (.slice (some ⟨gu,0,none⟩) (p+1) cu)).heap[X]?=some (.cells #[.slice (some ⟨gb,0,none⟩) (p+1) cb,.slice (some ⟨gu,0,none⟩) (p+1) cu,mv] 33 (0,0)):=by simp[World.setCell,yyu_,x7]
 obtain⟨V8,e8⟩:∃V8,V7.setCell ⟨X,1,none⟩ (.slice (some ⟨gu,0,none⟩) (p+1) cu)=V8:=⟨_,rfl⟩
 rw[e8]at h8 x8
 have h9:=h8.setX hX 2 (.slice (some ⟨gm,0,none⟩) (p+1) cm)
 have x9:(V8.setCell ⟨X,2,none⟩ (.slice (some ⟨gm,0,none⟩) (p+1) cm)).heap[X]?=some (.cells #[.slice (some ⟨gb,0,none⟩) (p+1) cb,.slice (some ⟨gu,0,none⟩) (p+1) cu,.slice (some ⟨gm,0,none⟩) (p+1) cm] 33 (0,0)):=by simp[World.setCell,yyu_,x8]
 refine⟨V7,V8,_,⟨by simp[World.cell?,hx],by simp[World.frozen?,hx]⟩,e7,⟨by simp[World.cell?,x7],by simp[World.frozen?,x7]⟩,e8,⟨by simp[World.cell?,x8],by simp[World.frozen?,x8]⟩,rfl,nz_ h9 x9 hO ⟨Rr,rfl,hks _ hk⟩ hs hv⟩
end
def tagF(n X bk ub mb:Nat)(rk:Nat->Nat)(k:Nat):Nat :=
 if k=X then 1 else if k=bk then 2 else if k=mb then 3 else if k=ub then 50 else match (List.range n).find? (fun i=>rk i==k) with|some i=>4+i|none=>0
def R0(n:Nat):Nat->RG.Rs:=fun s=>⟨0,false,false,[],RG.idT n 0 s⟩
theorem mE_{n:Nat}(i:Nat):RG.idT n 0 i=newT i:=by
 unfold RG.idT newT
 rw[Nat.zero_mod]
 by_cases h:(i:Int)=0
 .rw[if_pos (by simpa using h),if_pos rfl,if_pos h]
 .rw[if_neg (by simpa using h),if_neg h];rfl
theorem my_{g1:Gh}{w1 w0 w:World}{X n:Nat}(h:Mk w0 X n n w)(h1:1<=n)(h4:n<=4)(hX:X=w1.heap.size)(hb:Below w1.heap.size w1 w0)(h0:w0.heap.size=w1.heap.size+1)(hlt:∀k,0<g1.I k->k<w1.heap.size) :
 ∃T hd,Net T g1 w X n (R0 n) (fun _=>true) (fun _ _=>[]) hd/\(∀k,k<w1.heap.size->T k=0)/\Below w1.heap.size w1 w:=by
 obtain⟨bv,uv,mv,sts,rk,hB,hx,hsts⟩:=h.ex
 have ob:=hB.own _ (show _∈mkO n bv uv mv n sts rk from .head _)
 have ou':=hB.own _ (show _∈mkO n bv uv mv n sts rk from .tail _ (.head _))
 have om:=hB.own _ (show _∈mkO n bv uv mv n sts rk from .tail _ (.tail _ (.head _)))
 obtain⟨b1,b2⟩:=ob
 obtain⟨u1,u2⟩:=ou'
 obtain⟨m1,m2⟩:=om
 simp only at b1 b2 u1 u2 m1 m2
 rcases b2 with ⟨_,e⟩|⟨bk,bc,cb,rfl,bb,bh,bcn,bcm,bs,bt⟩
 .omega
 rcases u2 with ⟨_,e⟩|⟨ub,uc,cu,rfl,uu,uh,ucn,ucm,us,ut⟩
 .omega
 rcases m2 with ⟨_,e⟩|⟨mb,mc,cm,rfl,mm,mh,mcn,mcm,ms,mt⟩
 .omega
 have hrow:∀i,i<n->w0.heap.size<=rk i/\rk i<w.heap.size/\w.heap[rk i]?=some (.cells (nils n) 58 (0,0)):=fun i hi=>hB.loose (rk i,.cells (nils n) 58 (0,0)) (by simp[mkL];exact⟨i,hi,rfl⟩)
 have hinj:∀i j,i<n->j<n->rk i=rk j->i=j:=by
  have hp:=hB.ndL
  unfold mkL at hp
  rw[List.pairwise_map]at hp
  intro i j hi hj e
  rcases Nat.lt_trichotomy i j with h|h|h
  .have:=List.pairwise_iff_getElem.1 hp i j (by simpa using hi) (by simpa using hj) h
   simp at this
   omega
  .exact h
  .have:=List.pairwise_iff_getElem.1 hp j i (by simpa using hj) (by simpa using hi) h
   simp at this
   omega
 have hmem:∀i,i<n->(rk i,Obj.cells (nils n) 58 (0,0))∈mkL n n rk:=fun i hi=>by simp[mkL];exact⟨i,hi,rfl⟩
 have hbr:∀i,i<n->rk i≠bk:=fun i hi e=>hB.ndOL _ (show _∈mkO n _ _ _ n sts rk from .head _) _ (hmem i hi) (by simp[Value.ownBlock,e])
 have hur:∀i,i<n->rk i≠ub:=fun i hi e=>hB.ndOL _ (show _∈mkO n _ _ _ n sts rk from .tail _ (.head _)) _ (hmem i hi) (by simp[Value.ownBlock,e])
 have hmr:∀i,i<n->rk i≠mb:=fun i hi e=>hB.ndOL _ (show _∈mkO n _ _ _ n sts rk from .tail _ (.tail _ (.head _))) _ (hmem i hi) (by simp[Value.ownBlock,e])
 have hbm:mb≠bk:=fun e=>by
  have:=hB.ndO 0 2 _ _ bk rfl rfl rfl (by simp[Value.ownBlock,e])
  omega
 have hbu:ub≠bk:=fun e=>by
  have:=hB.ndO 0 1 _ _ bk rfl rfl rfl (by simp[Value.ownBlock,e])
  omega
 have hmu:ub≠mb:=fun e=>by
  have:=hB.ndO 1 2 _ _ ub rfl rfl rfl (by simp[Value.ownBlock,e])
  omega
 have hXlt:X<w0.heap.size:=by omega
 have hT0:∀k,k<w1.heap.size->tagF n X bk ub mb rk k=0:=by
  intro k hk
  unfold tagF
  rw[if_neg (by omega),if_neg (by omega),if_neg (by omega),if_neg (by omega)]
  cases e:(List.range n).find? (fun i=>rk i==k) with
  |none=>rfl
  | some i =>
    have h1:=List.find?_some e
    have h2:=List.mem_range.1 (List.mem_of_find?_eq_some e)
    have:=(hrow i h2).1
    simp at h1
    omega
 have hgb:∀k,k<w1.heap.size->w.heap[k]?=w1.heap[k]?:=fun k hk=>(hB.old k (by omega) (by omega)).trans (hb.block k hk)
 refine⟨tagF n X bk ub mb rk,⟨bk,bc,ub,uc,mb,mc,rk,fun _=>n,fun _ _=>.slice none 0 0⟩,⟨h4,fun k hk=>by have:=hlt k hk;have:=hB.size;omega,⟨?_,?_,?_,?_,fun i hi=>?_,fun i j k _ _ hk=>by simp[rb]at hk⟩,fun k hk=>?_,hx,⟨bcn,bcm⟩,⟨mcn,mcm⟩,fun i _=>⟨zzl_ _,by simp[maxLen];omega⟩,⟨cb,bh,bs,fun i hi j u hu=>?_⟩,⟨cu,uh,fun i hi=>?_⟩,⟨cm,mh,fun i hi=>?_⟩,fun i hi=>⟨nils n,(hrow i hi).2.2,fun j hj=>by simp[nils,hj]⟩,fun i j _ _=>.inl ⟨rfl,none,rfl⟩⟩,hT0,⟨hB.os.trans hb.os,hB.tape.trans hb.tape,hB.output.trans hb.output,yyd_ hb.size hB.size,hgb⟩⟩
 .simp[tagF]
 .show tagF n X bk ub mb rk bk=2
  unfold tagF
  rw[if_neg (by omega),if_pos rfl]
 .show tagF n X bk ub mb rk ub=50
  unfold tagF
  rw[if_neg (by omega),if_neg hbu,if_neg hmu,if_pos rfl]
 .show tagF n X bk ub mb rk mb=3
  unfold tagF
  rw[if_neg (by omega),if_neg hbm,if_pos rfl]
 .show tagF n X bk ub mb rk (rk i)=4+i
  have:=(hrow i hi).1
  unfold tagF
  rw[if_neg (by omega),if_neg (hbr i hi),if_neg (hmr i hi),if_neg (hur i hi)]
  cases e:(List.range n).find? (fun a=>rk a==rk i) with
  | none =>
    have:=List.find?_eq_none.1 e i (List.mem_range.2 hi)
    simp at this
  | some a =>
    have h1:=List.find?_some e
    have h2:=List.mem_range.1 (List.mem_of_find?_eq_some e)
    simp at h1
    rw[hinj a i h2 hi h1]
 .have hk1:¬k<w1.heap.size:=fun h=>hk (hT0 k h)
  refine⟨?_,?_⟩
  .unfold tagF at hk
   split at hk
   .next e=>rw[e];exact zzk_ hXlt hB.size
   .split at hk
    .next e=>rw[e];exact(zzm_.1 bh).1
    .split at hk
     .next e=>rw[e];exact(zzm_.1 mh).1
     .split at hk
      .next e=>rw[e];exact(zzm_.1 uh).1
      .split at hk
       .next i e =>
        have h1:=List.find?_some e
        have h2:=List.mem_range.1 (List.mem_of_find?_eq_some e)
        simp at h1
        rw[<-h1]
        exact(hrow i h2).2.1
       .exact absurd rfl hk
  .by_cases h:0<g1.I k
   .exact absurd (hlt k h) hk1
   .omega
 ·have hj:j<9:=by
   have:=(zzc_.1 hu).1
   simpa[sc,rw_] using this
  have hst:=hsts i hi
  have hflat:((List.range n).flatMap fun i=>(sts i).toList)[i*9+j]?=(sts i).toList[j]?:=by
   have hlen:∀q,((List.range q).flatMap fun i=>(if i<n then (sts i).toList else List.replicate 9 (Value.bool false))).length=q*9:=fun q=>by
    rw[uA_ (z:=9) (f:=fun i=>(if i<n then (sts i).toList else List.replicate 9 (Value.bool false))) (fun x=>by
     by_cases hx:x<n
     .rw[if_pos hx];simpa using(hsts x hx).sz
     .rw[if_neg hx];simp)]
    simp
   have e1:((List.range n).flatMap fun i=>(sts i).toList)=(List.range n).flatMap fun i=>(if i<n then (sts i).toList else List.replicate 9 (Value.bool false)):=by
    rw[List.flatMap_def,List.flatMap_def]
    congr 1
    refine List.map_congr_left fun x hx=>?_
    rw[if_pos (List.mem_range.1 hx)]
   rw [e1, vz_ (z := 9) (f := fun i => (if i < n then (sts i).toList else List.replicate 9 (Value.bool false))) (fun x => by
       by_cases hx:x<n
       .rw[if_pos hx];simpa using(hsts x hx).sz
       .rw[if_neg hx];simp) (List.range n) i (by simpa using hi) j hj]
   simp only[List.getElem_range]
   rw[if_pos hi]
  have hc9:(sts i).toList[j]?=some ((sts i).toList[j]'(by simp;have:=hst.sz;omega)):=zzf_ _
  have hcell:cb[i*9+j]?=(sts i).toList[j]?:=by
   rw[<-hflat,<-bt,zzu_,if_pos (by omega),Array.getElem?_toList]
  refine⟨_,hcell.trans hc9,hst.one _ (yyp_ _),?_⟩
  have hrep:=hst.rep g1 w
  have hv:=(xW_ hrep).2.2 j u _ (by
   have:R0 n i=⟨0,false,false,[],newT i⟩:=by unfold R0;rw[mE_]
   rw[this]at hu
   exact hu) hc9
  exact hv
 .have h1:(List.replicate n (Value.bool true))[i]?=some (.bool true):=by simp[hi]
  rw[<-ut,zzu_,if_pos (by omega),Array.getElem?_toList]at h1
  exact h1
 .have h1:((List.range n).map fun i=>Value.slice (some ⟨rk i,0,none⟩) n n)[i]?=some (.slice (some ⟨rk i,0,none⟩) n n):=by simp[hi]
  rw[<-mt,zzu_,if_pos (by omega),Array.getElem?_toList]at h1
  exact h1
theorem pB_{n m:Int}(h:0<m):(n.tmod m<0/\n.tmod m+m=n%m)\/(¬n.tmod m<0/\n.tmod m=n%m):=by
 rw[Int.tmod_eq_emod]
 have hb:=Int.emod_nonneg n (b:=m) (by omega)
 have hc:=Int.emod_lt_of_pos n h
 split
 .right;omega
 .left;omega
theorem n3_(n m:Int)(h1:1<=m)(h2:m<=4611686018427387904):PC Try.prog 12 [.s (.int .i64 n),.s (.int .i64 m)] (fun r=>r=.s (.int .i64 (n%m))):=by
 refine zx_ c12 zN_ rfl ?_
 have e1:¬m<1:=by omega
 have e2:¬m=0:=by omega
 have hb:=Int.emod_nonneg n (b:=m) (by omega)
 have hc:=Int.emod_lt_of_pos n (b:=m) (by omega)
 rcases pB_ (n:=n) (m:=m) (by omega) with ⟨h3,h4⟩|⟨h3,h4⟩
 .have e3:IntKind.i64.wrap (n%m)=n%m:=vL_ (by omega)
  simp -implicitDefEqProofs [a12,F12,e1,e2,h3,h4,e3]
 .have h5:¬n%m<0:=by omega
  simp -implicitDefEqProofs [a12,F12,e1,e2,h4,h5]
def nxt(xs:List Int)(k:Nat)(m:Int):Int:=if h:k<xs.length then xs[k]%m else 0
def nat1(xs:List Int)(k:Nat):Nat:=if k<xs.length then k+1 else k
theorem mt_(xs:List Int)(k:Nat){m:Int}(h:0<m):0<=nxt xs k m/\nxt xs k m<m:=by
 unfold nxt
 split
 .exact⟨Int.emod_nonneg _ (by omega),Int.emod_lt_of_pos _ h⟩
 .exact⟨Int.le_refl _,h⟩
theorem qR_{xs:List Int}{k:Nat}(h:k<=xs.length):nat1 xs k<=xs.length/\k<=nat1 xs k:=by unfold nat1;split<;>omega
theorem sk_:∀(l:List Int),flat (iv l)=l.map fun x=>.s (.int .i64 x)
 |[]=>rfl
 | x :: r => by
   have:=sk_ r
   simp only[iv,List.map_cons,flat]at this ⊢
   rw[this]
   rfl
theorem uv_{g:Gh}{w:World}{l:List Int}{v:Value}(h:Rep g w (.list 1 (iv l)) v):∃A c,v=.slice A l.length c/\l.length<=c/\c<=maxLen/\∀p (hp:p<l.length),∃b o,A=some ⟨b,o,none⟩/\0<g.I b/\w.cell? ⟨b,o+p,none⟩=some (.int .i64 l[p]):=by
 cases h with
 | list vals hc hm hA hz hi hcell hrep =>
   refine⟨_,_,by rw[iv_length],by rw[iv_length]at hc;exact hc,hm,fun p hp=>?_⟩
   have hj:p<(flat (iv l)).length:=by rw[sk_,List.length_map];exact hp
   obtain⟨b,q,r1,r2,r3⟩:=hcell p hj
   have:=(hrep p (.s (.int .i64 l[p])) (by rw[sk_,zzs_,zzf_ hp];rfl)).of_s rfl
   exact⟨b,q,r1,by omega,by rw[r3,this]⟩
structure Tp(g:Gh)(w:World)(K:Nat)(xs:List Int)(k:Nat):Prop where
 ex:∃lv ty,w.heap[K]?=some (.cells #[lv,.int .i64 k] ty (0,0))/\Rep g w (.list 1 (iv xs)) lv
 Ilt:∀b,0<g.I b->b<w.heap.size
 IK:g.I K=0
structure Kt(K:Nat)(g:Gh)(w:World)(g':Gh)(w':World):Prop where
 os:w'.os=w.os
 tape:w'.tape=w.tape
 output:w'.output=w.output
 size:w.heap.size<=w'.heap.size
 fr:∀k,k<w.heap.size->k≠K->w'.heap[k]?=w.heap[k]?
 same:∀k,k<w.heap.size->g'.I k=g.I k
theorem ry_{g:Gh}{w:World}{K:Nat}{xs:List Int}{k:Nat}(h:Tp g w K xs k)(hk:k<=1000)(hx:xs.length<=1000):Calls Try.prog 16 #[.pointer (some ⟨K,0,none⟩)] w fun e w'=>e=.returned (.bool (decide (k<xs.length)))/\Below w.heap.size w w':=by
 obtain⟨lv,ty,h1,h2⟩:=h.ex
 obtain⟨A,c,rfl,hc1,hc2,_⟩:=uv_ h2
 have c0:w.cell? ⟨K,0,none⟩=some (.slice A xs.length c):=by simp[World.cell?,h1]
 have c1:w.cell? ⟨K,1,none⟩=some (.int .i64 k):=by simp[World.cell?,h1]
 have hd:decide ((k:Int)<(xs.length:Int))=decide (k<xs.length):=by
  rw[Bool.eq_iff_iff];simp
 clear h h1 h2
 go_enter Try.func16,Try.ntmps16
 go_wp2
 go_region
 go_wp2
 go_ret
 exact⟨by first|rfl|(rw[hd];rfl),⟨rfl,rfl,rfl,zzl_ _,fun _ _=>rfl⟩⟩
theorem rv_{g:Gh}{w:World}{K:Nat}{xs:List Int}{k:Nat}(h:Tp g w K xs k)(hk:k<=1000)(hx:xs.length<=1000){m:Int}(hm:1<=m)(hm2:m<=1000000):Calls Try.prog 18 #[.pointer (some ⟨K,0,none⟩),.int .i64 m] w fun e w'=>∃g',e=.returned (.int .i64 (nxt xs k m))/\Tp g' w' K xs (nat1 xs k)/\Kt K g w g' w':=by
 obtain⟨lv,ty,h1,h2⟩:=h.ex
 obtain⟨A,c,rfl,hc1,hc2,hcell⟩:=uv_ h2
 have c0:w.cell? ⟨K,0,none⟩=some (.slice A xs.length c):=by simp[World.cell?,h1]
 have c1:w.cell? ⟨K,1,none⟩=some (.int .i64 k):=by simp[World.cell?,h1]
 have cf:w.frozen? ⟨K,1,none⟩=false:=by simp[World.frozen?,h1]
 have HT:=Lib.hid h
 have H1:=Lib.hid h1
 have H2:=Lib.hid h2
 by_cases hlt:k<xs.length
 .have hg:¬(k:Int)>=(xs.length:Int):=by omega
  obtain⟨b,o,rfl,hbI,hcb⟩:=hcell k hlt
  have w1:IntKind.i64.wrap ((k:Int)+1)=(k:Int)+1:=by rw[yye_];omega
  have w2:IntKind.i64.wrap ((k:Int)+1-1)=(k:Int):=by rw[yye_];omega
  have w3:(k:Int)+1-1=k:=by omega
  have w4:IntKind.i64.wrap (k:Int)=(k:Int):=by rw[yye_];omega
  have hkz:(k:Int)<xs.length:=by omega
  have hbK:b≠K:=by rintro rfl;have:=h.IK;omega
  have h1d:w.drew.heap[K]?=some (.cells #[.slice (some ⟨b,o,none⟩) xs.length c,.int .i64 k] ty (0,0)):=h1
  obtain⟨W,hW⟩:∃W,w.drew.setCell ⟨K,1,none⟩ (.int .i64 ((k:Int)+1))=W:=⟨_,rfl⟩
  have k0:W.heap[K]?=some (.cells #[.slice (some ⟨b,o,none⟩) xs.length c,.int .i64 ((k:Int)+1)] ty (0,0)):=by rw[<-hW];simp[World.setCell,yyu_,h1d]
  have kf:∀j,j≠K->W.heap[j]?=w.heap[j]?:=fun j hj=>by
   show _=w.drew.heap[j]?
   rw[<-hW];simp[World.setCell,yyu_,Ne.symm hj]
  have ks:W.heap.size=w.heap.size:=by
   show _=w.drew.heap.size
   rw[<-hW];simp[World.setCell]
  have ko:W.os=w.os/\W.tape=w.tape/\W.output=w.output:=by rw[<-hW];exact⟨rfl,rfl,rfl⟩
  have d0:W.cell? ⟨K,0,none⟩=some (.slice (some ⟨b,o,none⟩) xs.length c):=by simp[World.cell?,k0]
  have d1:W.cell? ⟨K,1,none⟩=some (.int .i64 ((k:Int)+1)):=by simp[World.cell?,k0]
  have d2:W.cell? ⟨b,o+k,none⟩=some (.int .i64 xs[k]):=(yyb_ (a:=⟨b,o+k,none⟩) (kf b hbK)).trans hcb
  have hcall:∀wx:World,W.heap.size<=wx.heap.size->Calls Try.prog 12 #[.int .i64 xs[k],.int .i64 m] wx fun e w'=>e=.returned (.int .i64 (xs[k]%m))/\Below wx.heap.size wx w':=by
   intro wx hwx
   refine(xw_ (n3_ xs[k] m hm (by omega)) (g:=g) (w:=wx) (vals:=#[.int .i64 xs[k],.int .i64 m]) rfl ?_ ?_ fun b' hb'=>?_).mono ?_
   .intro x hx'
    simp at hx'
    rcases hx' with rfl|rfl<;>rfl
   .intro i x v hx' hv
    match i,hx',hv with
    |0,hx',hv=>cases hx';cases hv;exact .s rfl
    |1,hx',hv=>cases hx';cases hv;exact .s rfl
   .have:=h.Ilt b' hb'
    omega
   .rintro e w' ⟨v,r,g',rfl,rfl,hr,hb',_⟩
    have:=hr.of_s rfl
    subst this
    exact⟨rfl,hb'⟩
  have HC:=Lib.hid hcall
  clear h h1 h2 hcell hcall
  have e0:w.drew.cell? ⟨K,0,none⟩=some (.slice (some ⟨b,o,none⟩) xs.length c):=c0
  have e1:w.drew.cell? ⟨K,1,none⟩=some (.int .i64 k):=c1
  have ef:w.drew.frozen? ⟨K,1,none⟩=false:=cf
  go_enter Try.func18,Try.ntmps18
  go_wp2
  go_region
  go_wp2
  have hKl:K<W.heap.size:=(zzm_.1 k0).1
  have hbl:b<W.heap.size:=by rw[ks];exact HT.out.Ilt b hbI
  have hS:∀wx,Below W.heap.size W wx->wx.cell? ⟨K,0,none⟩=some (.slice (some ⟨b,o,none⟩) xs.length c)/\wx.cell? ⟨K,1,none⟩=some (.int .i64 ((k:Int)+1))/\wx.cell? ⟨b,o+k,none⟩=some (.int .i64 xs[k]):=fun wx hb=>⟨xd_ hb d0 hKl,xd_ hb d1 hKl,xd_ hb d2 hbl⟩
  have hB1:Below W.heap.size W W.drew:=⟨rfl,rfl,rfl,zzl_ _,fun _ _=>rfl⟩
  have HS:=Lib.hid hS
  clear hS
  go_region_held3 (fun wx=>wx.cell? ⟨K,0,none⟩=some (.slice (some ⟨b,o,none⟩) xs.length c)/\wx.cell? ⟨K,1,none⟩=some (.int .i64 ((k:Int)+1))/\wx.cell? ⟨b,o+k,none⟩=some (.int .i64 xs[k]))
   ((refine HS.out _ ?_;assumption))
   (first
   | (go_at_call 12
      refine(HC.out W.drew (zzl_ _)).mono ?_
      rintro e w2 ⟨rfl,hb2⟩
      have hB2:Below W.heap.size W w2:=hB1.trans hb2))
  all_goals go_wp2
  all_goals go_ret
  all_goals
   have hnx:nxt xs k m=xs[k]%m:=by simp[nxt,hlt]
   have hn1:nat1 xs k=k+1:=by simp[nat1,hlt]
   have hfr:∀j,j<w.heap.size->j≠K->w2.heap[j]?=w.heap[j]?:=fun j hj hne=>(hB2.block j (by omega)).trans (kf j hne)
   refine⟨g,by rw[hnx];rfl,⟨⟨.slice (some ⟨b,o,none⟩) xs.length c,ty,?_,?_⟩,fun b' hb'=>?_,HT.out.IK⟩,⟨hB2.os.trans ko.1,hB2.tape.trans ko.2.1,hB2.output.trans ko.2.2,by have:=hB2.size;omega,hfr,fun _ _=>rfl⟩⟩
   .rw[hB2.block K hKl,k0,hn1];rfl
   .refine zO_ H2.out rfl fun b' o' ho=>⟨ho,yyb_ (a:=⟨b',o',none⟩) (hfr b' (HT.out.Ilt b' (by omega)) ?_)⟩
    rintro rfl
    have:=HT.out.IK
    omega
   .have:=HT.out.Ilt b' hb'
    have:=hB2.size
    omega
 .have hg:(k:Int)>=(xs.length:Int):=by omega
  clear h h1 h2 hcell
  go_enter Try.func18,Try.ntmps18
  go_wp2
  go_region
  go_wp2
  go_ret
  have hnx:nxt xs k m=0:=by simp[nxt,hlt]
  have hn1:nat1 xs k=k:=by simp[nat1,hlt]
  refine⟨g,by rw[hnx];rfl,⟨⟨_,ty,by rw[hn1];exact H1.out,zO_ H2.out rfl fun b' o' ho=>⟨ho,rfl⟩⟩,HT.out.Ilt,HT.out.IK⟩,⟨rfl,rfl,rfl,zzl_ _,fun _ _ _=>rfl,fun _ _=>rfl⟩⟩
end Go.Proofs.Ytnbppaolinopeaa
namespace Go.Proofs.Ytnbppaolinopeaa.RG
inductive Rch(n:Nat):Nat->(Nat->Rs)->(Nat->Bool)->(Nat->Nat->List Rm)->Prop
 |start:Rch n 0 (fun s=>⟨0,false,false,[],idT n 0 s⟩) (fun _=>true) (fun _ _=>[])
 |step {j:Nat} {R R':Nat->Rs} {U U':Nat->Bool} {M M':Nat->Nat->List Rm} (h:Rch n j R U M) (hs:Stp n R U M R' U' M'):Rch n (j+1) R' U' M'
section
variable{n j:Nat}{R R':Nat->Rs}{U U':Nat->Bool}{M M':Nat->Nat->List Rm}{D:Id}{E:Nat}
theorem Rch.gi(h:Rch n j R U M)(h1:1<=n)(h4:n<=4):∃D,GI n R M D (4*j):=by
 induction h with
 |start=>exact⟨_,.start h1 h4⟩
 | step h hs ih =>
   obtain⟨D,hD⟩:=ih
   obtain⟨D',h'⟩:=hD.stp hs
   exact⟨D',by rw[Nat.mul_add];exact h'⟩
theorem qt_(M:Nat->Nat->List Rm)(i:Nat)(x:Int×Rm)(a b:Nat):(put1 M i x a b).length<=(M a b).length+1:=by
 unfold put1
 split
 .rw[zzr_];exact zzl_ _
 .omega
theorem wj_(i:Nat)(a b:Nat):∀(o:Out) (M:Nat->Nat->List Rm),(put M i o a b).length<=(M a b).length+o.length
 |[],M=>zzl_ _
 | x :: r, M => by
   have h1:=wj_ i a b r (put1 M i x)
   have h2:=qt_ M i x a b
   show (put (put1 M i x) i r a b).length<=_
   rw[List.length_cons]
   omega
theorem qz_(M:Nat->Nat->List Rm)(i j a b:Nat):(pop M i j a b).length<=(M a b).length:=by
 unfold pop
 split
 .rw[List.length_tail];omega
 .exact zzl_ _
theorem Stp.len(hG:GI n R M D E)(hs:Stp n R U M R' U' M')(a b:Nat):(M' a b).length<=(M a b).length+4:=by
 cases hs with
 |idle=>omega
 | hear hi hj hu hM he =>
   have ho:=(hG.inv.hear_out (E:=E) hi hj hM he).len
   rename_i i j m l r o
   have h1:=wj_ j a b o (pop M i j)
   have h2:=qz_ M i j a b
   omega
 | drop hi hj hu hM he =>
   rename_i i j m l
   have:=qz_ M i j a b
   omega
 |crash hi hu=>omega
 |restart hi hu=>omega
 | begin hi hu =>
   rename_i i
   have h1:=wj_ i a b (beginR n i (R i)).2 M
   have:=(begin_out (n:=n) (s:=i) (E:=E) hG.inv.n4 (R i)).len
   omega
 | done hi hu hh =>
   rename_i i
   have h1:=wj_ i a b (doneR (R i)).2 M
   have:=(hG.inv.done_out (E:=E) hi hh).len
   omega
 | want hi hu h1 h2 h3 =>
   rename_i i
   have h4:=wj_ i a b (wantR (R i) i).2 M
   have:=(hG.inv.want_out (E:=E) hi h1 h2 h3).len
   omega
theorem Rch.len(h:Rch n j R U M)(h1:1<=n)(h4:n<=4):∀a b,(M a b).length<=4*j:=by
 induction h with
 |start=>intro a b;simp
 | step h hs ih =>
   obtain⟨D,hD⟩:=h.gi h1 h4
   intro a b
   have:=hs.len hD a b
   have:=ih a b
   omega
theorem RInv.has_holds(h:RInv n R M D){s:Nat}(hs:s<n)(hh:(R s).tk.has=true):(R s).holds=true:=by
 unfold Rs.holds
 have h1:(R s).lost=false:=by
  cases q:(R s).lost
  .rfl
  .rw[(h.gone s hs q).2]at hh;cases hh
 have h2:(R s).ask=false:=by
  cases q:(R s).ask
  .rfl
  .have:=(h.tok2 hs q).wh rfl
   simp only at this
   rw[hh]at this;cases this
 rw[hh,h1,h2]
 rfl
theorem GI.one(h:GI n R M D E){s x:Nat}(hs:s<n)(hx:x<n)(h1:(R s).tk.has=true)(h2:(R x).tk.has=true):s=x :=
 h.inv.one hs hx (h.inv.has_holds hs h1) (h.inv.has_holds hx h2)
end
end Go.Proofs.Ytnbppaolinopeaa.RG
namespace Go.Proofs.Ytnbppaolinopeaa
open Go.RowKit Go.Proofs
section
theorem Net.other{T:Nat->Nat}{g g':Gh}{w w':World}{X n K:Nat}{R:Nat->RG.Rs}{U:Nat->Bool}{M:Nat->Nat->List RG.Rm}{h:Hd}(hn:Net T g w X n R U M h)(hT:T K=0)(hK:g.I K=0)(hs:w.heap.size<=w'.heap.size)(hb:∀k,k<w.heap.size->k≠K->w'.heap[k]?=w.heap[k]?)(hg:∀k,k<w.heap.size->g'.I k=g.I k)(hlt:∀k,0<g'.I k->k<w'.heap.size):Net T g' w' X n R U M h:=by
 have hTK:∀k,T k≠0->k≠K:=fun k h0 e=>h0 (e ▸ hT)
 have hI:∀b o,o<g.I b->o<g'.I b/\w'.cell? ⟨b,o,none⟩=w.cell? ⟨b,o,none⟩:=fun b o ho=>by
  have hl:=hn.Ilt b (by omega)
  exact⟨by rw[hg b hl];exact ho,yyb_ (a:=⟨b,o,none⟩) (hb b hl (by rintro rfl;omega))⟩
 have hTb:∀k,T k≠0->w'.heap[k]?=w.heap[k]?:=fun k hk=>hb k (hn.tz k hk).1 (hTK k hk)
 refine⟨hn.n9,hlt,hn.tag,fun k hk=>⟨zzk_ (hn.tz k hk).1 hs,by rw[hg k (hn.tz k hk).1];exact(hn.tz k hk).2⟩,(hTb X (by rw[hn.tag.x];omega)).trans hn.hX,hn.bcn,hn.mcn,hn.rcn,?_,?_,?_,fun i hi=>?_,fun i j hi hj=>?_⟩
 .obtain⟨cur,h1,h2,h3⟩:=hn.bb
  refine⟨cur,(hTb _ (by rw[hn.tag.b];omega)).trans h1,h2,fun i hi j u hu=>?_⟩
  obtain⟨c,q1,q2,q3⟩:=h3 i hi j u hu
  exact⟨c,q1,q2,zO_ q3 (wU_ _ u (zzd_ hu)) hI⟩
 .obtain⟨cur,h1,h2⟩:=hn.uu
  exact⟨cur,(hTb _ (by rw[hn.tag.u];omega)).trans h1,h2⟩
 .obtain⟨cur,h1,h2⟩:=hn.mm
  exact⟨cur,(hTb _ (by rw[hn.tag.m];omega)).trans h1,h2⟩
 .obtain⟨cur,h1,h2⟩:=hn.rr i hi
  exact⟨cur,(hTb _ (by rw[hn.tag.r i hi];omega)).trans h1,h2⟩
 .exact(hn.vv i j hi hj).keep fun k hk=>hTb k (by rw[hn.tag.v i j k hi hj hk];omega)
theorem tM_(R:Nat->RG.Rs)(U:Nat->Bool):∀m,(∀i,i<m->¬(U i=true/\(R i).tk.has=true))->cntT R U m=0
 |0,_=>rfl
 | m + 1, h => by
   rw[cntT,tM_ R U m fun i hi=>h i (by omega),if_neg (h m (by omega))]
theorem ra_(R:Nat->RG.Rs)(U:Nat->Bool):∀m,(∀i k,i<m->k<m->(R i).tk.has=true->(R k).tk.has=true->i=k)->cntT R U m<=1
 |0,_=>by simp[cntT]
 | m + 1, h => by
   by_cases q:U m=true/\(R m).tk.has=true
   .rw[cntT,if_pos q,tM_ R U m fun i hi hh=>by have:=h i m (by omega) (by omega) hh.2 q.2;omega]
    omega
   .rw[cntT,if_neg q]
    exact ra_ R U m fun i k hi hk=>h i k (by omega) (by omega)
theorem mo_{T:Nat->Nat}{g:Gh}{w:World}{X n:Nat}{R:Nat->RG.Rs}{U:Nat->Bool}{M:Nat->Nat->List RG.Rm}{h:Hd}{D:RG.Id}{E:Nat}(hn:Net T g w X n R U M h)(hG:RG.GI n R M D E)(hE:E<=1073741824) :
 Calls Try.prog 19 #[.pointer (some ⟨X,0,none⟩)] w fun e w'=>e=.returned (.bool true)/\Below w.heap.size w w':=by
 refine(qK_ hn fun s hs _=>hG.inv.ok hs (yyd_ (hG.bd s hs) hE)).mono ?_
 rintro e w' ⟨rfl,hb⟩
 exact⟨by rw[decide_eq_true (ra_ R U n fun i k hi hk h1 h2=>hG.one hi hk h1 h2)],hb⟩
structure Pl(g:Gh)(w:World)(K X n:Nat)(xs:List Int)(k j:Nat)(R:Nat->RG.Rs)(U:Nat->Bool)(M:Nat->Nat->List RG.Rm)(T:Nat->Nat)(g':Gh)(h:Hd)(w':World):Prop where
 net:Net T g' w' X n R U M h
 tp:Tp g' w' K xs k
 TK:T K=0
 Kl:w.heap.size<=K/\K<w'.heap.size
 below:Below w.heap.size w w'
 T0:∀b,b<w.heap.size->T b=0
 same:∀b,b<w.heap.size->g'.I b=g.I b
 n1:1<=n
 rch:RG.Rch n j R U M
section
variable{g:Gh}{w:World}{K X n:Nat}{xs:List Int}{k j:Nat}{R:Nat->RG.Rs}{U:Nat->Bool}{M:Nat->Nat->List RG.Rm}{T:Nat->Nat}{g':Gh}{h:Hd}{w':World}
theorem Pl.net_kt(hp:Pl g w K X n xs k j R U M T g' h w'){g2:Gh}{w2:World}{k2:Nat}(ht:Tp g2 w2 K xs k2)(hk:Kt K g' w' g2 w2) :
 Net T g2 w2 X n R U M h/\Below w.heap.size w w2/\(∀b,b<w.heap.size->g2.I b=g.I b)/\K<w2.heap.size:=by
 have s1:=hp.below.size
 have s2:=hk.size
 refine⟨hp.net.other hp.TK hp.tp.IK hk.size hk.fr hk.same ht.Ilt,hp.below.trans ⟨hk.os,hk.tape,hk.output,hk.size,fun b hb=>hk.fr b (by omega) (by have:=hp.Kl.1;omega)⟩,fun b hb=>(hk.same b (by omega)).trans (hp.same b hb),by have:=hp.Kl.2;omega⟩
theorem Tp.kp(ht:Tp g' w' K xs k)(hK:K<w'.heap.size)(hTK:T K=0)(hg:∀b,0<g'.I b->T b=0){T2:Nat->Nat}{g2:Gh}{w2:World}(hk:Kp T g' w' T2 g2 w2)(hlt:∀b,0<g2.I b->b<w2.heap.size):Tp g2 w2 K xs k:=by
 obtain⟨lv,ty,h1,h2⟩:=ht.ex
 refine⟨⟨lv,ty,(hk.fr K hK hTK).2.trans h1,zO_ h2 rfl fun b o ho=>?_⟩,hlt,(hk.same K hK).trans ht.IK⟩
 have hb:=ht.Ilt b (by omega)
 exact⟨by rw[hk.same b hb];exact ho,yyb_ (a:=⟨b,o,none⟩) (hk.fr b hb (hg b (by omega))).2⟩
theorem Pl.free(hp:Pl g w K X n xs k j R U M T g' h w'):∀b,0<g'.I b->T b=0:=fun b hb=>by
 by_cases h0:T b=0
 .exact h0
 .have:=(hp.net.tz b h0).2;omega
theorem Pl.next(hp:Pl g w K X n xs k j R U M T g' h w')(hk:k<=1000)(hx:xs.length<=1000){m:Int}(hm:1<=m)(hm2:m<=1000000) :
 Calls Try.prog 18 #[.pointer (some ⟨K,0,none⟩),.int .i64 m] w' fun e w2=>∃g2,e=.returned (.int .i64 (nxt xs k m))/\Pl g w K X n xs (nat1 xs k) j R U M T g2 h w2:=by
 refine(rv_ hp.tp hk hx hm hm2).mono ?_
 rintro e w2 ⟨g2,rfl,ht,hkt⟩
 obtain⟨a1,a2,a3,a4⟩:=hp.net_kt ht hkt
 exact⟨g2,rfl,a1,ht,hp.TK,⟨hp.Kl.1,a4⟩,a2,hp.T0,a3,hp.n1,hp.rch⟩
theorem Pl.bel(hp:Pl g w K X n xs k j R U M T g' h w'){w2:World}(hb:Below w'.heap.size w' w2):Pl g w K X n xs k j R U M T g' h w2:=by
 obtain⟨lv,ty,h1,h2⟩:=hp.tp.ex
 exact⟨hp.net.below hb,⟨⟨lv,ty,(hb.block K hp.Kl.2).trans h1,zO_ h2 rfl (hp.net.keepI hb)⟩,fun b hb'=>zzk_ (hp.tp.Ilt b hb') hb.size,hp.tp.IK⟩,hp.TK,⟨hp.Kl.1,zzk_ hp.Kl.2 hb.size⟩,hp.below.trans (Below.mono1 hb hp.below.size),hp.T0,hp.same,hp.n1,hp.rch⟩
theorem Pl.more(hp:Pl g w K X n xs k j R U M T g' h w')(hk:k<=1000)(hx:xs.length<=1000) :
 Calls Try.prog 16 #[.pointer (some ⟨K,0,none⟩)] w' fun e w2=>e=.returned (.bool (decide (k<xs.length)))/\Pl g w K X n xs k j R U M T g' h w2:=by
 refine(ry_ hp.tp hk hx).mono ?_
 rintro e w2 ⟨rfl,hb⟩
 exact⟨rfl,hp.bel hb⟩
theorem Pl.one(hp:Pl g w K X n xs k j R U M T g' h w')(hj:j<=2000) :
 Calls Try.prog 19 #[.pointer (some ⟨X,0,none⟩)] w' fun e w2=>e=.returned (.bool true)/\Pl g w K X n xs k j R U M T g' h w2:=by
 obtain⟨D,hD⟩:=hp.rch.gi hp.n1 hp.net.n9
 refine(mo_ hp.net hD (by omega)).mono ?_
 rintro e w2 ⟨rfl,hb⟩
 exact⟨rfl,hp.bel hb⟩
theorem Pl.kp(hp:Pl g w K X n xs k j R U M T g' h w'){j2:Nat}{R2:Nat->RG.Rs}{U2:Nat->Bool}{M2:Nat->Nat->List RG.Rm}{T2:Nat->Nat}{g2:Gh}{h2:Hd}{w2:World}(hn:Net T2 g2 w2 X n R2 U2 M2 h2)(hk:Kp T g' w' T2 g2 w2)(hr:RG.Rch n j2 R2 U2 M2):Pl g w K X n xs k j2 R2 U2 M2 T2 g2 h2 w2:=by
 have s1:=hp.below.size
 have s2:=hk.size
 exact⟨hn,hp.tp.kp hp.Kl.2 hp.TK hp.free hk hn.Ilt,(hk.fr K hp.Kl.2 hp.TK).1,⟨hp.Kl.1,by have:=hp.Kl.2;omega⟩,hp.below.trans ⟨hk.os,hk.tape,hk.output,hk.size,fun b hb=>(hk.fr b (by omega) (hp.T0 b hb)).2⟩,fun b hb=>(hk.fr b (by omega) (hp.T0 b hb)).1,fun b hb=>(hk.same b (by omega)).trans (hp.same b hb),hp.n1,hr⟩
theorem Pl.step(hp:Pl g w K X n xs k j R U M T g' h w')(hj:j<=2000){c a b:Nat}(hc:c<10)(ha:a<1000)(hb:b<1000) :
 Calls Try.prog 17 #[.pointer (some ⟨X,0,none⟩),.int .i64 c,.int .i64 a,.int .i64 b] w' fun e w2=>∃R2 U2 M2 T2 g2 h2,e=.returned (.bool true)/\Pl g w K X n xs k (j+1) R2 U2 M2 T2 g2 h2 w2:=by
 obtain⟨D,hD⟩:=hp.rch.gi hp.n1 hp.net.n9
 refine(rk_ hp.net hD (by omega) (fun a b=>by have:=hp.rch.len hp.n1 hp.net.n9 a b;omega) hc ha hb).mono ?_
 rintro e w2 ⟨T2,g2,h2,R2,U2,M2,rfl,hn2,hk,hs,_⟩
 exact⟨R2,U2,M2,T2,g2,h2,rfl,hp.kp hn2 hk (.step hp.rch hs)⟩
end
theorem qO_(xs:List Int)(k:Nat){m:Nat}(hm:0<m):∃c:Nat,nxt xs k m=c/\c<m:=by
 have:=mt_ xs k (m:=m) (by omega)
 exact⟨(nxt xs k m).toNat,by omega,by omega⟩
end
section
theorem Bs.below{w0 w w':World}{X:Nat}{O:List Orow}{L:List (Nat×Obj)}(h:Bs w0 X O L w)(hb:Below w.heap.size w w'):Bs w0 X O L w' :=
 h.grown ⟨hb.os,hb.tape,hb.output,hb.size,fun k hk _=>hb.block k hk⟩
section
variable{w0 w:World}{X n p:Nat}{bv uv mv:Value}{rk:Nat->Nat}{O:List Orow}{ks:List (Nat×Obj)}
theorem Nd.loose(h:Nd w0 X n p bv uv mv rk O ks w){k:Nat}{cs:Array Value}{t:TypeId}(hk:(k,Obj.cells cs t (0,0))∈ks):w.heap[k]?=some (.cells cs t (0,0)):=by
 obtain⟨Rr,h1,h2⟩:=h.ex
 exact(h1.loose _ (zzw_.2 (.inr (h2 _ hk)))).2.2
theorem mv_{wx:World}(hB:Bs w0 X O (mkL n p rk) w)(hx:w.heap[X]?=some (.cells #[bv,uv,mv] 33 (0,0)))(hX:X<w0.heap.size)(hb:Below w.heap.size w wx){zs vs:Array Value}(hz:zs.size=9)(h9:vs.size=9)(h1:∀v∈vs.toList,v.oneCell'=true) :
 ∃W k,wx.heap.size=k/\(Instr.storeAt 37 (.pointer (some ⟨k,0,none⟩)) (.agg vs)).run Try.prog (wx.alloc (.cells zs 37))=.ok () W/\Nd w0 X n p bv uv mv rk O [(k,.cells vs 37 (0,0))] W:=by
 have hBx:=Bs.below hB hb
 have hxx:wx.heap[X]?=some (.cells #[bv,uv,mv] 33 (0,0)):=(hb.block X (zzk_ hX hB.size)).trans hx
 obtain⟨W,q1,q2,q3,q4⟩:=sz37.box (w:=wx) (zs:=zs) h9 hz h1
 have hA:=hBx.alloc vs 37
 have hG:Below (wx.alloc (.cells vs 37)).heap.size (wx.alloc (.cells vs 37)) W:=by
  refine⟨q2.os.trans rfl,q2.tape.trans rfl,q2.output.trans rfl,by rw[q3];simp,fun k hk=>?_⟩
  by_cases e:k=wx.heap.size
  .subst e
   rw[q4,heap_alloc_new]
  .have hk':k<wx.heap.size:=by simp at hk;omega
   rw[q2.block k hk',Below.heap_alloc wx _ k hk']
 refine⟨W,_,rfl,q1,⟨_,Bs.below hA hG,fun q hq=>hq⟩,?_⟩
 rw[q2.block X (zzk_ hX hBx.size)]
 exact hxx
theorem Nd.drew(h:Nd w0 X n p bv uv mv rk O ks w):Nd w0 X n p bv uv mv rk O ks w.drew:=by
 obtain⟨Rr,h1,h2⟩:=h.ex
 exact⟨⟨Rr,h1.drew,h2⟩,h.x⟩
end
theorem qd_{C G:World->Nat->Prop}{goal:Prop}(main:(∀V x0,C V x0->G V x0)->goal)(leaf:∀V x0,C V x0->G V x0):goal:=main leaf
theorem sC_{C G:World->Nat->Nat->Prop}{goal:Prop}(main:(∀V x0 x1,C V x0 x1->G V x0 x1)->goal)(leaf:∀V x0 x1,C V x0 x1->G V x0 x1):goal:=main leaf
theorem sB_{C G:World->Nat->Nat->Nat->Prop}{goal:Prop}(main:(∀V x0 x1 x2,C V x0 x1 x2->G V x0 x1 x2)->goal)(leaf:∀V x0 x1 x2,C V x0 x1 x2->G V x0 x1 x2):goal:=main leaf
theorem qc_{C G:World->Nat->Nat->Nat->Nat->Prop}{goal:Prop}(main:(∀V x0 x1 x2 x3,C V x0 x1 x2 x3->G V x0 x1 x2 x3)->goal)(leaf:∀V x0 x1 x2 x3,C V x0 x1 x2 x3->G V x0 x1 x2 x3):goal:=main leaf
theorem oK_{C G:World->Nat->Nat->Nat->Nat->Nat->Prop}{goal:Prop}(main:(∀V x0 x1 x2 x3 x4,C V x0 x1 x2 x3 x4->G V x0 x1 x2 x3 x4)->goal)(leaf:∀V x0 x1 x2 x3 x4,C V x0 x1 x2 x3 x4->G V x0 x1 x2 x3 x4):goal:=main leaf
theorem oJ_{C G:World->Nat->Nat->Nat->Nat->Nat->Nat->Prop}{goal:Prop}(main:(∀V x0 x1 x2 x3 x4 x5,C V x0 x1 x2 x3 x4 x5->G V x0 x1 x2 x3 x4 x5)->goal)(leaf:∀V x0 x1 x2 x3 x4 x5,C V x0 x1 x2 x3 x4 x5->G V x0 x1 x2 x3 x4 x5):goal:=main leaf
theorem m9_{C G:World->Nat->Nat->Nat->Nat->Nat->Nat->Nat->Prop}{goal:Prop}(main:(∀V x0 x1 x2 x3 x4 x5 x6,C V x0 x1 x2 x3 x4 x5 x6->G V x0 x1 x2 x3 x4 x5 x6)->goal)(leaf:∀V x0 x1 x2 x3 x4 x5 x6,C V x0 x1 x2 x3 x4 x5 x6->G V x0 x1 x2 x3 x4 x5 x6):goal:=main leaf
theorem m8_{C G:World->Nat->Nat->Nat->Nat->Nat->Nat->Nat->Nat->Prop}{goal:Prop}(main:(∀V x0 x1 x2 x3 x4 x5 x6 x7,C V x0 x1 x2 x3 x4 x5 x6 x7->G V x0 x1 x2 x3 x4 x5 x6 x7)->goal)(leaf:∀V x0 x1 x2 x3 x4 x5 x6 x7,C V x0 x1 x2 x3 x4 x5 x6 x7->G V x0 x1 x2 x3 x4 x5 x6 x7):goal:=main leaf
theorem nf_{C G:World->Nat->Nat->Nat->Nat->Nat->Nat->Nat->Nat->Nat->Nat->Prop}{goal:Prop}(main:(∀V x0 x1 x2 x3 x4 x5 x6 x7 x8 x9,C V x0 x1 x2 x3 x4 x5 x6 x7 x8 x9->G V x0 x1 x2 x3 x4 x5 x6 x7 x8 x9)->goal)(leaf:∀V x0 x1 x2 x3 x4 x5 x6 x7 x8 x9,C V x0 x1 x2 x3 x4 x5 x6 x7 x8 x9->G V x0 x1 x2 x3 x4 x5 x6 x7 x8 x9):goal:=main leaf
end
end Go.Proofs.Ytnbppaolinopeaa
