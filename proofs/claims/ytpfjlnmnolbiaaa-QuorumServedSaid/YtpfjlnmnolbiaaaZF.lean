/- Texts put behind one another: Q3, I1, I2, I3, I4, I5, I6, I7, Q4, Q5, Q6, Q7, Q8, Q9, Q10, H1, H2, H3, H4, H5, H6, H7, H8, H9, H10, J1, N1, N2, N3, N4, Z3. -/
import Derived.Test.YtpfjlnmnolbiaaaZE
import Derived.WalkKit
import Derived.RegionTactic
import Derived.Deep.Draws
import Derived.Deep.RegionLaw
import Derived.Lib.Hide
import Derived.Lib.Overlaps
import Derived.Lib.AppendZerosOnto
import Derived.Laws.IdiomCopy
import Derived.Laws.Externs
import Derived.Laws.NewBlocks
import Derived.Shelf.RegionOpenPlain
import Derived.Below
import Derived.Deep.LoopGhost
import Derived.Defers
import Derived.OrdersHeld
import Derived.StillTail
import Derived.Deep.RegionHeld
set_option linter.unusedVariables false
set_option linter.unusedSimpArgs false
namespace Go.Proofs.Ytpfjlnmnolbiaaa
open Go.RowKit Go.Proofs
def wB(b:Bl)(o:V):List V:=[.s (.int .i64 b.time),.s (.int .i64 b.qu),.s (.int .i64 b.votes),.s (.int .i64 b.fail),.s (.int .i64 b.inqd),.s (.int .i64 b.stamp.t),.s (.int .i64 b.stamp.s),.s (.bool b.using'),.list 2 (sl b.given),.own true 36 2 (sl b.queue),.s (.bool b.asked),o]
theorem nB_(l:List Sg)(h:l.length<=1000000):PC Try.prog 61 [.list 2 (sl l)] (fun r=>r=.own true 36 2 (sl l)\/(l=[]/\r=.s (.slice none 0 0))):=by
 refine zH_ c61 zD_ rfl ?_
 have b1:l.length<=maxLen/\l.length*16<=zf_:=by simp[maxLen,zf_];omega
 by_cases hn:l=[]
 .subst hn
  simp -implicitDefEqProofs [a61,F61,WO_isn]
 .have h0:l.length≠0:=by simpa using hn
  have h1:sl l≠[]:=by simpa[sl] using hn
  simp -implicitDefEqProofs [a61,F61,b1,h0,h1,WO_isn]
def xu_(b:Bl):List V:=b.cs.set 9 .no
theorem tq_(b:Bl)(h:b.sm):AC Try.prog 34 [b.v] [] (fun r bs=>r=.ptr 1 0/\bs=[xu_ b,wB b (.s (.slice none 0 0))]):=by
 have k1:=mY_ b.given h.1
 have k2:=nB_ b.queue h.2
 refine j9_ c34b zD_ rfl ?_
 simp -implicitDefEqProofs [a34b,F34,Bl.v,Bl.cs]
 refine z5_ ?_
 simp -implicitDefEqProofs
 refine zu_ k1 (by simp) (by simp) ?_
 rintro _ rfl
 simp -implicitDefEqProofs
 refine z5_ ?_
 simp -implicitDefEqProofs
 refine zu_ k2 (by simp) (by simp) ?_
 rintro _ (rfl|⟨hq,rfl⟩)
 .simp -implicitDefEqProofs [fgt,noL,vZ_]
  refine zI_ 2 ?_
  simp -implicitDefEqProofs [wB,xu_,Bl.cs]
 .simp -implicitDefEqProofs [hq,fgt,noL,vZ_]
  refine zI_ 2 ?_
  simp -implicitDefEqProofs [wB,xu_,Bl.cs,hq]
theorem zZ_(e:Int):PC Try.prog 32 [.s (.int .i64 e)] (fun r=>r=.tup [(⟨0,0,0,0,0,⟨0,0⟩,false,[],[],false⟩:Bl).v,.list 4 [],.s (.int .i64 e)]):=by
 refine xL_ (q:=fun r=>frT r (.tup [(⟨0,0,0,0,0,⟨0,0⟩,false,[],[],false⟩:Bl).v,.list 4 [],.s (.int .i64 e)])) ?_ fun x hx _=>⟨_,hx,rfl,rfl⟩
 refine zH_ c32 zD_ rfl ?_
 simp -implicitDefEqProofs [a32,F32,Bl.v,Bl.cs,frT,frAs,frA,frLs,frL,immC]
theorem iT_:PC Try.prog 25 [] (fun r=>r=(⟨0,0,0,0,0,⟨0,0⟩,false,[],[],false⟩:Bl).v):=by
 refine xL_ (q:=fun r=>frT r (⟨0,0,0,0,0,⟨0,0⟩,false,[],[],false⟩:Bl).v) ?_ fun x hx _=>⟨_,hx,rfl,rfl⟩
 refine zH_ c25 zD_ rfl ?_
 simp -implicitDefEqProofs [a25,F25,Bl.v,Bl.cs,frT,frAs,frA,frLs,frL,immC]
def oV(l:List Vt):V:=.own true 46 4 (vl l)
theorem xq_(b:Bl)(l:List Vt)(k to:Int)(hl:l.length<=1000):AC Try.prog 48 [.ptr 0 0,.s (.int .i64 k),.s (.int .i64 to)] [wB b (oV l)] (fun r bs=>r=.tup []/\bs=[wB b (oV (l++[⟨k,to,0,0⟩]))]):=by
 have b1:l.length+1<=maxLen/\(l.length+1)*32<=zf_:=by simp[maxLen,zf_];omega
 refine sJ_ c48 zD_ rfl ?_
 simp -implicitDefEqProofs [a48,F48,wB,oV,b1]
 refine zI_ 1 ?_
 simp -implicitDefEqProofs [wB,oV,vl,Vt.v]
section
section
variable{P:Program}
theorem xV_(w:World)(dT sT ty elem:TypeId)(z b o dLen dCap:Nat)(a:Addr)(sLen sCap:Nat)(cs:List Value)
 (hu:P.underlying dT=some (.slice elem)) (hs:(P.info? elem).map (·.size)=some z) (hn:cs.length=Nat.min sLen dLen*z)
 (hsrc:∀j v,cs[j]?=some v->w.cell? (a.add j)=some v) (hc:∀j,j<cs.length->(w.cell? ⟨b,o+j,none⟩).isSome=true) (hf:∀j,j<cs.length->w.frozen? ⟨b,o+j,none⟩=false) (h1:∀v∈cs,v.oneCell'=true) :
 (Builtin.copy_ #[dT,sT] ty #[.slice (some ⟨b,o,none⟩) dLen dCap,.slice (some a) sLen sCap]).run P w=.ok (goInt (Nat.min sLen dLen)) (w.setCells b o cs):=by
 have hl:=run_loadCells_list (P:=P) w a cs hsrc
 have hst:=run_storeCells_cells (P:=P) b o cs 0 w (by simpa using hc) (by simpa using hf) h1
 cases hq:P.info? elem with
 |none=>simp[hq]at hs
 | some i =>
   have hi:i.size=z:=by simpa[hq] using hs
   simp[Builtin.copy_,run_underlying hu,Builtin.lenOf,Builtin.firstCells,sizeOf,typeInfo,hq,hi,<-hn,hl,hst]
theorem sW_(w:World)(t e ty:TypeId)(z:Value)(ht:P.underlying t=some (.slice e))(hv:∀w,(zeroValue e).run P w=.ok z w)(cs:List Value)(b o n c:Nat)(hcs:(Builtin.zeroCells z.cells n).toList=cs)(h1:∀v∈cs,v.oneCell'=true)(hn:0<n)
 (hc:∀j,j<cs.length->(w.cell? ⟨b,o+j,none⟩).isSome=true) (hf:∀j,j<cs.length->w.frozen? ⟨b,o+j,none⟩=false) :
 (Builtin.clear_ #[t] ty #[.slice (some ⟨b,o,none⟩) n c]).run P w=.ok (.tuple #[]) (w.setCells b o cs):=by
 have hst:=run_storeCells_cells (P:=P) b o cs 0 w (by simpa using hc) (by simpa using hf) h1
 simp only[Nat.add_zero]at hst
 obtain⟨m,rfl⟩:∃m,n=m+1:=⟨n-1,by omega⟩
 simp[Builtin.clear_,run_underlying ht,hv,hcs,hst]
theorem v6_(w:World){ops:Array Oper}{rest:List Oper}{o:Oper}{a:Act}{Q:Exit->Act->World->Prop}(hgd:o.guard=none)(d s:Operand)(t t':TypeId)
 (ho:o.op=.call { callee:=.builtin .copy,args:=#[d,s],argTypes:=#[t,t'] }) (v u:Value) (hd:a.eval d=v) (hs:a.eval s=u) {v':Value} {w':World}
 (hr:(Builtin.copy_ #[t,t'] o.type #[v,u]).run P w=.ok v' w') (h:wpList P ops Q rest (a.put o.dst v') w'):wpList P ops Q (o::rest) a w :=
 wpList_plain hgd fun K hK=>by
  unfold Oper.wp execOp
  simp only[ho,resolve,invoke,builtin,Sem.run_bind,Sem.run_pure,Result.andThen_ok,List.map_toArray,List.map_cons,List.map_nil,hd,hs,hr]
  exact hK _ _ h
theorem uU_(w:World){ops:Array Oper}{rest:List Oper}{o:Oper}{a:Act}{Q:Exit->Act->World->Prop}(hgd:o.guard=none)(s:Operand)(t:TypeId)
 (ho:o.op=.call { callee:=.builtin .clear,args:=#[s],argTypes:=#[t] }) (u:Value) (hs:a.eval s=u) {v':Value} {w':World}
 (hr:(Builtin.clear_ #[t] o.type #[u]).run P w=.ok v' w') (h:wpList P ops Q rest (a.put o.dst v') w'):wpList P ops Q (o::rest) a w :=
 wpList_plain hgd fun K hK=>by
  unfold Oper.wp execOp
  simp only[ho,resolve,invoke,builtin,Sem.run_bind,Sem.run_pure,Result.andThen_ok,List.map_toArray,List.map_cons,List.map_nil,hs,hr]
  exact hK _ _ h
theorem up_{ops:Array Oper}{o:Oper}{a:Act}{w:World}{K:Act->World->Prop}{Q:Exit->Act->World->Prop}{E:Prop}
 (hg:o.guard=none) (d x:Operand) (dT sT:TypeId) (hop:o.op=Op.call { callee:=Callee.builtin Builtin.copy,args:=#[d,x],argTypes:=#[dT,sT] })
 (v u:Value) (hd:a.eval d=v) (hx:a.eval x=u) {v':Value} {w':World} (hr:(Builtin.copy_ #[dT,sT] o.type #[v,u]).run P w=.ok v' w') (hK:K (a.put o.dst v') w') :
 if Region.wanted o (yielded ops a.tmps)=true then Oper.wp P o a w K Q else E:=by
 have hw:Region.wanted o (yielded ops a.tmps)=true:=by simp[Region.wanted,hg]
 rw[if_pos hw]
 unfold Oper.wp
 simp[execOp,hop,resolve,invoke,builtin,hd,hx,hr,Result.andThen]
 exact hK
end
theorem zq_:∀(vs:List Value) (o:Nat) (w:World) (k:Nat) (cur:Array Value) (e:TypeId),w.heap[k]?=some (.cells cur e (0,0))->o+vs.length<=cur.size ->
 ∃cur',(w.setCells k o vs).heap[k]?=some (.cells cur' e (0,0))/\cur'.size=cur.size/\cur'.toList=cur.toList.take o++vs++cur.toList.drop (o+vs.length)
 |[],o,w,k,cur,e,h,_=>⟨cur,h,rfl,by simp⟩
 | v :: r, o, w, k, cur, e, h, hf => by
   have h1:(w.setCell ⟨k,o,none⟩ v).heap[k]?=some (.cells (cur.setIfInBounds o v) e (0,0)):=by
    simp[World.setCell,yyu_,h]
   obtain⟨cur',h2,h3,h4⟩:=zq_ r (o+1) (w.setCell ⟨k,o,none⟩ v) k _ e h1 (by simp at hf ⊢;omega)
   refine⟨cur',by rw[World.setCells];exact h2,by simpa using h3,?_⟩
   rw[h4]
   simp only[List.length_cons]at hf
   have hl:o<cur.toList.length:=by simp;omega
   simp only[Array.toList_setIfInBounds]
   have e1:(cur.toList.set o v).take (o+1)=cur.toList.take o++[v]:=by
    rw[yyw_,List.getElem?_set_self hl,List.take_set]
    rw[List.set_eq_of_length_le (by simp;omega)]
    rfl
   have e2:(cur.toList.set o v).drop (o+1+r.length)=cur.toList.drop (o+1+r.length):=List.drop_set_of_lt (by omega)
   rw[e1,e2]
   simp[Nat.add_assoc,Nat.add_comm 1]
theorem zp_{vs:List Value}{o:Nat}{w:World}{k j:Nat}(hj:j<w.heap.size)(h:j≠k):(w.setCells k o vs).heap[j]?=w.heap[j]?:=World.heap_setCells_other w k o vs hj h
end
set_option maxHeartbeats 4000000 in
set_option maxRecDepth 100000 in
theorem mq_(w:World)(k n cap i kv vc:Nat)(cur cx:Array Value)(cs vs:List Value)(hi:i<n)(hn:n+1<=cap)(hm:cap<=maxLen)(hh:w.heap[k]?=some (.cells cur 36 (0,0)))(hsz:cur.size=cap*2)(hcs:cur.toList.take (n*2)=cs)
 (hx:w.heap[kv]?=some (.cells cx 36 (0,0))) (hvs:cx.toList.take 2=vs) (hvl:vs.length=2) (hne:kv≠k) (h1c:∀v∈cs,v.oneCell'=true) (h1v:∀v∈vs,v.oneCell'=true) :
 Calls Try.prog 80 #[.slice (some ⟨k,0,none⟩) n cap,.int .i64 i,.slice (some ⟨kv,0,none⟩) 1 vc] w fun e w'=>e=.returned (.slice (some ⟨k,0,none⟩) (n+1) cap)/\w'=(w.drew.setCells k ((i+1)*2) (cs.drop (i*2))).setCells k (i*2) vs:=by
 have hkw:k<w.heap.size:=(zzm_.1 hh).1
 have hcl:cs.length=n*2:=by rw[<-hcs];simp;omega
 have hcc:∀j,j<cur.size->∀W:World,W.heap[k]?=some (.cells cur 36 (0,0))->(W.cell? ⟨k,j,none⟩).isSome=true:=fun j hj W h=>by simp[World.cell?,h,hj]
 have hff:∀W:World,∀c:Array Value,∀b j,W.heap[b]?=some (.cells c 36 (0,0))->W.frozen? ⟨b,j,none⟩=false:=fun W c b j h=>by simp[World.frozen?,h]
 have hcv:∀j v,cs[j]?=some v->w.cell? ⟨k,j,none⟩=some v:=fun j v hj=>by
  rw[<-hcs,zzu_]at hj
  split at hj
  .simpa[World.cell?,hh] using hj
  .cases hj
 have hvv:∀W:World,W.heap[kv]?=some (.cells cx 36 (0,0))->∀j v,vs[j]?=some v->W.cell? ⟨kv,j,none⟩=some v:=fun W hW j v hj=>by
  rw[<-hvs,zzu_]at hj
  split at hj
  .simpa[World.cell?,hW] using hj
  .cases hj
 have hcx:2<=cx.size:=by
  have:(cx.toList.take 2).length=2:=by rw[hvs,hvl]
  simp at this
  omega
 have hov:∀lb cb,(callFunc 82 #[.slice (some ⟨kv,0,none⟩) 1 vc,.slice (some ⟨k,(i+1)*2,none⟩) lb cb]).run Try.prog w=.ok (.value (.bool false)) w:=fun lb cb=>by
  rw[run_callFunc_extern Try.func82 (by kernel_rfl) (by kernel_rfl) (by kernel_rfl) (e:=Extern.SlicesOverlaps.overlaps #[37,37] #[4]) (by kernel_rfl),
   Lib.run_overlaps_apart w 37 4 36 Try.underlying37 2 (fun w=>by rfl) ⟨kv,0,none⟩ ⟨k,(i+1)*2,none⟩ 1 vc lb cb hne 36 36 cx.size cur.size (by simp[World.shape?,hx]) (by simp[World.shape?,hh]) (by omega) (hff _ _ _ _ hx) (hff _ _ _ _ hx)]
  rfl
 have hsz2:(Try.prog.info? 36).map (·.size)=some 2:=by kernel_rfl
 have hcp1:∀ty dc sc,(Builtin.copy_ #[37,37] ty #[.slice (some ⟨k,(i+1)*2,none⟩) (n-i) dc,.slice (some ⟨k,i*2,none⟩) (n+1-i) sc]).run Try.prog w.drew=.ok (goInt ((n-i:Nat):Int)) (w.drew.setCells k ((i+1)*2) (cs.drop (i*2))):=fun ty dc sc=>by
  have h:=xV_ (P:=Try.prog) w.drew 37 37 ty 36 2 k ((i+1)*2) (n-i) dc ⟨k,i*2,none⟩ (n+1-i) sc (cs.drop (i*2)) Try.underlying37 hsz2 (by rw[List.length_drop,hcl,show Nat.min (n+1-i) (n-i)=n-i by simp only[Nat.min_def];split<;>omega];omega)
   (fun j v hj=>by rw[Addr.add_lit];exact hcv _ v (by rwa [zzA_]at hj))
   (fun j hj=>hcc _ (by rw[List.length_drop,hcl]at hj;omega) w.drew hh) (fun j hj=>hff w.drew _ _ _ hh) (fun v hv=>h1c v (yyl_ hv))
  rw[show Nat.min (n+1-i) (n-i)=n-i by simp only[Nat.min_def];split<;>omega]at h
  exact h
 obtain⟨cur1,hc1,hs1,hl1⟩:=zq_ (cs.drop (i*2)) ((i+1)*2) w.drew k cur 36 hh (by rw[List.length_drop,hcl];omega)
 have hx1:(w.drew.setCells k ((i+1)*2) (cs.drop (i*2))).heap[kv]?=some (.cells cx 36 (0,0)):=by
  rw[zp_ (w:=w.drew) (zzm_.1 hx).1 hne];exact hx
 obtain⟨W1,hW1⟩:∃W1,W1=w.drew.setCells k ((i+1)*2) (cs.drop (i*2)):=⟨_,rfl⟩
 rw[<-hW1]at hcp1 hc1 hx1
 have hcp2:∀ty dc,(Builtin.copy_ #[37,37] ty #[.slice (some ⟨k,i*2,none⟩) (n+1-i) dc,.slice (some ⟨kv,0,none⟩) 1 vc]).run Try.prog W1=.ok (goInt 1) (W1.setCells k (i*2) vs):=fun ty dc=>by
  have h:=xV_ (P:=Try.prog) W1 37 37 ty 36 2 k (i*2) (n+1-i) dc ⟨kv,0,none⟩ 1 vc vs Try.underlying37 hsz2 (by rw[hvl,show Nat.min 1 (n+1-i)=1 by simp only[Nat.min_def];split<;>omega])
   (fun j v hj=>by rw[Addr.add_lit,Nat.zero_add];exact hvv W1 hx1 j v hj)
   (fun j hj=>by rw[hvl]at hj;simp only[World.cell?,hc1];simp;omega) (fun j hj=>hff W1 _ _ _ hc1) h1v
  rw[show Nat.min 1 (n+1-i)=1 by simp only[Nat.min_def];split<;>omega]at h
  exact h
 have C1:=hcp1
 have C2:=hcp2
 subst hW1
 clear hcp1 hcp2 hcc hff hcv hvv hc1 hs1 hl1 hx1
 have hm63:cap<=9223372036854775807:=by unfold maxLen at hm;omega
 have hz2:¬((i:Int)=(n:Int)):=by omega
 have hz3:((i:Int)==(n:Int))=false:=by simpa using hz2
 have hz4:¬((cap:Int)<(n:Int)+1):=by omega
 have hw0:IntKind.i64.wrap ((n:Int)+1)=(n:Int)+1:=by rw[yye_];omega
 have hw1:IntKind.i64.wrap ((i:Int)+1)=(i:Int)+1:=by rw[yye_];omega
 have hb1:(0:Int)<=(i:Int)+1:=by omega
 have hin:i<=n:=by omega
 have htn:((i:Int)+1).toNat=i+1:=by omega
 have htm:((n:Int)+1).toNat=n+1:=by omega
 have hb2:¬(cap=i+1):=by omega
 have hb3:(i:Int)<=(n:Int)+1:=by omega
 have hb4:¬(cap=i):=by omega
 have hb5:(i:Int)+1<=(n:Int)+1:=by omega
 have hb6:(n:Int)+1<=(cap:Int):=by omega
 have mx:=zD_
 go_enter Try.func80,Try.ntmps80
 go_wp2_with (simp only[hov])
 go_region_law_o (refine up_ rfl _ _ 37 37 rfl _ _ (by simp[Act.eval,Act.put]) (by simp[Act.eval,Act.put]) (C1 _ _ _) ?_)
 go_wp2_with (at_builtin;refine v6_ _ rfl _ _ 37 37 rfl _ _ rfl rfl (C2 _ _) ?_)
 go_ret
 exact⟨rfl,rfl⟩
def z36:Value:=.agg #[.int .i64 0,.int .i64 0]
set_option maxHeartbeats 4000000 in
set_option maxRecDepth 100000 in
theorem ms_(w:World)(k n cap i kv vc:Nat)(cur cx:Array Value)(cs vs:List Value)(hi:i<n)(hn:cap<n+1)(hnc:n<=cap)(hn6:n<=1000000)(hh:w.heap[k]?=some (.cells cur 36 (0,0)))(hsz:cur.size=cap*2)(hcs:cur.toList.take (n*2)=cs)
 (hx:w.heap[kv]?=some (.cells cx 36 (0,0))) (hvs:cx.toList.take 2=vs) (hvl:vs.length=2) (hne:kv≠k) (h1c:∀v∈cs,v.oneCell'=true) (h1v:∀v∈vs,v.oneCell'=true) :
 Calls Try.prog 80 #[.slice (some ⟨k,0,none⟩) n cap,.int .i64 i,.slice (some ⟨kv,0,none⟩) 1 vc] w fun e w'=>∃(G:Nat) (ROW:Array Value),n+1<=G/\G<=maxLen/\ROW.size=G*2/\ROW.toList.take (i*2)=cs.take (i*2) /\
  e=.returned (.slice (some ⟨w.heap.size,0,none⟩) (n+1) G)/\w'=(((w.alloc (.cells ROW 36)).drew.setCells w.heap.size (i*2) vs).drew).setCells w.heap.size ((i+1)*2) (cs.drop (i*2)):=by
 have hkw:k<w.heap.size:=(zzm_.1 hh).1
 have hvw:kv<w.heap.size:=(zzm_.1 hx).1
 have hcl:cs.length=n*2:=by rw[<-hcs];simp;omega
 have hff:∀W:World,∀c:Array Value,∀b j,W.heap[b]?=some (.cells c 36 (0,0))->W.frozen? ⟨b,j,none⟩=false:=fun W c b j h=>by simp[World.frozen?,h]
 have hcv:∀W:World,W.heap[k]?=some (.cells cur 36 (0,0))->∀j v,cs[j]?=some v->W.cell? ⟨k,j,none⟩=some v:=fun W hW j v hj=>by
  rw[<-hcs,zzu_]at hj
  split at hj
  .simpa[World.cell?,hW] using hj
  .cases hj
 have hvv:∀W:World,W.heap[kv]?=some (.cells cx 36 (0,0))->∀j v,vs[j]?=some v->W.cell? ⟨kv,j,none⟩=some v:=fun W hW j v hj=>by
  rw[<-hvs,zzu_]at hj
  split at hj
  .simpa[World.cell?,hW] using hj
  .cases hj
 have hsz2:(Try.prog.info? 36).map (·.size)=some 2:=by kernel_rfl
 obtain⟨i0,hi0,hz0,hzs,hzb⟩:∃i0,Try.prog.info? 36=some i0/\i0.zero=some z36/\i0.size=2/\i0.bytes=16:=⟨_,rfl,by kernel_rfl,by kernel_rfl,by kernel_rfl⟩
 have hold:(Builtin.firstCells i0.size i (.slice (some ⟨k,0,none⟩) i cap)).run Try.prog w.drew=.ok (cs.take (i*2)).toArray w.drew:=by
  rw[hzs]
  exact run_firstCells_some w.drew 2 i ⟨k,0,none⟩ i cap (cs.take (i*2)) (by rw[List.length_take];omega) (fun j v hj=>by
   rw[Addr.add_lit,Nat.zero_add]
   rw[zzu_]at hj
   split at hj
   .exact hcv w.drew hh j v hj
   .cases hj)
 have hik:i+(n+1-i)=n+1:=by omega
 have hkk:(n:Int)+1-(i:Int)=((n+1-i:Nat):Int):=by omega
 obtain⟨G,hG⟩:∃G,G=grownCap w (n+1) cap 36:=⟨_,rfl⟩
 have hGn:n+1<=G:=by rw[hG];exact grownCap_ge w _ _ _
 have hGm:G<=maxLen:=by rw[hG];exact grownCap_le_maxLen w (n+1) cap 36 (by unfold maxLen;omega)
 obtain⟨ROW,hROW⟩:∃ROW:Array Value,ROW=(cs.take (i*2)).toArray++Builtin.zeroCells z36.cells (n+1-i)++Builtin.zeroCells z36.cells (G-(n+1)):=⟨_,rfl⟩
 have hzc:∀m,(Builtin.zeroCells z36.cells m).size=m*2:=fun m=>by simp[Builtin.zeroCells,z36,Value.cells]
 have hRs:ROW.size=G*2:=by
  rw[hROW]
  simp only[Array.size_append,hzc,List.size_toArray,List.length_take,hcl]
  omega
 have hRt:ROW.toList.take (i*2)=cs.take (i*2):=by
  rw[hROW]
  simp only[Array.toList_append,zzq_]
  rw[yyr_ (by simp;omega),zzx_ (by simp;omega)]
 have hrz:∀ty,(Builtin.append_ #[37,3] ty #[.slice (some ⟨k,0,none⟩) i cap,.int .i64 ((n:Int)+1-(i:Int))]).run Try.prog w=.ok (.slice (some ⟨w.heap.size,0,none⟩) (n+1) G) (w.drew.alloc (.cells ROW 36)):=fun ty=>by
  have h:=Lib.run_append_grow_zeros (P:=Try.prog) w 37 3 ty 36 i0 _ .i64 .i64 Try.underlying37 (by kernel_rfl) hi0 hz0 (some ⟨k,0,none⟩) i cap (cs.take (i*2)) hold (n+1-i) (by omega) (by omega) (by omega) (by omega) (by rw[hzb];omega) (by rw[hzb,hik];exact growslice_fits hn (by omega))
  rw[hik]at h
  rw[hkk,hROW,hG]
  exact h
 clear hkk hik hold hROW hG hzc
 obtain⟨W1,hW1⟩:∃W1,W1=(w.alloc (.cells ROW 36)).drew:=⟨_,rfl⟩
 have hH:W1.heap[w.heap.size]?=some (.cells ROW 36 (0,0)):=by rw[hW1];exact heap_alloc_new w _
 have hk1:W1.heap[k]?=some (.cells cur 36 (0,0)):=by rw[hW1];exact(Below.heap_alloc w _ k hkw).trans hh
 have hv1:W1.heap[kv]?=some (.cells cx 36 (0,0)):=by rw[hW1];exact(Below.heap_alloc w _ kv hvw).trans hx
 have hcpA:∀ty dc,(Builtin.copy_ #[37,37] ty #[.slice (some ⟨w.heap.size,i*2,none⟩) (n+1-i) dc,.slice (some ⟨kv,0,none⟩) 1 vc]).run Try.prog W1=.ok (goInt 1) (W1.setCells w.heap.size (i*2) vs):=fun ty dc=>by
  have h:=xV_ (P:=Try.prog) W1 37 37 ty 36 2 w.heap.size (i*2) (n+1-i) dc ⟨kv,0,none⟩ 1 vc vs Try.underlying37 hsz2 (by rw[hvl,show Nat.min 1 (n+1-i)=1 by simp only[Nat.min_def];split<;>omega])
   (fun j v hj=>by rw[Addr.add_lit,Nat.zero_add];exact hvv W1 hv1 j v hj)
   (fun j hj=>by rw[hvl]at hj;simp only[World.cell?,hH];simp;omega) (fun j hj=>hff W1 _ _ _ hH) h1v
  rw[show Nat.min 1 (n+1-i)=1 by simp only[Nat.min_def];split<;>omega]at h
  exact h
 obtain⟨row2,hr1,hr2,hr3⟩:=zq_ vs (i*2) W1 w.heap.size ROW 36 hH (by omega)
 have hk2:(W1.setCells w.heap.size (i*2) vs).heap[k]?=some (.cells cur 36 (0,0)):=by
  rw[zp_ (zzm_.1 hk1).1 (by omega)];exact hk1
 obtain⟨W2,hW2⟩:∃W2,W2=(W1.setCells w.heap.size (i*2) vs).drew:=⟨_,rfl⟩
 have hr1:W2.heap[w.heap.size]?=some (.cells row2 36 (0,0)):=by rw[hW2];exact hr1
 have hk2:W2.heap[k]?=some (.cells cur 36 (0,0)):=by rw[hW2];exact hk2
 have hcpB:∀ty dc sc,(Builtin.copy_ #[37,37] ty #[.slice (some ⟨w.heap.size,(i+1)*2,none⟩) (n-i) dc,.slice (some ⟨k,i*2,none⟩) (n-i) sc]).run Try.prog W2=.ok (goInt ((n-i:Nat):Int)) (W2.setCells w.heap.size ((i+1)*2) (cs.drop (i*2))):=fun ty dc sc=>by
  have h:=xV_ (P:=Try.prog) W2 37 37 ty 36 2 w.heap.size ((i+1)*2) (n-i) dc ⟨k,i*2,none⟩ (n-i) sc (cs.drop (i*2)) Try.underlying37 hsz2 (by rw[List.length_drop,hcl,show Nat.min (n-i) (n-i)=n-i by simp only[Nat.min_def];split<;>omega];omega)
   (fun j v hj=>by rw[Addr.add_lit];exact hcv W2 hk2 _ v (by rwa [zzA_]at hj))
   (fun j hj=>by rw[List.length_drop,hcl]at hj;simp only[World.cell?,hr1];simp;omega) (fun j hj=>hff W2 _ _ _ hr1) (fun v hv=>h1c v (yyl_ hv))
  rw[show Nat.min (n-i) (n-i)=n-i by simp only[Nat.min_def];split<;>omega]at h
  exact h
 clear hff hcv hvv hH hk1 hv1 hr1 hk2 hr3
 subst hW2
 subst hW1
 have hG63:G<=9223372036854775807:=by unfold maxLen at hGm;omega
 have hz2:¬((i:Int)=(n:Int)):=by omega
 have hz3:((i:Int)==(n:Int))=false:=by simpa using hz2
 have hz4:(cap:Int)<(n:Int)+1:=by omega
 have hw0:IntKind.i64.wrap ((n:Int)+1)=(n:Int)+1:=by rw[yye_];omega
 have hw1:IntKind.i64.wrap ((i:Int)+1)=(i:Int)+1:=by rw[yye_];omega
 have hw2:IntKind.i64.wrap ((n:Int)+1-(i:Int))=(n:Int)+1-(i:Int):=by rw[yye_];omega
 have hb1:(0:Int)<=(i:Int)+1:=by omega
 have hin:i<=n:=by omega
 have htn:((i:Int)+1).toNat=i+1:=by omega
 have hb3:(i:Int)<=(n:Int):=by omega
 have hGi:¬(G=i):=by omega
 have hGim:¬(G=i+1):=by omega
 have hci:¬(cap=i):=by omega
 have hic:i<=cap:=by omega
 have hb6:(i:Int)<=(n:Int)+1:=by omega
 have mx:=zD_
 go_enter Try.func80,Try.ntmps80
 go_wp2_with (first
  |(at_builtin;refine Lib.wpList_append_run _ rfl _ _ _ _ rfl _ _ rfl rfl _ _ (hrz _) ?_)
  |(at_builtin;refine v6_ _ rfl _ _ 37 37 rfl _ _ rfl rfl (hcpA _ _) ?_))
 go_region_law_o (refine up_ rfl _ _ 37 37 rfl _ _ (by simp[Act.eval,Act.put]) (by simp[Act.eval,Act.put]) (hcpB _ _ _) ?_)
 go_wp2
 go_ret
 exact⟨G,ROW,hGn,hGm,hRs,hRt,rfl,rfl⟩
section
section
variable{P:Program}{g:Gh}{w:World}
theorem iH_{e z:Nat}{xs:List V}{v:Value}(hr:Rep g w (.own true e z xs) v)(hlt:∀k,0<g.I k->k<w.heap.size)(hk:∀k,rb v=some k->g.I k=0/\k<w.heap.size):Bd g w [.own true e z xs] #[v] []/\∀k,OwnB g w [.own true e z xs] #[v] [] k->rb v=some k:=by
 generalize hy:V.own true e z xs=y at *
 have hat:∀l x,(Stn [y] []).at l=some x->l=.var 0/\x=y:=by
  intro l x hx
  cases l with
  | var i =>
    cases i with
    |zero=>simp[Stn,St.at]at hx;exact⟨rfl,hx.symm⟩
    |succ i=>simp[Stn,St.at]at hx
  |cell b o=>simp[Stn,St.at]at hx
 have hval:z3_ (Frn 1) g w ⟨#[v],[]⟩ (.var 0)=some v:=by simp[z3_,Frn,Act.tv]
 have hvar:∀u,z3_ (Frn 1) g w ⟨#[v],[]⟩ (.var 0)=some u->u=v:=fun u h=>by rw[hval]at h;exact(Option.some.inj h).symm
 have hno:∀ {t p x},((Stn [y] []).tm t).sub p=some x->x=.no:=by
  intro t p x hs
  cases p<;>simp[Stn,V.sub]at hs
  exact hs.symm
 have hsub:∀ {p x},y.sub p=some x->p=[]/\x=y:=by
  intro p x hs
  subst hy
  cases p with
  |nil=>simp[V.sub]at hs;exact⟨rfl,hs.symm⟩
  |cons i p=>simp[V.sub]at hs
 have hnl:∀ {d e0 e z:Nat} {xs:List V},y≠.lent d e0 e z xs:=by
  intro d e0 e z xs q
  subst hy
  cases q
 have hown:∀r p k,Own (Frn 1) g w (Stn [y] []) ⟨#[v],[]⟩ r p k->r=.l (.var 0)/\p=[]/\rb v=some k:=by
  intro r p k ⟨x,u,hh,ho⟩
  cases r with
  | t t =>
    obtain⟨rfl,rfl⟩:=hh
    rcases ho with ⟨_,_,_,_,q,_⟩|⟨_,q,_⟩
    .cases hno q
    .simp[Stn,zc_]at q
  | l l =>
    obtain⟨rfl,rfl⟩:=hat l x hh.1
    obtain rfl:=hvar u hh.2
    rcases ho with ⟨e,z,xs,u',q,q1,q2⟩|⟨_,q,_⟩
    .obtain⟨rfl,_⟩:=hsub q
     simp[vsub]at q1
     subst q1
     exact⟨rfl,rfl,q2⟩
    .obtain⟨d,e,z,xs,q1,_⟩:=z0_ q
     exact absurd q1 hnl
 refine⟨⟨rfl,rfl,?_,?_,?_,?_,?_,?_,?_,?_,?_,?_,?_,hlt,?_,?_,?_,?_⟩,fun k ho=>?_⟩
 .intro r x u hh
  cases r with
  |t t=>obtain⟨rfl,rfl⟩:=hh;exact .no
  | l l =>
    obtain⟨rfl,rfl⟩:=hat l x hh.1
    obtain rfl:=hvar u hh.2
    exact hr
 .intro l x hx
  obtain⟨rfl,rfl⟩:=hat l x hx
  exact⟨v,hval,fun ⟨b,o,q⟩=>by cases q⟩
 .intro l d e z xs u hx _
  obtain⟨_,q⟩:=hat l _ hx
  exact absurd q.symm hnl
 .intro b cs hb;simp[Stn]at hb
 .intro b b' hb;simp[Stn]at hb
 .intro r x u p b o hh hs
  cases r with
  |t t=>obtain⟨rfl,rfl⟩:=hh;cases hno hs
  | l l =>
    obtain⟨rfl,rfl⟩:=hat l x hh.1
    obtain⟨_,q⟩:=hsub hs
    subst hy
    cases q
 .intro r p k ho
  obtain⟨_,_,h⟩:=hown r p k ho
  exact⟨(hk k h).1,(hk k h).2,fun b hb=>by simp[Stn]at hb⟩
 .intro r p r' p' k h1 h2
  obtain⟨a1,a2,_⟩:=hown r p k h1
  obtain⟨b1,b2,_⟩:=hown r' p' k h2
  exact⟨a1.trans b1.symm,a2.trans b2.symm⟩
 .intro t p x u hx hu
  cases hno hx
  trivial
 .intro l x hx p
  obtain⟨rfl,rfl⟩:=hat l x hx
  refine⟨?_,?_,?_,?_⟩<;>intros<;>intro hs<;>obtain⟨_,q⟩:=hsub hs<;>subst hy<;>cases q
 .intro t p d e0 e z xs hs
  cases hno hs
 .intro t _;rfl
 .intro t p x hx
  cases hno hx
  exact zzn_ _
 .intro l x hx
  obtain⟨rfl,rfl⟩:=hat l x hx
  subst hy
  exact zzn_ _
 .intro l d e z xs u k hx
  obtain⟨_,q⟩:=hat l _ hx
  exact absurd q.symm hnl
 .rcases ho with ⟨r,p,ho⟩|⟨b,hb,_⟩
  .exact(hown r p k ho).2.2
  .simp[Stn]at hb
theorem lB_{f:Nat}{args:List V}{e z:Nat}{ys:List V} (h:∀g w vals,Bd g w args vals []->Calls P f vals w fun e' w'=>∃v,e'=.returned v/\Rep g w' (.own true e z ys) v/\w'.os=w.os/\w'.tape=w.tape/\w'.output=w.output/\w.heap.size<=w'.heap.size /\
 (∀k,k<w.heap.size->¬OwnB g w args vals [] k->w'.heap[k]?=w.heap[k]?)/\(∀k,rb v=some k->(OwnB g w args vals [] k\/w.heap.size<=k)/\k<w'.heap.size)):AC P f args [] fun r bs=>r=.own true e z ys/\bs=[]:=by
 intro g w vals hb
 refine(h g w vals hb).mono ?_
 rintro e' w' ⟨v,rfl,hr,h1,h2,h3,h4,h5,h6⟩
 have hI:∀k,OwnB g w args vals [] k->g.I k=0:=fun k ho=>by
  rcases ho with ⟨r,p,ho⟩|⟨b,hbx,_⟩
  .exact(hb.ownI r p k ho).1
  .simp[Stn]at hbx
 obtain⟨q1,q2⟩:=iH_ hr (fun k hk=>zzk_ (hb.Ilt k hk) h4) fun k hk=>⟨by
  rcases(h6 k hk).1 with ho|ho
  .exact hI k ho
  .by_cases h0:0<g.I k
   .have:=hb.Ilt k h0;omega
   .omega,(h6 k hk).2⟩
 exact⟨v,_,[],g,rfl,⟨rfl,rfl⟩,rfl,q1,h1,h2,h3,h4,fun k hk hn=>⟨h5 k hk hn,rfl⟩,fun k hk=>(h6 k (q2 k hk)).1,fun b hb=>by simp at hb⟩
end
def fl(l:List Sg):List Value:=l.flatMap fun s=>[.int .i64 s.t,.int .i64 s.s]
theorem xP_:∀(l:List Sg),flat (sl l)=(fl l).map .s
 |[]=>rfl
 | x :: r => by
   have:=xP_ r
   simp only[sl,List.map_cons,flat,fl,List.flatMap_cons,List.map_append]at this ⊢
   rw[this]
   rfl
theorem wB_(l:List Sg):(fl l).length=l.length*2:=by
 induction l with
 |nil=>rfl
 |cons x r ih=>simp only[fl,List.flatMap_cons,zzr_,List.length_cons,List.length_nil]at ih ⊢;omega
theorem sp_(a b:List Sg):fl (a++b)=fl a++fl b:=by simp[fl]
theorem kT_(l:List Sg):∀i,(fl l).take (i*2)=fl (l.take i):=by
 induction l with
 |nil=>simp[fl]
 | cons x r ih =>
   intro i
   cases i with
   |zero=>simp[fl]
   |succ i=>rw[yyn_,List.take_succ_cons];simp only[fl,List.flatMap_cons,Nat.one_mul]at ih ⊢;simp[ih i]
theorem kU_(l:List Sg):∀i,(fl l).drop (i*2)=fl (l.drop i):=by
 induction l with
 |nil=>simp[fl]
 | cons x r ih =>
   intro i
   cases i with
   |zero=>simp[fl]
   |succ i=>rw[yyn_,List.drop_succ_cons];simp only[fl,List.flatMap_cons,Nat.one_mul]at ih ⊢;simp[ih i]
theorem uK_(l:List Sg):∀v∈fl l,v.oneCell'=true:=by
 intro v hv
 simp only[fl,List.mem_flatMap]at hv
 obtain⟨s,_,h⟩:=hv
 simp at h
 rcases h with rfl|rfl<;>rfl
theorem rP_(l:List Sg):∀x∈sl l,(cellsOf x).length=2:=by
 intro x hx
 simp only[sl,List.mem_map]at hx
 obtain⟨s,_,rfl⟩:=hx
 rfl
theorem of_{g:Gh}{w:World}{l:List Sg}{v:Value}(h:Rep g w (.own true 36 2 (sl l)) v)(hl:l≠[]) :
 ∃k cap cur,v=.slice (some ⟨k,0,none⟩) l.length cap/\l.length<=cap/\cap<=maxLen/\0<cap/\w.heap[k]?=some (.cells cur 36 (0,0))/\cur.size=cap*2/\cur.toList.take (l.length*2)=fl l:=by
 generalize hx:sl l=xs at h
 cases h with
 | own vals h0 hc hm hh hs hz hi hcell hrep =>
   rename_i k cap cur
   subst hx
   have hll:(sl l).length=l.length:=by simp[sl]
   refine⟨k,cap,cur,by rw[hll],by omega,hm,h0,hh,hs,?_⟩
   refine List.ext_getElem? fun j=>?_
   rw[zzu_]
   split
   .next hj =>
    have hj':j<(flat (sl l)).length:=by rw[xP_,List.length_map,wB_];exact hj
    have h1:=hcell j hj'
    have h2:=hrep j _ (zzf_ hj')
    have h3:(fl l)[j]?=some ((fl l)[j]'(by rw[wB_];exact hj)):=zzf_ _
    have h4:(flat (sl l))[j]=.s ((fl l)[j]'(by rw[wB_];exact hj)):=by simp[xP_]
    rw[h4]at h2
    rw[h3,Array.getElem?_toList,h1]
    generalize vals j=u at h2
    generalize (fl l)[j]'(by rw[wB_];exact hj)=c at h2
    cases h2
    rfl
   .next hj=>rw[List.getElem?_eq_none (by rw[wB_];omega)]
 | own0 => cases l with
   |nil=>exact absurd rfl hl
   |cons x r=>simp[sl]at hx
theorem ov_{g:Gh}{w:World}{l:List Sg}{k cap:Nat}{cur:Array Value}(hc:l.length<=cap)(hm:cap<=maxLen)(hh:w.heap[k]?=some (.cells cur 36 (0,0)))(hs:cur.size=cap*2)(ht:cur.toList.take (l.length*2)=fl l) :
 Rep g w (.own true 36 2 (sl l)) (.slice (some ⟨k,0,none⟩) l.length cap):=by
 have hll:(sl l).length=l.length:=by simp[sl]
 refine Rep.of_owns (cells:=fl l) (by rw[hll];exact⟨wB_ l,.inr ⟨k,cap,cur,rfl,zzn_ _,hh,hc,hm,hs,ht⟩⟩) (rP_ l) (fun u hu=>?_) (fun j u hu=>?_)
 .rw[xP_]at hu
  obtain⟨c,_,rfl⟩:=List.mem_map.1 hu
  rfl
 .rw[xP_,zzs_]at hu
  cases hc:(fl l)[j]? with
  |none=>rw[hc]at hu;cases hu
  | some c =>
    rw[hc]at hu
    cases hu
    exact⟨c,rfl,.s (uK_ l c (zzd_ hc))⟩
end
def insS(l:List Sg)(i:Nat)(x:Sg):List Sg:=l.take i++x::l.drop i
theorem xY_{l:List Sg}{i:Nat}{x:Sg}(h:i<=l.length):(insS l i x).length=l.length+1:=by simp[insS];omega
theorem oQ_(l:List Sg)(i:Nat)(x:Sg):fl (insS l i x)=(fl l).take (i*2)++fl [x]++(fl l).drop (i*2):=by
 rw[kT_,kU_,<-sp_,<-sp_]
 simp[insS]
theorem qx_{g:Gh}{w:World}{a b c:V}{vals:Array Value}(h:Bd g w [a,b,c] vals []):∃u v x,vals=#[u,v,x]/\Rep g w a u/\Rep g w b v/\Rep g w c x:=by
 have hs:vals.size=3:=h.sz
 obtain⟨l⟩:=vals
 match l,hs with
 | [u, v, x], _ =>
   have hv:∀i y,i<3->[u,v,x][i]?=some y->z3_ (Frn 3) g w ⟨#[u,v,x],[]⟩ (.var i)=some y:=fun i y hi hy=>by
    match i,hi with
    |0,_=>simp[z3_,Frn,Act.tv]at hy ⊢;exact hy
    |1,_=>simp[z3_,Frn,Act.tv]at hy ⊢;exact hy
    |2,_=>simp[z3_,Frn,Act.tv]at hy ⊢;exact hy
   exact⟨u,v,x,rfl,h.rep (.l (.var 0)) a u ⟨rfl,hv 0 u (by omega) rfl⟩,h.rep (.l (.var 1)) b v ⟨rfl,hv 1 v (by omega) rfl⟩,h.rep (.l (.var 2)) c x ⟨rfl,hv 2 x (by omega) rfl⟩⟩
theorem vV_{g:Gh}{w:World}{args:List V}{vals:Array Value}{i:Nat}{e z:Nat}{xs:List V}{v:Value}{k:Nat}(hi:args[i]?=some (.own true e z xs))(hv:z3_ (Frn args.length) g w ⟨vals,[]⟩ (.var i)=some v)(hk:rb v=some k) :
 Own (Frn args.length) g w (Stn args []) ⟨vals,[]⟩ (.l (.var i)) [] k:=⟨_,v,⟨hi,hv⟩,.inl ⟨e,z,xs,v,rfl,rfl,hk⟩⟩
set_option maxHeartbeats 2000000 in
set_option maxRecDepth 100000 in
theorem oP_(w:World)(n:Nat)(A:Option Addr)(cap:Nat)(x v':Value)(w':World)(hc:n<=cap)(h63:cap<=maxLen)(hA:A=none->cap=0)(xa:Option Addr)(vc:Nat)(hx:x=.slice xa 1 vc)(hrun:∀ty,(Builtin.append_ #[37,37] ty #[.slice A n cap,x]).run Try.prog w=.ok v' w') :
 Calls Try.prog 80 #[.slice A n cap,.int .i64 n,x] w fun e w1=>e=.returned v'/\w1=w':=by
 subst hx
 have H:=Lib.hid hrun
 have hn63:cap<=9223372036854775807:=by unfold maxLen at h63;omega
 have mx:=zD_
 clear hrun
 cases A with
 | none =>
   have h0:=hA rfl
   subst h0
   have hn0:n=0:=by omega
   subst hn0
   go_enter Try.func80,Try.ntmps80
   go_wp2_with (at_builtin;refine Lib.wpList_append_run _ rfl _ _ _ _ rfl _ _ rfl rfl _ _ (H.out _) ?_)
   all_goals go_ret
   all_goals exact⟨rfl,rfl⟩
 | some ad =>
   obtain⟨ab,ao,asp⟩:=ad
   go_enter Try.func80,Try.ntmps80
   go_wp2_with (at_builtin;refine Lib.wpList_append_run _ rfl _ _ _ _ rfl _ _ rfl rfl _ _ (H.out _) ?_)
   all_goals go_ret
   all_goals exact⟨rfl,rfl⟩
theorem sY_{g:Gh}{w:World}{c v:Value}(h:Rep g w (.s c) v):v=c:=by cases h;rfl
theorem pZ_{k n cap:Nat}(h:0<cap):rb (.slice (some ⟨k,0,none⟩) n cap)=some k:=by simp[rb];omega
theorem r3_{k j n cap:Nat}(h:rb (.slice (some ⟨k,0,none⟩) n cap)=some j):j=k:=by
 simp[rb]at h
 exact h.2.symm
theorem z4_(k:Nat):∀(vs:List Value) (o:Nat) (W:World),(W.setCells k o vs).os=W.os/\(W.setCells k o vs).tape=W.tape/\(W.setCells k o vs).output=W.output
 |[],_,_=>⟨rfl,rfl,rfl⟩
 | v :: r, o, W => by
   rw[World.setCells]
   exact z4_ k r (o+1) (W.setCell ⟨k,o,none⟩ v)
set_option maxHeartbeats 4000000 in
set_option maxRecDepth 100000 in
theorem sK_(l:List Sg)(i:Nat)(x:Sg)(hl:l.length<=1000000)(hi:i<=l.length):AC Try.prog 80 [.own true 36 2 (sl l),.s (.int .i64 i),.own true 36 2 [x.v]] [] fun r bs=>r=.own true 36 2 (sl (insS l i x))/\bs=[]:=by
 refine lB_ fun g w vals hb=>?_
 obtain⟨v0,v1,v2,rfl,r0,r1,r2⟩:=qx_ hb
 obtain rfl:=sY_ r1
 have r2':Rep g w (.own true 36 2 (sl [x])) v2:=r2
 obtain⟨kv,capv,cx,rfl,c1,c2,c3,c4,c5,c6⟩:=of_ r2' (by simp)
 have hval0:z3_ (Frn 3) g w ⟨#[v0,.int .i64 i,.slice (some ⟨kv,0,none⟩) 1 capv],[]⟩ (.var 0)=some v0:=by simp[z3_,Frn,Act.tv]
 have hval2:z3_ (Frn 3) g w ⟨#[v0,.int .i64 i,.slice (some ⟨kv,0,none⟩) 1 capv],[]⟩ (.var 2)=some (.slice (some ⟨kv,0,none⟩) 1 capv):=by simp[z3_,Frn,Act.tv]
 have own0:∀k,rb v0=some k->OwnB g w [.own true 36 2 (sl l),.s (.int .i64 i),.own true 36 2 [x.v]] #[v0,.int .i64 i,.slice (some ⟨kv,0,none⟩) 1 capv] [] k:=fun k hk=>.inl ⟨_,_,vV_ (i:=0) rfl hval0 hk⟩
 have own2:=vV_ (i:=2) (args:=[.own true 36 2 (sl l),.s (.int .i64 i),.own true 36 2 [x.v]]) rfl hval2 (pZ_ (n:=1) c3)
 have hne:∀k,rb v0=some k->kv≠k:=fun k hk e=>by
  subst e
  have h1:=vV_ (i:=0) (args:=[.own true 36 2 (sl l),.s (.int .i64 i),.own true 36 2 [x.v]]) rfl hval0 hk
  have:=(hb.uniq _ _ _ _ _ h1 own2).1
  simp at this
 have hsl:(sl l).length=l.length:=by simp[sl]
 by_cases he:i=l.length
 .subst he
  obtain⟨i0,hi0,hz0,hzs,hzb⟩:∃i0,Try.prog.info? 36=some i0/\i0.zero=some z36/\i0.size=2/\i0.bytes=16:=⟨_,rfl,by kernel_rfl,by kernel_rfl,by kernel_rfl⟩
  have hI:∀k,rb v0=some k->g.I k=0:=fun k hk=>(hb.ownI _ _ _ (vV_ (i:=0) (args:=[.own true 36 2 (sl l),.s (.int .i64 l.length),.own true 36 2 [x.v]]) rfl hval0 hk)).1
  obtain⟨v',w',hrun,ok⟩:=rT_ (P:=Try.prog) (t:=37) (ty:=37) (z:=2) (zv:=z36) (ys:=sl [x]) Try.underlying37 hi0 hz0 hzs (by rfl) (by omega) (by omega) r0 (z':=2) (u:=.slice (some ⟨kv,0,none⟩) 1 capv) r2'.reads_own (.inl rfl) (by rw[hsl];simp[sl,maxLen];omega) (by rw[hsl,hzb];simp[sl,zf_];omega) hI hb.Ilt (rP_ l) (fun u hu=>by rw[xP_]at hu;obtain⟨c,_,rfl⟩:=List.mem_map.1 hu;rfl)
  have e1:insS l l.length x=l++[x]:=by simp[insS]
  have e2:sl (insS l l.length x)=sl l++sl [x]:=by rw[e1];simp[sl]
  have main:Calls Try.prog 80 #[v0,.int .i64 (l.length:Nat),.slice (some ⟨kv,0,none⟩) 1 capv] w fun e w1=>e=.returned v'/\w1=w':=by
   generalize hx:V.own true 36 2 (sl l)=y at r0
   cases r0 with
   | own vals h0 hc hm hh hs hz hi' hcell hrep =>
     cases hx
     rw[hsl]at hrun hc ⊢
     exact oP_ w l.length _ _ _ v' w' hc hm (fun h=>by cases h) _ _ rfl fun ty=>hrun
   | own0 =>
     have hn:l=[]:=by
      cases l with
      |nil=>rfl
      |cons a r=>simp[sl]at hx
     subst hn
     exact oP_ w 0 _ 0 _ v' w' (by omega) (by simp[maxLen]) (fun _=>rfl) _ _ rfl fun ty=>hrun
   |_=>cases hx
  refine main.mono ?_
  rintro e w1 ⟨rfl,rfl⟩
  refine⟨v',rfl,by rw[e2];exact ok.rep,ok.os,ok.tape,ok.output,ok.size,fun k hk hn=>ok.block k hk fun h=>hn (own0 k h),fun k hk=>⟨?_,?_⟩⟩
  .rcases ok.at_ k hk with h|h
   .exact .inl (own0 k h)
   .exact .inr h
  .have hr:=ok.rep
   generalize hy:V.own true 36 2 (sl l++sl [x])=y at hr
   cases hr with
   | own vals h0 hc hm hh hs hz hi' hcell hrep =>
     have:=r3_ hk
     subst this
     exact(zzm_.1 hh).1
   |own0=>simp[sl]at hy
   |_=>cases hy
 .have hn0:l≠[]:=by rintro rfl;simp at hi;exact he (by simp[hi])
  obtain⟨k,cap,cur,rfl,d1,d2,d3,d4,d5,d6⟩:=of_ r0 hn0
  have hk:=pZ_ (k:=k) (n:=l.length) d3
  have hkw:=(zzm_.1 d4).1
  have hlf:=wB_ l
  have hcx:cx.toList.take 2=fl [x]:=c6
  by_cases hroom:l.length+1<=cap
  .refine(mq_ w k l.length cap i kv capv cur cx (fl l) (fl [x]) (by omega) hroom d2 d4 d5 d6 c4 hcx rfl (hne k hk) (uK_ l) (uK_ [x])).mono ?_
   rintro e w' ⟨rfl,rfl⟩
   obtain⟨cur1,q1,q2,q3⟩:=zq_ ((fl l).drop (i*2)) ((i+1)*2) w.drew k cur 36 d4 (by rw[List.length_drop,hlf];omega)
   obtain⟨cur2,p1,p2,p3⟩:=zq_ (fl [x]) (i*2) _ k cur1 36 q1 (by rw[q2];simp[fl];omega)
   have hs1:∀vs o (W:World),(W.setCells k o vs).heap.size=W.heap.size:=fun vs=>by
    induction vs with
    |nil=>intro o W;rfl
    |cons v r ih=>intro o W;rw[World.setCells,ih];simp[World.setCell]
   have hrep:=ov_ (g:=g) (l:=insS l i x) (by rw[xY_ hi];exact hroom) d2 p1 (by rw[p2,q2,d5]) (by
    have e1:cur.toList=fl l++cur.toList.drop (l.length*2):=by rw[<-d6,List.take_append_drop]
    rw[xY_ hi,oQ_,p3,q3]
    have hcl:cur.toList.length=cap*2:=by simpa using d5
    generalize cur.toList=C at e1 hcl
    generalize hsp:C.drop (l.length*2)=sp at e1
    have hspl:2<=sp.length:=by rw[<-hsp,List.length_drop];omega
    have ex:(fl [x]).length=2:=rfl
    generalize fl [x]=X at ex
    generalize fl l=L at hlf e1
    subst e1
    rw[ex,show (i+1)*2=i*2+2 by omega]
    have a1:((L++sp).take (i*2+2)).length=i*2+2:=by simp;omega
    have a3:(((L++sp).take (i*2+2)++L.drop (i*2)++(L++sp).drop (i*2+2+(L.drop (i*2)).length)).drop (i*2+2))=L.drop (i*2)++(L++sp).drop (i*2+2+(L.drop (i*2)).length):=by
     rw[zzq_,List.drop_append_of_le_length (by omega),List.drop_eq_nil_of_le (by omega),List.nil_append]
    have a4:((L++sp).take (i*2+2)++L.drop (i*2)++(L++sp).drop (i*2+2+(L.drop (i*2)).length)).take (i*2)=L.take (i*2):=by
     rw[zzq_,yyr_ (by omega),List.take_take,Nat.min_eq_left (by omega),yyr_ (by omega)]
    rw[a3,a4,<-List.append_assoc,yyr_ (by simp;omega),zzx_ (by simp;omega)])
   rw[xY_ hi]at hrep
   refine⟨_,rfl,hrep,?_,?_,?_,?_,fun j hj hn=>?_,fun j hj=>?_⟩
   .rw[(z4_ _ _ _ _).1,(z4_ _ _ _ _).1];rfl
   .rw[(z4_ _ _ _ _).2.1,(z4_ _ _ _ _).2.1];rfl
   .rw[(z4_ _ _ _ _).2.2,(z4_ _ _ _ _).2.2];rfl
   .rw[hs1,hs1];exact zzl_ _
   .have hjk:j≠k:=by rintro rfl;exact hn (own0 _ hk)
    rw[zp_ (by rw[hs1];exact hj) hjk,zp_ (w:=w.drew) hj hjk]
    rfl
   .have:=r3_ hj
    subst this
    exact⟨.inl (own0 _ hk),by rw[hs1,hs1];exact hkw⟩
  .refine(ms_ w k l.length cap i kv capv cur cx (fl l) (fl [x]) (by omega) (by omega) d1 hl d4 d5 d6 c4 hcx rfl (hne k hk) (uK_ l) (uK_ [x])).mono ?_
   rintro e w' ⟨G,ROW,g1,g2,g3,g4,rfl,rfl⟩
   have hH:((w.alloc (.cells ROW 36)).drew).heap[w.heap.size]?=some (.cells ROW 36 (0,0)):=heap_alloc_new w _
   obtain⟨cur1,q1,q2,q3⟩:=zq_ (fl [x]) (i*2) ((w.alloc (.cells ROW 36)).drew) w.heap.size ROW 36 hH (by simp[fl];omega)
   obtain⟨cur2,p1,p2,p3⟩:=zq_ ((fl l).drop (i*2)) ((i+1)*2) (((w.alloc (.cells ROW 36)).drew.setCells w.heap.size (i*2) (fl [x])).drew) w.heap.size cur1 36 q1 (by rw[q2,List.length_drop,hlf];omega)
   have hs1:∀vs o (W:World),(W.setCells w.heap.size o vs).heap.size=W.heap.size:=fun vs=>by
    induction vs with
    |nil=>intro o W;rfl
    |cons v r ih=>intro o W;rw[World.setCells,ih];simp[World.setCell]
   have hrep:=ov_ (g:=g) (l:=insS l i x) (by rw[xY_ hi];exact g1) g2 p1 (by rw[p2,q2,g3]) (by
    rw[xY_ hi,oQ_,p3,q3]
    have hcl:ROW.toList.length=G*2:=by simpa using g3
    have ex:(fl [x]).length=2:=rfl
    generalize ROW.toList=C at g4 hcl
    generalize fl [x]=X at ex
    generalize fl l=L at hlf g4
    rw[ex,g4,show (i+1)*2=i*2+2 by omega]
    have a1:(L.take (i*2)++X).length=i*2+2:=by simp;omega
    generalize hT:L.take (i*2)++X=T at a1
    have a2:(T++C.drop (i*2+2)).take (i*2+2)=T:=by rw[yyr_ (by omega),zzx_ (by omega)]
    rw[a2,yyr_ (by simp;omega),zzx_ (by simp;omega)])
   rw[xY_ hi]at hrep
   have hsz:((w.alloc (.cells ROW 36)).drew).heap.size=w.heap.size+1:=by simp[World.drew]
   refine⟨_,rfl,hrep,?_,?_,?_,?_,fun j hj hn=>?_,fun j hj=>?_⟩
   .rw[(z4_ _ _ _ _).1];exact((z4_ _ _ _ _).1).trans rfl
   .rw[(z4_ _ _ _ _).2.1];exact((z4_ _ _ _ _).2.1).trans rfl
   .rw[(z4_ _ _ _ _).2.2];exact((z4_ _ _ _ _).2.2).trans rfl
   .rw[hs1];show w.heap.size<=(World.setCells _ _ _ _).heap.size;rw[hs1,hsz];omega
   .have hjk:j≠w.heap.size:=by omega
    rw[zp_ (by show j<(World.setCells _ _ _ _).heap.size;rw[hs1,hsz];omega) hjk]
    show (World.setCells _ _ _ _).heap[j]?=_
    rw[zp_ (by rw[hsz];omega) hjk]
    exact Below.heap_alloc w _ j hj
   .have:=r3_ hj
    subst this
    exact⟨.inr (zzl_ _),by rw[hs1];show _<(World.setCells _ _ _ _).heap.size;rw[hs1,hsz];omega⟩
set_option maxHeartbeats 4000000 in
set_option maxRecDepth 100000 in
theorem ng_(w:World)(k n cap:Nat)(cur:Array Value)(cs:List Value)(hn:0<n)(hnc:n<=cap)(hm:cap<=maxLen)(hh:w.heap[k]?=some (.cells cur 36 (0,0)))(hsz:cur.size=cap*2)(hcs:cur.toList.take (n*2)=cs)(h1c:∀v∈cs,v.oneCell'=true) :
 Calls Try.prog 72 #[.slice (some ⟨k,0,none⟩) n cap,.int .i64 0,.int .i64 1] w fun e w'=>e=.returned (.slice (some ⟨k,0,none⟩) (n-1) cap)/\w'=(w.drew.setCells k 0 (cs.drop 2)).setCells k ((n-1)*2) [.int .i64 0,.int .i64 0]:=by
 have hcl:cs.length=n*2:=by rw[<-hcs];simp;omega
 have hff:∀W:World,∀c:Array Value,∀b j,W.heap[b]?=some (.cells c 36 (0,0))->W.frozen? ⟨b,j,none⟩=false:=fun W c b j h=>by simp[World.frozen?,h]
 have hcv:∀j v,cs[j]?=some v->w.cell? ⟨k,j,none⟩=some v:=fun j v hj=>by
  rw[<-hcs,zzu_]at hj
  split at hj
  .simpa[World.cell?,hh] using hj
  .cases hj
 obtain⟨i0,hi0,hz0,hzs,hzb⟩:∃i0,Try.prog.info? 36=some i0/\i0.zero=some z36/\i0.size=2/\i0.bytes=16:=⟨_,rfl,by kernel_rfl,by kernel_rfl,by kernel_rfl⟩
 obtain⟨news,hnews⟩:∃news,news=cs.drop 2:=⟨_,rfl⟩
 have hlen:news.length=(n-1)*2:=by rw[hnews,List.length_drop,hcl];omega
 obtain⟨A,hA,hsrc⟩:∃A:Addr,(if cap=1 then some (⟨k,0,none⟩:Addr) else some ⟨k,2,none⟩)=some A/\(∀t u,news[t]?=some u->w.drew.cell? (A.add t)=some u):=by
  by_cases h:cap=1
  .refine⟨⟨k,0,none⟩,by simp[h],fun t u hu=>?_⟩
   have h0:news.length=0:=by rw[hlen];omega
   rw[List.length_eq_zero_iff.1 h0]at hu
   simp at hu
  .refine⟨⟨k,2,none⟩,by simp[h],fun t u hu=>?_⟩
   rw[hnews,zzA_]at hu
   rw[Addr.add_lit]
   exact hcv _ u hu
 have s2:∀u∈news,u.oneCell'=true:=fun u hu=>h1c u (yyl_ (hnews ▸ hu))
 have s3:∀t,t<news.length->(w.drew.cell? ⟨k,0+0*2+t,none⟩).isSome=true/\w.drew.frozen? ⟨k,0+0*2+t,none⟩=false:=fun t ht=>by
  refine⟨?_,hff w.drew _ _ _ hh⟩
  have hh':w.drew.heap[k]?=some (.cells cur 36 (0,0)):=hh
  simp only[World.cell?,hh']
  simp
  omega
 obtain⟨cur1,q1,q2,q3⟩:=zq_ news 0 w.drew k cur 36 hh (by omega)
 obtain⟨W1,hW1⟩:∃W1,W1=w.drew.setCells k 0 news:=⟨_,rfl⟩
 rw[<-hW1]at q1
 have hv36:∀w,(zeroValue 36).run Try.prog w=.ok z36 w:=fun w=>by rfl
 have hcl2:∀ty,(Builtin.clear_ #[37] ty #[.slice (some ⟨k,(n-1)*2,none⟩) (n-(n-1)) (cap-(n-1))]).run Try.prog W1=.ok (.tuple #[]) (W1.setCells k ((n-1)*2) [.int .i64 0,.int .i64 0]):=fun ty =>
  sW_ (P:=Try.prog) W1 37 36 ty z36 Try.underlying37 hv36 [.int .i64 0,.int .i64 0] k ((n-1)*2) (n-(n-1)) (cap-(n-1)) (by rw[show n-(n-1)=1 by omega];kernel_rfl) (fun v hv=>by simp at hv;rw[hv];rfl) (by omega)
   (fun j hj=>by simp only[World.cell?,q1];simp at hj ⊢;omega) (fun j hj=>hff W1 _ _ _ q1)
 have S1:=Lib.hid hlen
 have S2:=Lib.hid s2
 have S3:=Lib.hid s3
 have SR:=Lib.hid hsrc
 have HX:=Lib.hid hW1
 have HN:=Lib.hid hnews
 have C:=hcl2
 clear hW1 hnews hcl2 s2 s3 hsrc hcv hff q1 q2 q3 hlen
 have hcap63:cap<=9223372036854775807:=by unfold maxLen at hm;omega
 have h1n:1<=n:=hn
 have h1cap:1<=cap:=by omega
 have h1ni:(1:Int)<=(n:Int):=by omega
 have mx:=zD_
 go_enter Try.func72,Try.ntmps72
 go_wp2_with fail
 go_region_law_o (refine step_append_room rfl (.tmp 22) (.tmp 25) 37 rfl 36 i0 2 Try.underlying37 hi0 hzs k 0 0 cap (by simp[Act.eval,Act.put]) A (n-1) (cap-1) news (by simp[Act.eval,Act.put,hA]) S1.out SR.out S2.out (by omega) S3.out ?_;rw[<-HX.out])
 go_wp2_with (at_builtin;refine uU_ _ rfl _ 37 rfl _ rfl (C _) ?_)
 go_ret
 exact⟨rfl,by rw[HX.out,HN.out]⟩
set_option maxHeartbeats 4000000 in
set_option maxRecDepth 100000 in
theorem sL_(x:Sg)(r:List Sg):AC Try.prog 72 [.own true 36 2 (sl (x::r)),.s (.int .i64 0),.s (.int .i64 1)] [] fun q bs=>q=.own true 36 2 (sl r)/\bs=[]:=by
 refine lB_ fun g w vals hb=>?_
 obtain⟨v0,v1,v2,rfl,r0,r1,r2⟩:=qx_ hb
 obtain rfl:=sY_ r1
 obtain rfl:=sY_ r2
 have hval0:z3_ (Frn 3) g w ⟨#[v0,.int .i64 0,.int .i64 1],[]⟩ (.var 0)=some v0:=by simp[z3_,Frn,Act.tv]
 have own0:∀k,rb v0=some k->OwnB g w [.own true 36 2 (sl (x::r)),.s (.int .i64 0),.s (.int .i64 1)] #[v0,.int .i64 0,.int .i64 1] [] k:=fun k hk=>.inl ⟨_,_,vV_ (i:=0) rfl hval0 hk⟩
 obtain⟨k,cap,cur,rfl,d1,d2,d3,d4,d5,d6⟩:=of_ r0 (by simp)
 have hk:=pZ_ (k:=k) (n:=(x::r).length) d3
 have hkw:=(zzm_.1 d4).1
 have hlf:=wB_ (x::r)
 have hl1:(x::r).length=r.length+1:=rfl
 refine(ng_ w k (x::r).length cap cur (fl (x::r)) (by omega) d1 d2 d4 d5 d6 (uK_ _)).mono ?_
 rintro e w' ⟨rfl,rfl⟩
 obtain⟨cur1,q1,q2,q3⟩:=zq_ ((fl (x::r)).drop 2) 0 w.drew k cur 36 d4 (by rw[List.length_drop,hlf];omega)
 obtain⟨cur2,p1,p2,p3⟩:=zq_ [Value.int .i64 0,.int .i64 0] (((x::r).length-1)*2) _ k cur1 36 q1 (by rw[q2];simp;simp at d1;omega)
 have hs1:∀vs o (W:World),(W.setCells k o vs).heap.size=W.heap.size:=fun vs=>by
  induction vs with
  |nil=>intro o W;rfl
  |cons v r ih=>intro o W;rw[World.setCells,ih];simp[World.setCell]
 have hd:(fl (x::r)).drop 2=fl r:=by simp[fl]
 have hlr:=wB_ r
 have hrep:=ov_ (g:=g) (l:=r) (by omega) d2 p1 (by rw[p2,q2,d5]) (by
  rw[p3,q3,hd,hl1,Nat.add_sub_cancel]
  have hcl:cur.toList.length=cap*2:=by simpa using d5
  simp only[List.take_zero,List.nil_append,Nat.zero_add]
  rw[zzq_,yyr_ (by simp;omega),List.take_take,Nat.min_self,yyr_ (by omega),zzx_ (by omega)])
 refine⟨_,rfl,hrep,?_,?_,?_,?_,fun j hj hn=>?_,fun j hj=>?_⟩
 .rw[(z4_ _ _ _ _).1,(z4_ _ _ _ _).1];rfl
 .rw[(z4_ _ _ _ _).2.1,(z4_ _ _ _ _).2.1];rfl
 .rw[(z4_ _ _ _ _).2.2,(z4_ _ _ _ _).2.2];rfl
 .rw[hs1,hs1];exact zzl_ _
 .have hjk:j≠k:=by rintro rfl;exact hn (own0 _ hk)
  rw[zp_ (by rw[hs1];exact hj) hjk,zp_ (w:=w.drew) hj hjk]
  rfl
 .have:=r3_ hj
  subst this
  exact⟨.inl (own0 _ hk),by rw[hs1,hs1];exact hkw⟩
def tstA(s:Int)(v:Nat):Bool:=bits .and .i64 s ((2^v:Nat):Int) != 0
def mbU(s:Int)(i:Nat):List Int:=((List.range i).filter fun v=>tstA s v).map fun v:Nat=>(v:Int)
theorem mf_(s:Int)(i:Nat):mbU s (i+1)=if tstA s i then mbU s i++[(i:Int)] else mbU s i:=by
 unfold mbU
 rw[yyv_,List.filter_append,List.map_append]
 cases e:tstA s i<;>simp[e]
theorem tb_(s:Int)(i:Nat):(mbU s i).length<=i:=by
 unfold mbU
 rw[List.length_map]
 exact yyd_ (List.length_filter_le _ _) (by simp)
theorem pow9{i:Nat}(h:i<=12):(2:Int)^min i IntKind.i64.bits=((2^i:Nat):Int):=by
 rw[show min i IntKind.i64.bits=i by simp[IntKind.bits];omega];simp
def mbI(s:Int)(m:Nat)(S:St):Prop:=∃i:Nat,i+m=9/\S=⟨tmL [(5,.s (.int .i64 i))],[.s (.int .i64 s),.s (.slice none 0 0),.own true 3 1 (iv (mbU s i)),.no],[],0⟩
set_option maxHeartbeats 4000000 in
theorem wX_(s:Int):PC Try.prog 35 [.s (.int .i64 s)] (fun r=>r=.list 1 (iv (mbU s 9))):=by
 refine xL_ (q:=fun r=>frT r (.list 1 (iv (mbU s 9)))) ?_ fun x hx _=>⟨_,hx,rfl,rfl⟩
 refine zH_ c35 zD_ rfl ?_
 simp -implicitDefEqProofs [a35,F35]
 refine zn_ [5] [3] 0 (zzl_ _) (mbI s) 9 ⟨by simp,0,by simp,by simp[mbU,iv]⟩ ?_
 rintro m S ⟨i,hi,rfl⟩
 by_cases hm:i<9
 .have g1:(i:Int)<9:=by omega
  have g0:¬(i:Int)<0:=by omega
  have hw:=zo_ (n:=(i:Int)+1) (by omega)
  have hsh:=shl1 (n:=i) (by omega)
  have h2n:=pow9 (i:=i) (by omega)
  have hlen:=tb_ s i
  have b1:(mbU s i).length+1<=maxLen/\((mbU s i).length+1)*8<=zf_:=by simp[maxLen,zf_];omega
  have hs:=mf_ s i
  have hbit:tstA s i=(bits .and .i64 s ((2^i:Nat):Int) != 0):=rfl
  rw[h2n]at hsh
  generalize mbU s i=out at hs b1 hlen
  generalize ((2^i:Nat):Int)=p at hsh hbit h2n
  cases hb:tstA s i
  .rw[hb]at hs hbit
   simp -implicitDefEqProofs [g1,g0,h2n,hsh,↓zg_,<-hbit,hw]
   exact⟨m-1,by omega,i+1,by omega,by rw[hs];simp⟩
  .rw[hb]at hs hbit
   simp -implicitDefEqProofs [g1,g0,h2n,hsh,↓zg_,<-hbit,b1,hw]
   exact⟨m-1,by omega,i+1,by omega,by rw[hs];simp[iv]⟩
 .have g1:¬(i:Int)<9:=by omega
  have e:i=9:=by omega
  subst e
  simp -implicitDefEqProofs [frT,frAs,frA,frLs,frL,immC]
theorem zd_(k:IntKind)(a b:Int):binS .andNot (.int k a) (.int k b)=some (.int k (bits .andNot k a b)):=by simp only[binS,if_true];rfl
def aokB(b:Bl):Bool:=!(bits .andNot .i64 (bits .or .i64 (bits .or .i64 b.votes b.fail) b.inqd) b.qu != 0)&&!(bits .and .i64 b.fail b.votes != 0)&&!(bits .andNot .i64 b.inqd b.votes != 0)
def aok(q:List Int)(site:Int)(b:Bl):Bool :=
 if b.qu=0 then aokB b&&(b.stamp.t==0&&b.stamp.s==0&&!b.using')
 else decide (b.qu∈q)&&aokB b&&!(b.stamp.s != site)&&decide (1<=b.stamp.t)&&decide (b.stamp.t<=b.time)&&(b.using'==(b.votes==b.qu))&&(!b.using'||b.inqd==0)
set_option maxHeartbeats 16000000 in
theorem py_(b:Bl)(n:Int)(q:List Int)(site:Int)(hq:q.length<=1000000):PC Try.prog 42 [b.v,cP n q,.s (.int .i64 site)] (fun r=>r=.s (.bool (aok q site b))):=by
 have k:=uh_ q b.qu hq
 refine zH_ c42 zD_ rfl ?_
 by_cases hz:b.qu=0
 .have e1:(b.qu != 0)=false:=by simpa using hz
  have e2:(b.qu==0)=true:=by simpa using hz
  cases h2:(bits .andNot .i64 (bits .or .i64 (bits .or .i64 b.votes b.fail) b.inqd) b.qu != 0)
  case' true =>
   have ha:aokB b=false:=by simp only[aokB,h2];rfl
   have hR:aok q site b=false:=by simp[aok,hz,ha]
   simp -implicitDefEqProofs [a42,F42,Bl.v,Bl.cs,cP,e1,e2,↓zg_,↓zC_,↓zd_,h2,hR]
  cases h3:(bits .and .i64 b.fail b.votes != 0)
  case' true =>
   have ha:aokB b=false:=by simp only[aokB,h2,h3];rfl
   have hR:aok q site b=false:=by simp[aok,hz,ha]
   simp -implicitDefEqProofs [a42,F42,Bl.v,Bl.cs,cP,e1,e2,↓zg_,↓zC_,↓zd_,h2,h3,hR]
  cases h4:(bits .andNot .i64 b.inqd b.votes != 0)
  case' true =>
   have ha:aokB b=false:=by simp only[aokB,h2,h3,h4];rfl
   have hR:aok q site b=false:=by simp[aok,hz,ha]
   simp -implicitDefEqProofs [a42,F42,Bl.v,Bl.cs,cP,e1,e2,↓zg_,↓zC_,↓zd_,h2,h3,h4,hR]
  have ha:aokB b=true:=by simp only[aokB,h2,h3,h4];rfl
  cases s1:(b.stamp.t==0)
  .have hR:aok q site b=false:=by simp only[aok,if_pos hz,ha,s1];rfl
   simp -implicitDefEqProofs [a42,F42,Bl.v,Bl.cs,cP,e1,e2,↓zg_,↓zC_,↓zd_,h2,h3,h4,hR,eqCs,eqC,s1]
  cases s2:(b.stamp.s==0)
  .have hR:aok q site b=false:=by simp only[aok,if_pos hz,ha,s1,s2];rfl
   simp -implicitDefEqProofs [a42,F42,Bl.v,Bl.cs,cP,e1,e2,↓zg_,↓zC_,↓zd_,h2,h3,h4,hR,eqCs,eqC,s1,s2]
  .have hR:aok q site b=!b.using':=by simp only[aok,if_pos hz,ha,s1,s2];simp
   simp -implicitDefEqProofs [a42,F42,Bl.v,Bl.cs,cP,e1,e2,↓zg_,↓zC_,↓zd_,h2,h3,h4,hR,eqCs,eqC,s1,s2]
 .have e1:(b.qu != 0)=true:=by simpa using hz
  have e2:(b.qu==0)=false:=by simpa using hz
  simp -implicitDefEqProofs [a42,F42,Bl.v,Bl.cs,cP,e1]
  refine z5_ ?_
  simp -implicitDefEqProofs
  refine zu_ k (by simp) (by simp) ?_
  rintro _ rfl
  by_cases hm:b.qu∈q
  case neg=>simp -implicitDefEqProofs [hm,aok,hz]
  cases h2:(bits .andNot .i64 (bits .or .i64 (bits .or .i64 b.votes b.fail) b.inqd) b.qu != 0)
  case' true =>
   have ha:aokB b=false:=by simp only[aokB,h2];rfl
   simp -implicitDefEqProofs [hm,e2,↓zg_,↓zC_,↓zd_,h2,aok,hz,ha]
  cases h3:(bits .and .i64 b.fail b.votes != 0)
  case' true =>
   have ha:aokB b=false:=by simp only[aokB,h2,h3];rfl
   simp -implicitDefEqProofs [hm,e2,↓zg_,↓zC_,↓zd_,h2,h3,aok,hz,ha]
  cases h4:(bits .andNot .i64 b.inqd b.votes != 0)
  case' true =>
   have ha:aokB b=false:=by simp only[aokB,h2,h3,h4];rfl
   simp -implicitDefEqProofs [hm,e2,↓zg_,↓zC_,↓zd_,h2,h3,h4,aok,hz,ha]
  have ha:aokB b=true:=by simp only[aokB,h2,h3,h4];rfl
  cases s1:(b.stamp.s != site)
  case' true=>simp -implicitDefEqProofs [hm,e2,↓zg_,↓zC_,↓zd_,h2,h3,h4,aok,hz,ha,s1]
  by_cases s2:b.stamp.t<1
  case pos =>
   have s2':¬1<=b.stamp.t:=by omega
   simp -implicitDefEqProofs [hm,e2,↓zg_,↓zC_,↓zd_,h2,h3,h4,aok,hz,ha,s1,s2,s2']
  have s2':1<=b.stamp.t:=by omega
  by_cases s3:b.time<b.stamp.t
  case pos =>
   have s3':¬b.stamp.t<=b.time:=by omega
   simp -implicitDefEqProofs [hm,e2,↓zg_,↓zC_,↓zd_,h2,h3,h4,aok,hz,ha,s1,s2,s3,s3']
  have s3':b.stamp.t<=b.time:=by omega
  cases s4:(b.votes==b.qu)<;>cases s5:b.using'<;>cases s6:(b.inqd==0)
  all_goals simp -implicitDefEqProofs [hm,e2,↓zg_,↓zC_,↓zd_,h2,h3,h4,aok,hz,ha,s1,s2,s2',s3,s3',s4,s5,s6]
theorem iW_{P:Program}{F:Fr}{n:Nat}{x y:ACode}{S:St}{Q:AX->St->Prop}(Mid:St->Prop)(h1:W P F n x S (fun e S'=>e=.normal/\Mid S'))(h2:∀S',Mid S'->W P F n y S' Q):W P F n x S (sq P F n y Q) :=
 pt_ x (fun e S' ⟨he,hm⟩=>by subst he;exact h2 S' hm) h1
def sb(x:Sg):Int:=((2^x.s.toNat:Nat):Int)
def sck(n:Int):Int->List Sg->Option Int
 |seen,[]=>some seen
 |seen,x::r=>if prp n x&&!(bits .and .i64 seen (sb x) != 0) then sck n (bits .or .i64 seen (sb x)) r else none
theorem wR_(n:Int):∀(l k:List Sg) (s:Int),sck n s (l++k)=(sck n s l).bind fun z=>sck n z k
 |[],k,s=>rfl
 | x :: l, k, s => by
   rw[List.cons_append]
   simp only[sck]
   split
   .exact wR_ n l k _
   .rfl
theorem nO_{n s z:Int}{l:List Sg}{i:Nat}(h:i<l.length)(hz:sck n s (l.take i)=some z):sck n s (l.take (i+1))=if prp n l[i]&&!(bits .and .i64 z (sb l[i]) != 0) then some (bits .or .i64 z (sb l[i])) else none:=by
 rw[yyw_,zzf_ h,wR_,hz]
 simp only[zzt_,Option.toList_some]
 unfold sck
 split<;>rfl
theorem rQ_{n s:Int}{l:List Sg}{i:Nat}(hz:sck n s (l.take i)=none):sck n s l=none:=by
 have e:l=l.take i++l.drop i:=by simp
 rw[e,wR_,hz];rfl
def ascS:List Sg->Bool
 |a::b::r=>decide (cmpS a b<0)&&ascS (b::r)
 |_=>true
theorem tt_:∀ {l:List Sg},ascS l=true↔∀(i:Nat) (h:i+1<l.length),cmpS l[i] l[i+1]<0
 |[]=>by simp[ascS]
 |[a]=>by simp[ascS]
 | a :: b :: r => by
   unfold ascS
   rw[zzg_,zzp_,tt_]
   constructor
   .rintro⟨h1,h2⟩ i hi
    cases i with
    |zero=>exact h1
    |succ i=>exact h2 i (by simpa using hi)
   .intro h
    exact⟨h 0 (by simp),fun i hi=>h (i+1) (by simpa using hi)⟩
def vok(n:Int)(b:Bl):Bool:=decide (b.given.length<=1)&&!(b.given.isEmpty&&!b.queue.isEmpty)&&!(b.asked&&b.queue.isEmpty)&&(sck n 0 (b.given++b.queue)).isSome&&ascS b.queue
def vC(n:Int)(q:List Int):List V:=[.s (.int .i64 n),.list 1 (iv q)]
def voL(b:Bl)(k:Nat):List Sg:=if k=0 then b.given else b.queue
def voP(b:Bl)(k:Nat):List Sg:=if k=0 then [] else if k=1 then b.given else b.given++b.queue
def voO(b:Bl)(n:Int)(q:List Int)(m:Nat)(S:St):Prop:=∃(k:Nat) (z:Int),k+m=2/\sck n 0 (voP b k)=some z /\
 S=⟨tmL [(2,.ptr 0 0),(3,.ptr 1 0),(41,.agg [.list 2 (sl b.given),.list 2 (sl b.queue)]),(42,.s (.int .i64 k))],[b.v,cP n q,.s (.bool false),.s (.int .i64 z),.no,.no],[b.cs,vC n q],0⟩
def voI(b:Bl)(n:Int)(q:List Int)(k:Nat)(z0:Int)(m:Nat)(S:St):Prop:=∃(i:Nat) (z:Int),i+m=(voL b k).length/\sck n z0 ((voL b k).take i)=some z /\
 S=⟨tmL [(2,.ptr 0 0),(3,.ptr 1 0),(41,.agg [.list 2 (sl b.given),.list 2 (sl b.queue)]),(42,.s (.int .i64 k)),(45,.list 2 (sl (voL b k))),(46,.s (.int .i64 (voL b k).length)),(47,.s (.int .i64 i))],[b.v,cP n q,.s (.bool false),.s (.int .i64 z),.no,.no],[b.cs,vC n q],0⟩
def voA(b:Bl)(n:Int)(q:List Int)(m:Nat)(S:St):Prop:=∃(i:Nat) (z:V),i+m=b.queue.length+1/\1<=i/\(∀(j:Nat) (h:j+1<b.queue.length),j+1<i->cmpS b.queue[j] b.queue[j+1]<0) /\
 S=⟨tmL [(2,.ptr 0 0)],[b.v,cP n q,.s (.bool false),.no,.no,.s (.int .i64 i)],[b.cs,vC n q],0⟩
def MidV(b:Bl)(n:Int)(q:List Int)(S:St):Prop:=∃(tm:Nat->V) (e:Nat),tm 2=.ptr 0 0/\tm 3=.ptr 1 0/\S=⟨tm,[b.v,cP n q,.s (.bool false),.no,.no,.no],[b.cs,vC n q],e⟩
set_option maxHeartbeats 16000000 in
theorem px_(b:Bl)(n:Int)(q:List Int)(hn:n<=9)(hb:b.sm):PC Try.prog 43 [b.v,cP n q] (fun r=>r=.s (.bool (vok n b))):=by
 have hg:=hb.1
 have hqu:=hb.2
 refine zH_ c43b zD_ rfl ?_
 simp -implicitDefEqProofs [a43b,F43,Bl.v,Bl.cs,cP]
 by_cases hh:b.given.length<=1/\¬(b.given=[]/\b.queue≠[])/\¬(b.asked=true/\b.queue=[])
 case neg =>
  have hR:vok n b=false:=by
   unfold vok
   cases e1:decide (b.given.length<=1)
   .simp
   .have e1':=of_decide_eq_true e1
    cases hgv:b.given with
    | nil =>
      cases hqv:b.queue with
      | nil =>
        have:b.asked=true:=by
         cases e:b.asked
         .exact absurd ⟨e1',by simp[hqv],by simp[e]⟩ hh
         .rfl
        simp[this]
      |cons x r=>simp
    | cons g r =>
      cases hqv:b.queue with
      | nil =>
        have:b.asked=true:=by
         cases e:b.asked
         .exact absurd ⟨e1',by simp[hgv],by simp[e]⟩ hh
         .rfl
        simp[this]
      |cons x r=>exact absurd ⟨e1',by simp[hgv],by simp[hqv]⟩ hh
  by_cases g1:b.given.length<=1
  case neg =>
   have g2:(1:Int)<(b.given.length:Int):=by omega
   simp -implicitDefEqProofs [a43h,g2,hR]
  have g2:¬(1:Int)<(b.given.length:Int):=by omega
  by_cases hq0:b.queue=[]
  ·have ha:b.asked=true:=by
    cases e:b.asked
    .exact absurd ⟨g1,by simp[hq0],by simp[e]⟩ hh
    .rfl
   cases hgz:((b.given.length:Int)==0)
   .simp -implicitDefEqProofs [a43h,g2,hq0,ha,hgz,hR]
   .simp -implicitDefEqProofs [a43h,g2,hq0,ha,hgz,hR]
  ·have hg0:b.given=[]:=by
    cases e:b.given with
    |nil=>rfl
    |cons g r=>exact absurd ⟨g1,by simp[e],by simp[hq0]⟩ hh
   have hqp:0<b.queue.length:=List.length_pos_iff.2 hq0
   simp -implicitDefEqProofs [a43h,hg0,hqp,hR]
 obtain⟨h1,h2,h3⟩:=hh
 refine iW_ (MidV b n q) ?_ ?_
 .obtain⟨b0,b1,b2,b3,b4,⟨b5,b6⟩,b7,gv,qv,ak⟩:=b
  simp only at h1 h2 h3
  have g2:¬(1:Int)<(gv.length:Int):=by omega
  cases qv with
  | nil =>
    cases ak with
    |true=>exact absurd ⟨rfl,rfl⟩ h3
    | false =>
      cases hgz:((gv.length:Int)==0)
      .simp -implicitDefEqProofs [a43h,g2,hgz]
       refine⟨_,_,?_,?_,rfl⟩<;>simp
      .simp -implicitDefEqProofs [a43h,g2,hgz]
       refine⟨_,_,?_,?_,rfl⟩<;>simp
  | cons x r =>
    have hgz:((gv.length:Int)==0)=false:=by
     cases e:gv with
     |nil=>exact absurd ⟨e,by simp⟩ h2
     |cons g r=>simp;omega
    have hqz:(((r.length:Int)+1)==0)=false:=by simp;omega
    cases ak
    .simp -implicitDefEqProofs [a43h,g2,hgz,hqz]
     refine⟨_,_,?_,?_,rfl⟩<;>simp
    .simp -implicitDefEqProofs [a43h,g2,hgz,hqz]
     refine⟨_,_,?_,?_,rfl⟩<;>simp
 rintro S ⟨tm,e,t2,t3,rfl⟩
 have hv:vok n b=((sck n 0 (b.given++b.queue)).isSome&&ascS b.queue):=by
  unfold vok
  have e1:decide (b.given.length<=1)=true:=decide_eq_true h1
  have e2:(b.given.isEmpty&&!b.queue.isEmpty)=false:=by
   cases hgv:b.given<;>cases hqv:b.queue<;>simp
   exact h2 ⟨hgv,by simp[hqv]⟩
  have e3:(b.asked&&b.queue.isEmpty)=false:=by
   cases ha:b.asked<;>cases hqv:b.queue<;>simp
   exact h3 ⟨ha,hqv⟩
  rw[e1,e2,e3]
  simp
 have hbad:∀(k:Nat) (z0:Int),k<2->sck n 0 (voP b k)=some z0->sck n z0 (voL b k)=none->vok n b=false:=by
  intro k z0 hk hz hn0
  rw[hv]
  have:sck n 0 (b.given++b.queue)=none:=by
   have hc:k=0\/k=1:=by omega
   rcases hc with rfl|rfl
   .simp[voP,sck]at hz
    subst hz
    have hn0:sck n 0 b.given=none:=hn0
    rw[wR_,hn0];rfl
   .have hz:sck n 0 b.given=some z0:=hz
    have hn0:sck n z0 b.queue=none:=hn0
    rw[wR_,hz];exact hn0
  rw[this];rfl
 simp -implicitDefEqProofs [t2,t3,Bl.v,Bl.cs,cP,vC]
 refine zn_ [2,3,41,42] [4,5] 2 (by simp) (voO b n q) 2 ⟨by simp[t2,t3],0,0,by simp,by simp[voP,sck],by simp[t2,t3,Bl.v,Bl.cs,cP,vC]⟩ ?_
 clear t2 t3
 rintro m S ⟨k,z,hk,hz,rfl⟩
 by_cases hk2:k<2
 .have hkw:IntKind.i64.wrap ((k:Int)+1)=(k:Int)+1:=zo_ (by omega)
  have hk1:(k:Int)<2:=by omega
  have hL:(voL b k).length<=1000000:=by unfold voL;split<;>assumption
  have hidx:exV (.idx 2 1 false) (.agg [.list 2 (sl b.given),.list 2 (sl b.queue)]) (.s (.int .i64 k))=some (.list 2 (sl (voL b k))):=by
   have hc:k=0\/k=1:=by omega
   rcases hc with rfl|rfl<;>simp[exV,voL]
  simp -implicitDefEqProofs [hk1,-exV,hidx,Bl.v,Bl.cs,cP,vC]
  refine zn_ [2,3,41,42,45,46,47] [4,5] 2 (by simp) (voI b n q k z) (voL b k).length ⟨by simp,0,z,by simp,by simp[sck],by simp[Bl.v,Bl.cs,cP,vC]⟩ ?_
  rintro m' S ⟨i,zi,hi,hzi,rfl⟩
  by_cases hil:i<(voL b k).length
  .have g1:(i:Int)<((voL b k).length:Int):=by omega
   have g0:¬(i:Int)<0:=by omega
   have hw:IntKind.i64.wrap ((i:Int)+1)=(i:Int)+1:=zo_ (by omega)
   have hst:=nO_ hil hzi
   have kP:=s2_ n q (voL b k)[i]
   simp -implicitDefEqProofs [g1,g0,pJ_ hil,Sg.v,Bl.v,Bl.cs,cP,vC]
   refine z5_ ?_
   simp -implicitDefEqProofs
   refine zu_ kP (by simp[Sg.v,cP]) (by simp[Sg.v,cP]) ?_
   rintro _ rfl
   cases hp:prp n (voL b k)[i]
   .have hR:=hbad k z hk2 hz (rQ_ (i:=i+1) (by rw[hst,hp];rfl))
    simp -implicitDefEqProofs [hR]
   ·have hr:0≤(voL b k)[i].s∧(voL b k)[i].s<9:=by
     unfold prp vtr at hp
     simp only[zzg_,zzp_]at hp
     omega
    have s0:¬(voL b k)[i].s<0:=by omega
    have hsh:IntKind.i64.wrap ((2:Int)^min (voL b k)[i].s.toNat IntKind.i64.bits)=sb (voL b k)[i]:=shl1 (by omega)
    cases hbt:(bits .and .i64 zi (sb (voL b k)[i]) != 0)
    .rw[hp,hbt]at hst
     simp -implicitDefEqProofs [s0,hsh,↓zg_,↓zC_,hbt,hw]
     exact⟨m'-1,by omega,i+1,_,by omega,hst,by simp[Bl.v,Bl.cs,cP,vC]⟩
    .have hR:=hbad k z hk2 hz (rQ_ (i:=i+1) (by rw[hst,hp,hbt];rfl))
     simp -implicitDefEqProofs [s0,hsh,↓zg_,hbt,hR]
  .have g1:¬(i:Int)<((voL b k).length:Int):=by omega
   rw[zzx_ (by omega)]at hzi
   simp -implicitDefEqProofs [g1,hkw,Bl.v,Bl.cs,cP,vC]
   refine⟨m-1,by omega,k+1,zi,by omega,?_,by simp[Bl.v,Bl.cs,cP,vC]⟩
   have hc:k=0\/k=1:=by omega
   rcases hc with rfl|rfl
   .simp[voP,sck]at hz
    subst hz
    exact hzi
   .have hz:sck n 0 b.given=some z:=hz
    show sck n 0 (b.given++b.queue)=some zi
    rw[wR_,hz];exact hzi
 .have hk1:¬(k:Int)<2:=by omega
  have hk3:k=2:=by omega
  have hz2:sck n 0 (b.given++b.queue)=some z:=by subst hk3;exact hz
  simp -implicitDefEqProofs [hk1,Bl.v,Bl.cs,cP,vC]
  refine zn_ [2] [3,4] 2 (by simp) (voA b n q) b.queue.length ⟨by simp,1,.no,by omega,by omega,fun j h hj=>by omega,by simp[Bl.v,Bl.cs,cP,vC]⟩ ?_
  rintro m' S ⟨i,z',hi,hi1,hx,rfl⟩
  by_cases hil:i<b.queue.length
  .obtain⟨i0,rfl⟩:∃i0,i=i0+1:=⟨i-1,by omega⟩
   have g1:(i0:Int)+1<(b.queue.length:Int):=by omega
   have g0:¬(i0:Int)+1<0:=by omega
   have g4:¬(i0:Int)<0:=by omega
   have g5:(i0:Int)<(b.queue.length:Int):=by omega
   have hw:IntKind.i64.wrap ((i0:Int)+1+1)=(i0:Int)+1+1:=zo_ (by omega)
   have hw2:IntKind.i64.wrap ((i0:Int)+1-1)=(i0:Int):=by rw[zo_ (by omega)];omega
   have hw3:IntKind.i64.wrap (i0:Int)=(i0:Int):=zo_ (by omega)
   have hil2:i0<b.queue.length:=by omega
   have hin:((i0:Int)+1).toNat=i0+1:=by omega
   have kC:=uT_ b.queue[i0] b.queue[i0+1]
   simp -implicitDefEqProofs [g1,g0,Bl.v,Bl.cs,cP,vC,hw2,hw3,g4,g5,hin,pJ_ hil,pJ_ hil2,Sg.v]
   refine yK_ ?_
   simp -implicitDefEqProofs
   refine wj_ kC (by simp[Sg.v]) (by simp[Sg.v]) ?_
   by_cases hc:0<=cmpS b.queue[i0] b.queue[i0+1]
   ·have ha:ascS b.queue=false:=by
     cases e:ascS b.queue
     .rfl
     .have:=tt_.1 e i0 hil
      omega
    have hR:vok n b=false:=by rw[hv,ha];simp
    simp -implicitDefEqProofs [hc,hR]
   .simp -implicitDefEqProofs [hc,hw,Bl.v,Bl.cs,cP,vC]
    refine⟨m'-1,by omega,i0+1+1,.no,by omega,by omega,fun j h hj=>?_,by simp[Bl.v,Bl.cs,cP,vC]⟩
    by_cases hj2:j+1<i0+1
    .exact hx j h hj2
    .have:j=i0:=by omega
     subst this
     omega
  .have g1:¬(i:Int)<(b.queue.length:Int):=by omega
   have ha:ascS b.queue=true:=tt_.2 fun j hj=>hx j hj (by omega)
   have hR:vok n b=true:=by rw[hv,hz2,ha];rfl
   simp -implicitDefEqProofs [g1,hR,Bl.v,Bl.cs,cP,vC]
noncomputable def bOk(n:Int)(q:List Int)(site:Int)(b:Bl):Bool:=okB n q&&vtr n site&&decide (0<=b.time)&&decide (b.time<=1073741824)&&aok q site b&&vok n b
set_option maxHeartbeats 8000000 in
theorem xe_(b:Bl)(n:Int)(q:List Int)(site:Int)(hq:q.length<=1000)(hb:b.sm):PC Try.prog 19 [b.v,cP n q,.s (.int .i64 site)] (fun r=>r=.s (.bool (bOk n q site b))):=by
 have k1:=mV_ n q (by omega)
 have k2:=wZ_ n q site
 have k3:=py_ b n q site (by omega)
 refine zH_ c19 zD_ rfl ?_
 simp -implicitDefEqProofs [a19,F19,Bl.v,Bl.cs,cP]
 refine z5_ ?_
 simp -implicitDefEqProofs
 refine zu_ k1 (by simp[cP]) (by simp[cP]) ?_
 rintro _ rfl
 cases h1:okB n q
 case' false=>simp -implicitDefEqProofs [bOk,h1]
 have h9:n<=9:=(ol_.1 h1).n1.2
 have k4:=px_ b n q h9 hb
 simp -implicitDefEqProofs
 refine z5_ ?_
 simp -implicitDefEqProofs
 refine zu_ k2 (by simp[cP]) (by simp[cP]) ?_
 rintro _ rfl
 cases h2:vtr n site
 case' false=>simp -implicitDefEqProofs [bOk,h1,h2]
 by_cases h3:b.time<0
 case pos =>
  have h3':¬0<=b.time:=by omega
  simp -implicitDefEqProofs [bOk,h1,h2,h3,h3']
 have h3':0<=b.time:=by omega
 by_cases h4:(1073741824:Int)<b.time
 case pos =>
  have h4':¬b.time<=1073741824:=by omega
  simp -implicitDefEqProofs [bOk,h1,h2,h3,h3',h4,h4']
 have h4':b.time<=1073741824:=by omega
 simp -implicitDefEqProofs [h3,h4]
 refine z5_ ?_
 simp -implicitDefEqProofs
 refine zu_ k3 (by simp[Bl.v,Bl.cs,cP]) (by simp[Bl.v,Bl.cs,cP]) ?_
 rintro _ rfl
 cases h5:aok q site b
 case' false=>simp -implicitDefEqProofs [bOk,h1,h2,h3',h4',h5]
 simp -implicitDefEqProofs
 refine z5_ ?_
 simp -implicitDefEqProofs
 refine zu_ k4 (by simp[Bl.v,Bl.cs,cP]) (by simp[Bl.v,Bl.cs,cP]) ?_
 rintro _ rfl
 simp -implicitDefEqProofs [bOk,h1,h2,h3',h4',h5]
def noB:Bl:=⟨0,0,0,0,0,⟨0,0⟩,false,[],[],false⟩
def errR(e:Int):V:=.tup [noB.v,.list 4 [],.s (.int .i64 e)]
def okR(b:Bl)(l:List Vt):V:=.tup [b.v,.list 4 (vl l),.s (.int .i64 0)]
def zB:List V:=[.s (.int .i64 0),.s (.int .i64 0),.s (.int .i64 0),.s (.int .i64 0),.s (.int .i64 0),.s (.int .i64 0),.s (.int .i64 0),.s (.bool false),.s (.slice none 0 0),.s (.slice none 0 0),.s (.bool false)]
def uW_(b:Bl)(site x:Int):Bl:={ b with time:=b.time+1,stamp:=⟨b.time+1,site⟩,qu:=x }
def askO(b:Bl)(site:Int)(l:List Int):List Vt:=l.map fun v=>⟨1,v,b.time+1,site⟩
noncomputable def vz_(n:Int)(q:List Int)(site x:Int)(b:Bl)(out:List Vt):V :=
 if bOk n q site b=false then errR 2 else if x∉q then errR 1 else if b.qu≠0 then errR 14 else if b.time=1073741824 then errR 16 else okR (uW_ b site x) out
def wtI(b:Bl)(n:Int)(q:List Int)(site x:Int)(m:Nat)(S:St):Prop:=∃i:Nat,i+m=(mbU x 9).length /\
 S = ⟨tmL [(8, .ptr 2 0), (74, .list 1 (iv (mbU x 9))), (75, .s (.int .i64 (mbU x 9).length)), (76, .s (.int .i64 i))],
   [b.v,cP n q,.s (.int .i64 site),.s (.int .i64 x),.s (.slice none 0 0),.s (.int .i64 0),.ptr 4 0,.no],
   [b.cs,vC n q,zB,xu_ b,wB (uW_ b site x) (oV (askO b site ((mbU x 9).take i)))],0⟩
theorem nq_{b:Bl}{site:Int}{l:List Int}{i:Nat}(h:i<l.length):askO b site (l.take (i+1))=askO b site (l.take i)++[⟨1,l[i],b.time+1,site⟩]:=by
 unfold askO
 rw[yyw_,zzf_ h,List.map_append]
 rfl
set_option maxHeartbeats 16000000 in
theorem nw_(b:Bl)(n:Int)(q:List Int)(site x:Int)(hq:q.length<=1000)(hb:b.sm):PC Try.prog 15 [b.v,cP n q,.s (.int .i64 site),.s (.int .i64 x)] (fun r=>r=vz_ n q site x b (askO b site (mbU x 9))):=by
 have k1:=xe_ b n q site hq hb
 have k2:=uh_ q x (by omega)
 have k3:=tq_ b hb
 have k4:=wX_ x
 refine zH_ c15b zD_ rfl ?_
 simp -implicitDefEqProofs [a15b,F15,Bl.v,Bl.cs,cP]
 refine z5_ ?_
 simp -implicitDefEqProofs
 refine zu_ k1 (by simp[Bl.v,Bl.cs,cP]) (by simp[Bl.v,Bl.cs,cP]) ?_
 rintro _ rfl
 cases h1:bOk n q site b
 case' false =>
  simp -implicitDefEqProofs
  refine z5_ ?_
  simp -implicitDefEqProofs
  refine zu_ (zZ_ 2) (by simp) (by simp) ?_
  rintro _ rfl
  simp -implicitDefEqProofs [vz_,h1,errR,noB,Bl.v,Bl.cs]
 have ht:0<=b.time/\b.time<=1073741824:=by
  unfold bOk at h1
  simp only[zzg_,zzp_]at h1
  exact⟨h1.1.1.1.2,h1.1.1.2⟩
 simp -implicitDefEqProofs
 refine z5_ ?_
 simp -implicitDefEqProofs
 refine zu_ k2 (by simp) (by simp) ?_
 rintro _ rfl
 by_cases h2:x∈q
 case neg =>
  simp -implicitDefEqProofs [h2]
  refine z5_ ?_
  simp -implicitDefEqProofs
  refine zu_ (zZ_ 1) (by simp) (by simp) ?_
  rintro _ rfl
  simp -implicitDefEqProofs [vz_,h1,h2,errR,noB,Bl.v,Bl.cs]
 by_cases h3:b.qu=0
 case neg =>
  have e3:(b.qu != 0)=true:=by simpa using h3
  simp -implicitDefEqProofs [h2,e3]
  refine z5_ ?_
  simp -implicitDefEqProofs
  refine zu_ (zZ_ 14) (by simp) (by simp) ?_
  rintro _ rfl
  simp -implicitDefEqProofs [vz_,h1,h2,h3,errR,noB,Bl.v,Bl.cs]
 have e3:(b.qu != 0)=false:=by simpa using h3
 by_cases h4:b.time=1073741824
 case pos =>
  have e4:(b.time==1073741824)=true:=by simpa using h4
  simp -implicitDefEqProofs [h2,e3,e4]
  refine z5_ ?_
  simp -implicitDefEqProofs
  refine zu_ (zZ_ 16) (by simp) (by simp) ?_
  rintro _ rfl
  simp -implicitDefEqProofs [vz_,h1,h2,h3,h4,errR,noB,Bl.v,Bl.cs]
 have e4:(b.time==1073741824)=false:=by simpa using h4
 have hw:IntKind.i64.wrap (b.time+1)=b.time+1:=zo_ (by omega)
 have hR:vz_ n q site x b (askO b site (mbU x 9))=okR (uW_ b site x) (askO b site (mbU x 9)):=by
  unfold vz_
  rw[if_neg (by simp[h1]),if_neg (by simp[h2]),if_neg (by simp[h3]),if_neg h4]
 simp -implicitDefEqProofs [h2,e3,e4]
 refine zs_ ?_
 simp -implicitDefEqProofs
 refine ya_ (mask:=[]) (sel:=[]) k3 ⟨by simp[ren,renA,renL,fzs,Bl.v,Bl.cs],rfl,rfl,rfl,rfl,rfl,rfl⟩ ?_
 rintro _ _ ⟨rfl,rfl⟩
 simp -implicitDefEqProofs [aftS,zt_,wB,xu_,Bl.cs,hw]
 refine z5_ ?_
 simp -implicitDefEqProofs
 refine zu_ k4 (by simp) (by simp) ?_
 rintro _ rfl
 simp -implicitDefEqProofs
 refine zn_ [8,74,75,76] [7] 5 (by simp) (wtI b n q site x) (mbU x 9).length ⟨by simp,0,by simp,by simp[Bl.v,Bl.cs,cP,vC,zB,xu_,wB,oV,askO,uW_]⟩ ?_
 rintro m S ⟨i,hi,rfl⟩
 have hlen:=tb_ x 9
 by_cases hm:i<(mbU x 9).length
 .have g1:(i:Int)<(mbU x 9).length:=by omega
  have g0:¬(i:Int)<0:=by omega
  have hwi:IntKind.i64.wrap ((i:Int)+1)=(i:Int)+1:=zo_ (by omega)
  have hs:=nq_ (b:=b) (site:=site) hm
  have hol:(askO b site ((mbU x 9).take i)).length<=9:=by simp[askO];omega
  generalize askO b site ((mbU x 9).take i)=out at hs hol
  have b1:out.length+1<=maxLen/\(out.length+1)*32<=zf_:=by simp[maxLen,zf_];omega
  simp -implicitDefEqProofs [g1,g0,y4_ hm,wB,oV,b1,hwi,uW_,Bl.v,Bl.cs,cP,vC,zB,xu_]
  exact⟨m-1,by omega,i+1,by omega,by rw[hs];simp[Bl.v,Bl.cs,cP,vC,zB,xu_,wB,oV,uW_,vl,Vt.v]⟩
 .have g1:i=(mbU x 9).length:=by omega
  have g2:(mbU x 9).take i=mbU x 9:=zzx_ (by omega)
  simp -implicitDefEqProofs [g1,wB,oV,uW_,zB,Bl.v,Bl.cs,cP,vC,xu_]
  refine zW_ 7 8 (by kernel_rfl) ?_ ?_
  .refine zv_ [0,1,2,3,4,5,6,7,8,9,10] ⟨[],[4,5,6],[],[]⟩ (by kernel_rfl) (by kernel_rfl) ?_
   simp -implicitDefEqProofs [yg_,hR,okR,uW_,Bl.v,Bl.cs]
  .refine zv_ [0,1,2,3,4,5,6,8,7,9,10] ⟨[],[4,5,6],[],[]⟩ (by kernel_rfl) (by kernel_rfl) ?_
   simp -implicitDefEqProofs [yg_,hR,okR,uW_,Bl.v,Bl.cs]
def mE_(b:Bl):Bl:={ b with qu:=0,votes:=0,fail:=0,stamp:=⟨0,0⟩,using':=false }
def relO(l:List Int):List Vt:=l.map fun v=>⟨6,v,0,0⟩
noncomputable def sx_(n:Int)(q:List Int)(site:Int)(b:Bl)(out:List Vt):V :=
 if bOk n q site b=false then errR 2 else if b.using'=false then errR 14 else okR (mE_ b) out
theorem pU_{l:List Int}{i:Nat}(h:i<l.length):relO (l.take (i+1))=relO (l.take i)++[⟨6,l[i],0,0⟩]:=by
 unfold relO
 rw[yyw_,zzf_ h,List.map_append]
 rfl
def dnI(b:Bl)(n:Int)(q:List Int)(site:Int)(m:Nat)(S:St):Prop:=∃i:Nat,i+m=(mbU b.qu 9).length /\
 S = ⟨tmL [(6, .ptr 2 0), (35, .list 1 (iv (mbU b.qu 9))), (36, .s (.int .i64 (mbU b.qu 9).length)), (37, .s (.int .i64 i))],
   [b.v,cP n q,.s (.int .i64 site),.s (.slice none 0 0),.s (.int .i64 0),.ptr 4 0,.no],
   [b.cs,vC n q,zB,xu_ b,wB b (oV (relO ((mbU b.qu 9).take i)))],0⟩
set_option maxHeartbeats 16000000 in
theorem je_(b:Bl)(n:Int)(q:List Int)(site:Int)(hq:q.length<=1000)(hb:b.sm):PC Try.prog 21 [b.v,cP n q,.s (.int .i64 site)] (fun r=>r=sx_ n q site b (relO (mbU b.qu 9))):=by
 have k1:=xe_ b n q site hq hb
 have k3:=tq_ b hb
 have k4:=wX_ b.qu
 refine zH_ c21b zD_ rfl ?_
 simp -implicitDefEqProofs [a21b,F21,Bl.v,Bl.cs,cP]
 refine z5_ ?_
 simp -implicitDefEqProofs
 refine zu_ k1 (by simp[Bl.v,Bl.cs,cP]) (by simp[Bl.v,Bl.cs,cP]) ?_
 rintro _ rfl
 cases h1:bOk n q site b
 case' false =>
  simp -implicitDefEqProofs
  refine z5_ ?_
  simp -implicitDefEqProofs
  refine zu_ (zZ_ 2) (by simp) (by simp) ?_
  rintro _ rfl
  simp -implicitDefEqProofs [sx_,h1,errR,noB,Bl.v,Bl.cs]
 simp -implicitDefEqProofs
 cases h2:b.using'
 case' false =>
  simp -implicitDefEqProofs
  refine z5_ ?_
  simp -implicitDefEqProofs
  refine zu_ (zZ_ 14) (by simp) (by simp) ?_
  rintro _ rfl
  simp -implicitDefEqProofs [sx_,h1,h2,errR,noB,Bl.v,Bl.cs]
 have hR:sx_ n q site b (relO (mbU b.qu 9))=okR (mE_ b) (relO (mbU b.qu 9)):=by
  unfold sx_
  rw[if_neg (by simp[h1]),if_neg (by simp[h2])]
 simp -implicitDefEqProofs
 refine zs_ ?_
 simp -implicitDefEqProofs
 refine ya_ (mask:=[]) (sel:=[]) k3 ⟨by simp[ren,renA,renL,fzs,Bl.v,Bl.cs,h2],rfl,rfl,rfl,rfl,rfl,rfl⟩ ?_
 rintro _ _ ⟨rfl,rfl⟩
 simp -implicitDefEqProofs [aftS,zt_,wB,xu_,Bl.cs]
 refine z5_ ?_
 simp -implicitDefEqProofs
 refine zu_ k4 (by simp) (by simp) ?_
 rintro _ rfl
 simp -implicitDefEqProofs
 refine zn_ [6,35,36,37] [6] 5 (by simp) (dnI b n q site) (mbU b.qu 9).length ⟨by simp,0,by simp,by simp[Bl.v,Bl.cs,cP,vC,zB,xu_,wB,oV,relO,h2]⟩ ?_
 rintro m S ⟨i,hi,rfl⟩
 have hlen:=tb_ b.qu 9
 by_cases hm:i<(mbU b.qu 9).length
 .have g1:(i:Int)<(mbU b.qu 9).length:=by omega
  have g0:¬(i:Int)<0:=by omega
  have hwi:IntKind.i64.wrap ((i:Int)+1)=(i:Int)+1:=zo_ (by omega)
  have hs:=pU_ hm
  have hol:(relO ((mbU b.qu 9).take i)).length<=9:=by simp[relO];omega
  generalize relO ((mbU b.qu 9).take i)=out at hs hol
  simp -implicitDefEqProofs [g1,g0,y4_ hm,hwi,Bl.v,Bl.cs,cP,vC,zB,xu_]
  refine zs_ ?_
  simp -implicitDefEqProofs
  refine ya_ (mask:=[]) (sel:=[4]) (xq_ b out 6 (mbU b.qu 9)[i] (by omega)) ⟨by simp[ren,renA,renL,fzs],rfl,rfl,rfl,rfl,rfl,rfl⟩ ?_
  rintro _ _ ⟨rfl,rfl⟩
  simp -implicitDefEqProofs [aftS,zt_,hwi,g1,wB,oV]
  exact⟨m-1,by omega,i+1,by omega,by rw[hs];simp[Bl.v,Bl.cs,cP,vC,zB,xu_,wB,oV,vl,Vt.v]⟩
 .have g1:i=(mbU b.qu 9).length:=by omega
  have g2:(mbU b.qu 9).take i=mbU b.qu 9:=zzx_ (by omega)
  simp -implicitDefEqProofs [g1,wB,oV,zB,Bl.v,Bl.cs,cP,vC,xu_]
  refine zW_ 7 8 (by kernel_rfl) ?_ ?_
  .refine zv_ [0,1,2,3,4,5,6,7,8,9,10] ⟨[],[4,5,6],[],[]⟩ (by kernel_rfl) (by kernel_rfl) ?_
   simp -implicitDefEqProofs [yg_,hR,okR,mE_,Bl.v,Bl.cs]
  .refine zv_ [0,1,2,3,4,5,6,8,7,9,10] ⟨[],[4,5,6],[],[]⟩ (by kernel_rfl) (by kernel_rfl) ?_
   simp -implicitDefEqProofs [yg_,hR,okR,mE_,Bl.v,Bl.cs]
def posQ(x:Sg):List Sg->Nat
 |[]=>0
 |y::r=>if cmpS y x<0 then posQ x r+1 else 0
theorem o5_(x:Sg):∀l,posQ x l<=l.length
 |[]=>zzl_ _
 | y :: r => by
   have:=o5_ x r
   simp only[posQ,List.length_cons]
   split<;>omega
theorem o4_(x:Sg):∀(l:List Sg) (i:Nat),i<posQ x l->∃h:i<l.length,cmpS l[i] x<0
 |[],i,h=>by simp[posQ]at h
 | y :: r, i, h => by
   simp only[posQ]at h
   split at h
   .next hc =>
    cases i with
    |zero=>exact⟨by simp,hc⟩
    | succ i =>
      obtain⟨h1,h2⟩:=o4_ x r i (by omega)
      exact⟨by simp;omega,by simpa using h2⟩
   .omega
theorem rY_(x:Sg):∀(l:List Sg) (h:posQ x l<l.length),¬cmpS l[posQ x l] x<0
 |[],h=>by simp at h
 | y :: r, h => by
   by_cases hc:cmpS y x<0
   .have e:posQ x (y::r)=posQ x r+1:=by simp[posQ,hc]
    have h':posQ x r<r.length:=by rw[e]at h;simpa using h
    have:=rY_ x r h'
    simp only[e,List.getElem_cons_succ]
    exact this
   .have e:posQ x (y::r)=0:=by simp[posQ,hc]
    simp only[e,List.getElem_cons_zero]
    exact hc
theorem jy_{l:List Sg}{i:Nat}(h:i<(sl l).length):(sl l)[i]=(l[i]'(by simpa[sl] using h)).v:=by simp[sl]
def Bl.enq(b:Bl)(x:Sg):Bl:={ b with queue:=insS b.queue (posQ x b.queue) x }
def enI(b:Bl)(o:V)(x:Sg)(m:Nat)(S:St):Prop:=∃i:Nat,i+m=posQ x b.queue/\S=⟨tmL [(3,.ptr 1 0)],[.ptr 0 0,x.v,.s (.int .i64 i)],[wB b o,[.s (.int .i64 x.t),.s (.int .i64 x.s)]],0⟩
set_option maxHeartbeats 8000000 in
theorem zY_(b:Bl)(l:List Vt)(x:Sg)(hb:b.queue.length<=1000):AC Try.prog 71 [.ptr 0 0,x.v] [wB b (oV l)] (fun r bs=>r=.tup []/\bs=[wB (b.enq x) (oV l)]):=by
 have hpl:=o5_ x b.queue
 refine sJ_ c71b zD_ rfl ?_
 simp -implicitDefEqProofs [a71b,F71,wB,oV,Sg.v]
 refine zn_ [3] [] 2 (by simp) (enI b (oV l) x) (posQ x b.queue) ⟨by simp,0,by simp,by simp[wB,oV,Sg.v]⟩ ?_
 rintro m S ⟨i,hi,rfl⟩
 have g1:(i:Int)<b.queue.length\/¬(i:Int)<b.queue.length:=by omega
 have g0:¬(i:Int)<0:=by omega
 have hwi:IntKind.i64.wrap ((i:Int)+1)=(i:Int)+1:=zo_ (by omega)
 by_cases hm:m=0
 .obtain rfl:i=posQ x b.queue:=by omega
  by_cases hq:posQ x b.queue<b.queue.length
  .have h1:=rY_ x b.queue hq
   have q1:(posQ x b.queue:Int)<b.queue.length:=by omega
   have k1:=uT_ b.queue[posQ x b.queue] x
   simp -implicitDefEqProofs [q1,hq,g0,jy_,wB,oV,Sg.v]
   refine yK_ ?_
   simp -implicitDefEqProofs
   refine wj_ k1 (by simp[Sg.v]) (by simp[Sg.v]) ?_
   simp -implicitDefEqProofs [h1]
   refine rD_ ?_
   simp -implicitDefEqProofs
   refine l1_ (mask:=[]) (sel:=[]) (sK_ b.queue (posQ x b.queue) x (by omega) hpl) ⟨by simp[ren,renA,renL,fzs,Sg.v],rfl,rfl,rfl,rfl,rfl,rfl⟩ (by rfl) ?_
   simp -implicitDefEqProofs [aftS]
   refine zI_ 1 ?_
   simp -implicitDefEqProofs [Bl.enq]
  .have q1:¬(posQ x b.queue:Int)<b.queue.length:=by omega
   simp -implicitDefEqProofs [q1,hq,wB,oV,Sg.v]
   refine rD_ ?_
   simp -implicitDefEqProofs
   refine l1_ (mask:=[]) (sel:=[]) (sK_ b.queue (posQ x b.queue) x (by omega) hpl) ⟨by simp[ren,renA,renL,fzs,Sg.v],rfl,rfl,rfl,rfl,rfl,rfl⟩ (by rfl) ?_
   simp -implicitDefEqProofs [aftS]
   refine zI_ 1 ?_
   simp -implicitDefEqProofs [Bl.enq]
 .obtain⟨hq,h1⟩:=o4_ x b.queue i (by omega)
  have q1:(i:Int)<b.queue.length:=by omega
  have k1:=uT_ b.queue[i] x
  simp -implicitDefEqProofs [q1,hq,g0,jy_,wB,oV,Sg.v]
  refine yK_ ?_
  simp -implicitDefEqProofs
  refine wj_ k1 (by simp[Sg.v]) (by simp[Sg.v]) ?_
  simp -implicitDefEqProofs [h1,hwi]
  exact⟨m-1,by omega,i+1,by omega,by simp[wB,oV,Sg.v]⟩
set_option maxHeartbeats 2000000 in
theorem qJ_(w:World)(B:Nat)(t s s0:Int)(h:w.cell? ⟨B,1,none⟩=some (.int .i64 s0)) :
 Calls Try.prog 69 (#[.agg #[.int .i64 t,.int .i64 s]]++#[.pointer (some ⟨B,0,none⟩)]) w fun e w'=>e=.returned (.bool (s==s0))/\w'=w.alloc (.cells #[.int .i64 t,.int .i64 s] 36):=by
 have hB:B<w.heap.size:=World.block_lt_of_cell? w _ h
 have h1:(w.alloc (.cells #[.int .i64 t,.int .i64 s] 36)).cell? ⟨B,1,none⟩=some (.int .i64 s0):=by rw[World.cell?_alloc_past _ B 1 hB];exact h
 have mx:=zD_
 go_enter Try.func69,Try.ntmps69
 go_wp2
 all_goals go_ret
 all_goals exact⟨rfl,rfl⟩
theorem kV_:∀args w,(callFunc 69 args).run Try.prog w=.ok (.enter 69 args) w:=enters_of Try.func69 (by kernel_rfl) rfl
set_option maxHeartbeats 4000000 in
set_option maxRecDepth 100000 in
theorem oR_(w:World)(A:Option Addr)(cap B:Nat)(l:List Sg)(s0:Int)(hl:l.length<=1000000)(hB:w.cell? ⟨B,1,none⟩=some (.int .i64 s0))
 (hc:∀(i:Nat) (h:i<l.length),∃b q,A=some ⟨b,q,none⟩/\w.cell? ⟨b,q+i*2,none⟩=some (.int .i64 l[i].t)/\w.cell? ⟨b,q+i*2+1,none⟩=some (.int .i64 l[i].s)) :
 Calls Try.prog 79 #[.slice A l.length cap,.func (.func 69) #[] #[.pointer (some ⟨B,0,none⟩)]] w fun e w'=>∃n:Int,e=.returned (.int .i64 n)/\(0<=n↔∃x∈l,x.s=s0)/\Below w.heap.size w w':=by
 have HC:=Lib.hid hc
 have E69:=Lib.hid kV_
 have hBb:B<w.heap.size:=World.block_lt_of_cell? w _ hB
 have mx:=zD_
 clear hc
 go_enter Try.func79,Try.ntmps79
 go_wp2
 go_loopg [8] l.length (fun kx s8 wr=>∃i:Nat,s8=.int .i64 i/\i+kx=l.length/\(∀(j:Nat) (h:j<l.length),j<i->l[j].s≠s0)/\Below w.heap.size w wr)
 case atStart=>exact⟨0,rfl,by omega,fun j _ h=>by omega,Below.refl _ _⟩
 case round =>
  obtain⟨i,rfl,hi,hne,hbel⟩:=hrel
  have hBr:wr.cell? ⟨B,1,none⟩=some (.int .i64 s0):=(yyb_ (a:=⟨B,1,none⟩) (hbel.block B hBb)).trans hB
  by_cases hm:i<l.length
  .obtain⟨b,q,rfl,h1,h2⟩:=HC.out i hm
   have hb:b<w.heap.size:=World.block_lt_of_cell? w _ h1
   have c1:wr.cell? ⟨b,q+i*2,none⟩=some (.int .i64 l[i].t):=(yyb_ (a:=⟨b,q+i*2,none⟩) (hbel.block b hb)).trans h1
   have c2:wr.cell? ⟨b,q+i*2+1,none⟩=some (.int .i64 l[i].s):=(yyb_ (a:=⟨b,q+i*2+1,none⟩) (hbel.block b hb)).trans h2
   have hmem:l[i]∈l:=yyp_ hm
   have hlast:∀(j:Nat) (h:j<l.length),j=i->l[j]=l[i]:=fun j h e=>by subst e;rfl
   generalize l[i]=x at c1 c2 hmem hlast
   have hs:=qJ_ wr B x.t x.s s0 hBr
   have hlt:(i:Int)<(l.length:Int):=by omega
   have hi0:¬(i:Int)<0:=by omega
   have hw:IntKind.i64.wrap ((i:Int)+1)=(i:Int)+1:=by rw[yye_];omega
   have hnew:Below w.heap.size w (wr.alloc (.cells #[.int .i64 x.t,.int .i64 x.s] 36)):=hbel.trans ((Below.refl _ wr).alloc hbel.size _)
   have eg:=E69.out
   have HN:=Lib.hid hne
   have HM:=Lib.hid (And.intro hmem hlast)
   have HW:=Lib.hid hnew
   clear h1 h2 hne hmem hlast hnew
   by_cases he:x.s=s0
   .have hb:(x.s==s0)=true:=by simpa using he
    rw[hb]at hs
    have HE:=Lib.hid he
    clear he hb
    go_wp2_with (go_at_fn 69;refine hs.mono ?_;rintro e w' ⟨rfl,rfl⟩)
    go_ret
    exact⟨i,rfl,⟨fun _=>⟨x,HM.out.1,HE.out⟩,fun _=>by omega⟩,HW.out⟩
   .have hb:(x.s==s0)=false:=by simpa using he
    rw[hb]at hs
    have HE:=Lib.hid he
    clear he hb
    go_wp2_with (go_at_fn 69;refine hs.mono ?_;rintro e w' ⟨rfl,rfl⟩)
    go_roundg (gk-1)
    case measure=>omega
    case rel=>exact⟨i+1,rfl,by omega,fun j h hj=>by rcases Nat.lt_succ_iff_lt_or_eq.1 hj with q|rfl;exact HN.out j h q;rw[HM.out.2 j h rfl];exact HE.out,HW.out⟩
  .have hlt:¬(i:Int)<(l.length:Int):=by omega
   go_wp2
   go_ret
   refine⟨-1,rfl,⟨fun h=>by omega,fun ⟨x,hx,hxs⟩=>?_⟩,hbel⟩
   obtain⟨j,hj,rfl⟩:=List.mem_iff_getElem.1 hx
   exact absurd hxs (hne j hj (by omega))
set_option maxHeartbeats 2000000 in
theorem oU_(w:World)(A:Option Addr)(cap B:Nat)(l:List Sg)(s0:Int)(hl:l.length<=1000000)(hB:w.cell? ⟨B,1,none⟩=some (.int .i64 s0))
 (hc:∀(i:Nat) (h:i<l.length),∃b q,A=some ⟨b,q,none⟩/\w.cell? ⟨b,q+i*2,none⟩=some (.int .i64 l[i].t)/\w.cell? ⟨b,q+i*2+1,none⟩=some (.int .i64 l[i].s)) :
 Calls Try.prog 70 #[.slice A l.length cap,.func (.func 69) #[] #[.pointer (some ⟨B,0,none⟩)]] w fun e w'=>e=.returned (.bool (l.any fun x=>x.s==s0))/\Below w.heap.size w w':=by
 have hs:=oR_ w A cap B l s0 hl hB hc
 have mx:=zD_
 clear hc hB
 go_enter Try.func70,Try.ntmps70
 go_wp2_with (go_at_call 79;refine hs.mono ?_;rintro e w' ⟨n,rfl,hn,hbel⟩;replace hn:=Lib.hid hn)
 go_ret
 refine⟨?_,hbel⟩
 have:(l.any fun x=>x.s==s0)=decide (0<=n):=by
  rw[yyt_]
  simp[hn.out]
 rw[this]
 rfl
section
section
variable{F:Fr}{g:Gh}{w w':World}{S:St}{a:Act}
theorem pT_(h:Rel F g w S a)(hb:Below w.heap.size w w'):Rel F g w' S a/\Fw F g w S a g w' S a:=by
 have hI:∀b o,o<g.I b->o<g.I b/\w'.cell? ⟨b,o,none⟩=w.cell? ⟨b,o,none⟩:=fun b o ho=>⟨ho,yyb_ (a:=⟨b,o,none⟩) (hb.block b (h.Ilt b (by omega)))⟩
 have hownw:∀r p k,Own F g w' S a r p k->Own F g w S a r p k:=by
  intro r p k ⟨x,u,hh,ho⟩
  refine⟨x,u,?_,ho⟩
  cases r with
  |t t=>exact hh
  |l l=>exact⟨hh.1,(zX_ hh.1 (fun _ _=>rfl) (fun b hb'=>hb.block _ (zP_ h hb').1)) ▸ hh.2⟩
 refine⟨h.grow hI (fun _ _=>rfl) (fun b hb'=>⟨hb.block _ (zP_ h hb').1,(zP_ h hb').2⟩) (fun r p k ho=>?_) (fun l d e z xs u hl hu=>?_) hb.size (fun k hk=>zzk_ (h.Ilt k hk) hb.size),
  ⟨hb.os,hb.tape,hb.output,hb.size,fun k hk _=>⟨hb.block k hk,rfl⟩,fun k ho=>?_⟩⟩
 .obtain⟨q1,q2,_⟩:=h.ownI r p k ho
  exact⟨hb.block k q2,q1⟩
 .have hr:=(h.lentr l d e z xs u hl hu).1
  refine hr.keep hI (fun p k ⟨_,_,_,u',q1,q2,q3⟩=>?_) (fun _ _ _ _=>rfl)
  cases p with
  |cons i p=>simp[V.sub]at q1
  | nil =>
    simp[vsub]at q2
    subst q2
    exact hb.block k (yu_ hr q3)
 .rcases ho with ⟨r,p,ho⟩|ho
  .exact .inl (.inl ⟨r,p,hownw r p k ho⟩)
  .exact .inl (.inr ho)
theorem mD_(h:Rel F g w S a)(hb:Below w.heap.size w w'){d:Nat}(hd:d<F.N)(hdv:d∉F.sv){v:Value}(h1:v.oneCell'=true):Ends F g w S a { S with tm:=upd S.tm d (.s v) } (a.put (some d) v) w':=by
 obtain⟨h1',h2⟩:=pT_ h hb
 exact Ends.of h2 (fun _ _=>rfl) (zzl_ _) (zi_ h1' hd hdv (.s h1) rfl (fun b o e=>by cases e) (zzn_ _) trivial)
end
theorem iv_(l:List Sg):∀(i:Nat) (h:i<l.length),(fl l)[i*2]?=some (.int .i64 l[i].t)/\(fl l)[i*2+1]?=some (.int .i64 l[i].s):=by
 induction l with
 |nil=>intro i h;simp at h
 | cons x r ih =>
   intro i h
   cases i with
   |zero=>exact⟨rfl,rfl⟩
   | succ i =>
     have:=ih i (by simpa using h)
     simp only[fl,List.flatMap_cons,yyn_,Nat.one_mul]at this ⊢
     rw[show i*2+2=(i*2)+1+1 by omega]
     simpa using this
theorem lf_{S:St}{q0 q1:Opd}{l:List Sg}{b:Nat}{t0 s0:Int}(h0:cont S (z2_ S q0)=some (2,sl l))(h1:z2_ S q1=.ptr b (1000000000+69))(hb:S.bx[b]?=some [.s (.int .i64 t0),.s (.int .i64 s0)])(hl:l.length<=1000000) :
 MC Try.prog S 70 [q0,q1] (fun r=>r=.s (.bool (l.any fun x=>x.s==s0))):=by
 intro F g w a xs d h hx hd hdv
 obtain⟨xs⟩:=xs
 match xs,hx with
 | [x0, x1], hx =>
   simp only[opds,zza_]at hx
   obtain⟨p0,e0,_,⟨p1,e1,_,e2,e3⟩,e4⟩:=hx
   cases e2
   cases e3
   cases e4
   obtain⟨A,c,vals,q1',q2,q3,q4,q5,q6,q7,q8⟩:=ys_ h (y2_ h e0) h0
   have hv:∀(j:Nat) (u:Value),(fl l)[j]?=some u->∃b q,A=some ⟨b,q,none⟩/\w.cell? ⟨b,q+j,none⟩=some u:=by
    intro j u hu
    have hj:j<(flat (sl l)).length:=by rw[xP_,List.length_map];exact(zzc_.1 hu).1
    obtain⟨b,q,r1,r2⟩:=q7 j hj
    have:=(q8 j (.s u) (by rw[xP_,zzs_,hu];rfl)).of_s rfl
    exact⟨b,q,r1,by rw[r2,this]⟩
   have hf:=(y2_ h e1).rep
   rw[h1]at hf
   have hfv:a.eval x1=.func (.func 69) #[] #[.pointer (some ⟨g.φ b,0,none⟩)]:=by
    generalize a.eval x1=v at hf
    cases hf
    exact r9_
   have hat:S.at (.cell b 1)=some (.s (.int .i64 s0)):=by simp[St.at,hb]
   obtain⟨v,hv1,_⟩:=h.lookv _ _ hat
   have hvv:v=.int .i64 s0:=(h.rep (.l (.cell b 1)) _ v ⟨hat,hv1⟩).of_s rfl
   have hcell:w.cell? ⟨g.φ b,1,none⟩=some (.int .i64 s0):=by rw[<-hvv];exact hv1
   have hsl:(sl l).length=l.length:=by simp[sl]
   have hargs:(#[x0,x1]:Array Operand).map a.eval=#[.slice A l.length c,.func (.func 69) #[] #[.pointer (some ⟨g.φ b,0,none⟩)]]:=by
    simp[q1',hfv,hsl]
   rw[hargs]
   refine(oU_ w A c (g.φ b) l s0 hl hcell (fun i hi=>?_)).mono ?_
   .obtain⟨f1,f2⟩:=iv_ l i hi
    obtain⟨b1,o1,r1,r2⟩:=hv _ _ f1
    obtain⟨b2,o2,r3,r4⟩:=hv _ _ f2
    rw[r1]at r3
    cases r3
    exact⟨b1,o1,r1,r2,r4⟩
   .rintro e w' ⟨rfl,hbel⟩
    exact⟨_,_,rfl,rfl,mD_ h hbel hd hdv rfl⟩
 |[],hx=>simp[opds]at hx
 | [x0], hx =>
   simp only[opds,zza_]at hx
   obtain⟨p0,e0,_,e2,e4⟩:=hx
   cases e2
   cases e4
 | x0 :: x1 :: x2 :: r, hx =>
   simp only[opds,zza_]at hx
   obtain⟨p0,e0,_,⟨p1,e1,_,⟨p2,e5,_,e6,e7⟩,e3⟩,e4⟩:=hx
   cases e7
   cases e3
   cases e4
end
def wG(b:Bl)(G o:V):List V:=[.s (.int .i64 b.time),.s (.int .i64 b.qu),.s (.int .i64 b.votes),.s (.int .i64 b.fail),.s (.int .i64 b.inqd),.s (.int .i64 b.stamp.t),.s (.int .i64 b.stamp.s),.s (.bool b.using'),G,.own true 36 2 (sl b.queue),.s (.bool b.asked),o]
def gvOk(G:V)(l:List Sg):Prop:=G=.list 2 (sl l)\/G=.own true 36 2 (sl l)\/(l=[]/\G=.s (.slice none 0 0))
theorem t2_(b:Bl)(l:List Vt)(k to:Int)(hl:l.length<=1000):AC Try.prog 48 [.ptr 0 0,.s (.int .i64 k),.s (.int .i64 to)] [wG b (.own true 36 2 (sl b.given)) (oV l)] (fun r bs=>r=.tup []/\bs=[wG b (.own true 36 2 (sl b.given)) (oV (l++[⟨k,to,0,0⟩]))]):=by
 have b1:l.length+1<=maxLen/\(l.length+1)*32<=zf_:=by simp[maxLen,zf_];omega
 refine sJ_ c48 zD_ rfl ?_
 simp -implicitDefEqProofs [a48,F48,wG,oV,b1]
 refine zI_ 1 ?_
 simp -implicitDefEqProofs [wG,oV,vl,Vt.v]
def askM(b:Bl)(x:Sg):List Vt :=
 match b.given with
 |[]=>[⟨2,x.s,0,0⟩]
 | g :: _ => if (match b.queue with | [] => true | q :: _ => decide (cmpS x q < 0)) && decide (cmpS x g < 0) then
     (match b.queue with|[]=>[]|q::_=>if cmpS q g<0 then [⟨3,q.s,0,0⟩] else [])++(if b.asked then [] else [⟨4,g.s,0,0⟩])
   else [⟨3,x.s,0,0⟩]
def askS(b:Bl)(x:Sg):Bl :=
 match b.given with
 |[]=>{ b with time:=(if b.time<x.t then x.t else b.time),given:=[x] }
 |g::_=>({ b with time:=(if b.time<x.t then x.t else b.time),asked:=b.asked||((match b.queue with|[]=>true|q::_=>decide (cmpS x q<0))&&decide (cmpS x g<0)) }:Bl).enq x
def askE(b:Bl)(x:Sg):Bool:=(b.given.any fun y=>y.s==x.s)||(b.queue.any fun y=>y.s==x.s)
set_option maxHeartbeats 16000000 in
theorem iK_(b:Bl)(x:Sg)(hg:b.given.length<=1000)(hq:b.queue.length<=1000):AC Try.prog 50 [.ptr 0 0,x.v] [wB b (oV [])] (fun r bs=>if askE b x then r=.s (.int .i64 11)/\bs=[wB b (oV [])] else r=.s (.int .i64 0)/\∃G,gvOk G (askS b x).given/\bs=[wG (askS b x) G (oV (askM b x))]):=by
 obtain⟨tm,qu,vo,fa,iq,st,us,gv,qq,ak⟩:=b
 simp only at hg hq
 refine sJ_ c50 zD_ rfl ?_
 simp -implicitDefEqProofs [a50,F50,wB,oV,Sg.v]
 refine pr_ (lf_ (l:=gv) (b:=1) (t0:=x.t) (s0:=x.s) (by simp) (by simp) (by simp) (by omega)) ?_
 rintro _ rfl
 cases h1:gv.any fun y=>y.s==x.s
 case' true =>
  simp -implicitDefEqProofs
  refine zI_ 1 ?_
  simp -implicitDefEqProofs [askE,h1,wB,oV]
 simp -implicitDefEqProofs
 refine pr_ (lf_ (l:=qq) (b:=1) (t0:=x.t) (s0:=x.s) (by simp) (by simp) (by simp) (by omega)) ?_
 rintro _ rfl
 cases h2:qq.any fun y=>y.s==x.s
 case' true =>
  simp -implicitDefEqProofs
  refine zI_ 1 ?_
  simp -implicitDefEqProofs [askE,h1,h2,wB,oV]
 have hE:∀a b c d e f g' h i,askE ⟨a,b,c,d,e,f,g',gv,qq,h⟩ x=i↔false=i:=fun a b c d e f g' h i=>by simp[askE,h1,h2]
 clear h1 h2
 simp -implicitDefEqProofs
 cases gv with
 | nil =>
   simp -implicitDefEqProofs [sl]
   refine zs_ ?_
   simp -implicitDefEqProofs
   refine ya_ (mask:=[]) (sel:=[0]) (t2_ ⟨(if tm<x.t then x.t else tm),qu,vo,fa,iq,st,us,[x],qq,ak⟩ [] 2 x.s (by simp)) ⟨by simp[ren,renA,renL,fzs],rfl,rfl,rfl,rfl,rfl,rfl⟩ ?_
   rintro _ _ ⟨rfl,rfl⟩
   simp -implicitDefEqProofs [aftS,zt_,wG,oV]
   refine zI_ 1 ?_
   simp -implicitDefEqProofs [hE,askS,askM]
   exact .inr (.inl rfl)
 | cons g gr =>
   have hlg:((gr.length:Int)+1==0)=false:=by simp;omega
   have k1:=uT_ x g
   cases qq with
   | nil =>
     simp -implicitDefEqProofs [sl,hlg,Sg.v]
     refine z5_ ?_
     simp -implicitDefEqProofs
     refine zu_ (k1) (by simp[Sg.v]) (by simp[Sg.v]) ?_
     rintro _ rfl
     by_cases c1:cmpS x g<0
     case neg =>
      simp -implicitDefEqProofs [c1]
      refine zs_ ?_
      simp -implicitDefEqProofs
      refine ya_ (mask:=[]) (sel:=[0]) (xq_ ⟨(if tm<x.t then x.t else tm),qu,vo,fa,iq,st,us,g::gr,[],ak⟩ [] 3 x.s (by simp)) ⟨by simp[ren,renA,renL,fzs],rfl,rfl,rfl,rfl,rfl,rfl⟩ ?_
      rintro _ _ ⟨rfl,rfl⟩
      simp -implicitDefEqProofs [aftS,zt_,wB,oV]
      refine zs_ ?_
      simp -implicitDefEqProofs
      refine ya_ (mask:=[]) (sel:=[0]) (zY_ ⟨(if tm<x.t then x.t else tm),qu,vo,fa,iq,st,us,g::gr,[],ak⟩ ([]++[⟨3,x.s,0,0⟩]) x hq) ⟨by simp[ren,renA,renL,fzs,Sg.v],rfl,rfl,rfl,rfl,rfl,rfl⟩ ?_
      rintro _ _ ⟨rfl,rfl⟩
      simp -implicitDefEqProofs [aftS,zt_,wB,oV]
      refine zI_ 1 ?_
      simp -implicitDefEqProofs [hE,askS,askM,Bl.enq,c1]
      exact⟨_,.inl rfl,rfl⟩
     simp -implicitDefEqProofs [c1]
     cases ak
     case' true =>
      simp -implicitDefEqProofs
      refine zs_ ?_
      simp -implicitDefEqProofs
      refine ya_ (mask:=[]) (sel:=[0]) (zY_ ⟨(if tm<x.t then x.t else tm),qu,vo,fa,iq,st,us,g::gr,[],true⟩ [] x hq) ⟨by simp[ren,renA,renL,fzs,Sg.v],rfl,rfl,rfl,rfl,rfl,rfl⟩ ?_
      rintro _ _ ⟨rfl,rfl⟩
      simp -implicitDefEqProofs [aftS,zt_,wB,oV]
      refine zI_ 1 ?_
      simp -implicitDefEqProofs [hE,askS,askM,Bl.enq,c1]
      exact⟨_,.inl rfl,rfl⟩
     simp -implicitDefEqProofs
     refine zs_ ?_
     simp -implicitDefEqProofs
     refine ya_ (mask:=[]) (sel:=[0]) (xq_ ⟨(if tm<x.t then x.t else tm),qu,vo,fa,iq,st,us,g::gr,[],true⟩ [] 4 g.s (by simp)) ⟨by simp[ren,renA,renL,fzs],rfl,rfl,rfl,rfl,rfl,rfl⟩ ?_
     rintro _ _ ⟨rfl,rfl⟩
     simp -implicitDefEqProofs [aftS,zt_,wB,oV]
     refine zs_ ?_
     simp -implicitDefEqProofs
     refine ya_ (mask:=[]) (sel:=[0]) (zY_ ⟨(if tm<x.t then x.t else tm),qu,vo,fa,iq,st,us,g::gr,[],true⟩ ([]++[⟨4,g.s,0,0⟩]) x hq) ⟨by simp[ren,renA,renL,fzs,Sg.v],rfl,rfl,rfl,rfl,rfl,rfl⟩ ?_
     rintro _ _ ⟨rfl,rfl⟩
     simp -implicitDefEqProofs [aftS,zt_,wB,oV]
     refine zI_ 1 ?_
     simp -implicitDefEqProofs [hE,askS,askM,Bl.enq,c1]
     exact⟨_,.inl rfl,rfl⟩
   | cons q qr =>
     have hlq:((qr.length:Int)+1==0)=false:=by simp;omega
     have hlq2:(0:Int)<(qr.length:Int)+1:=by omega
     have k2:=uT_ x q
     have k3:=uT_ q g
     simp -implicitDefEqProofs [sl,hlg,hlq,Sg.v]
     refine yK_ ?_
     simp -implicitDefEqProofs
     refine wj_ (k2) (by simp[Sg.v]) (by simp[Sg.v]) ?_
     by_cases c2:cmpS x q<0
     case neg =>
      simp -implicitDefEqProofs [c2]
      refine zs_ ?_
      simp -implicitDefEqProofs
      refine ya_ (mask:=[]) (sel:=[0]) (xq_ ⟨(if tm<x.t then x.t else tm),qu,vo,fa,iq,st,us,g::gr,q::qr,ak⟩ [] 3 x.s (by simp)) ⟨by simp[ren,renA,renL,fzs],rfl,rfl,rfl,rfl,rfl,rfl⟩ ?_
      rintro _ _ ⟨rfl,rfl⟩
      simp -implicitDefEqProofs [aftS,zt_,wB,oV]
      refine zs_ ?_
      simp -implicitDefEqProofs
      refine ya_ (mask:=[]) (sel:=[0]) (zY_ ⟨(if tm<x.t then x.t else tm),qu,vo,fa,iq,st,us,g::gr,q::qr,ak⟩ ([]++[⟨3,x.s,0,0⟩]) x hq) ⟨by simp[ren,renA,renL,fzs,Sg.v],rfl,rfl,rfl,rfl,rfl,rfl⟩ ?_
      rintro _ _ ⟨rfl,rfl⟩
      simp -implicitDefEqProofs [aftS,zt_,wB,oV]
      refine zI_ 1 ?_
      simp -implicitDefEqProofs [hE,askS,askM,Bl.enq,c2]
      exact⟨_,.inl rfl,rfl⟩
     simp -implicitDefEqProofs [c2]
     refine z5_ ?_
     simp -implicitDefEqProofs
     refine zu_ (k1) (by simp[Sg.v]) (by simp[Sg.v]) ?_
     rintro _ rfl
     by_cases c1:cmpS x g<0
     case neg =>
      simp -implicitDefEqProofs [c1]
      refine zs_ ?_
      simp -implicitDefEqProofs
      refine ya_ (mask:=[]) (sel:=[0]) (xq_ ⟨(if tm<x.t then x.t else tm),qu,vo,fa,iq,st,us,g::gr,q::qr,ak⟩ [] 3 x.s (by simp)) ⟨by simp[ren,renA,renL,fzs],rfl,rfl,rfl,rfl,rfl,rfl⟩ ?_
      rintro _ _ ⟨rfl,rfl⟩
      simp -implicitDefEqProofs [aftS,zt_,wB,oV]
      refine zs_ ?_
      simp -implicitDefEqProofs
      refine ya_ (mask:=[]) (sel:=[0]) (zY_ ⟨(if tm<x.t then x.t else tm),qu,vo,fa,iq,st,us,g::gr,q::qr,ak⟩ ([]++[⟨3,x.s,0,0⟩]) x hq) ⟨by simp[ren,renA,renL,fzs,Sg.v],rfl,rfl,rfl,rfl,rfl,rfl⟩ ?_
      rintro _ _ ⟨rfl,rfl⟩
      simp -implicitDefEqProofs [aftS,zt_,wB,oV]
      refine zI_ 1 ?_
      simp -implicitDefEqProofs [hE,askS,askM,Bl.enq,c1,c2]
      exact⟨_,.inl rfl,rfl⟩
     simp -implicitDefEqProofs [c1,hlq2]
     refine yK_ ?_
     simp -implicitDefEqProofs
     refine wj_ (k3) (by simp[Sg.v]) (by simp[Sg.v]) ?_
     by_cases c3:cmpS q g<0
     case neg =>
      simp -implicitDefEqProofs [c3]
      cases ak
      case' true =>
       simp -implicitDefEqProofs
       refine zs_ ?_
       simp -implicitDefEqProofs
       refine ya_ (mask:=[]) (sel:=[0]) (zY_ ⟨(if tm<x.t then x.t else tm),qu,vo,fa,iq,st,us,g::gr,q::qr,true⟩ [] x hq) ⟨by simp[ren,renA,renL,fzs,Sg.v],rfl,rfl,rfl,rfl,rfl,rfl⟩ ?_
       rintro _ _ ⟨rfl,rfl⟩
       simp -implicitDefEqProofs [aftS,zt_,wB,oV]
       refine zI_ 1 ?_
       simp -implicitDefEqProofs [hE,askS,askM,Bl.enq,c1,c2,c3]
       exact⟨_,.inl rfl,rfl⟩
      simp -implicitDefEqProofs
      refine zs_ ?_
      simp -implicitDefEqProofs
      refine ya_ (mask:=[]) (sel:=[0]) (xq_ ⟨(if tm<x.t then x.t else tm),qu,vo,fa,iq,st,us,g::gr,q::qr,true⟩ [] 4 g.s (by simp)) ⟨by simp[ren,renA,renL,fzs],rfl,rfl,rfl,rfl,rfl,rfl⟩ ?_
      rintro _ _ ⟨rfl,rfl⟩
      simp -implicitDefEqProofs [aftS,zt_,wB,oV]
      refine zs_ ?_
      simp -implicitDefEqProofs
      refine ya_ (mask:=[]) (sel:=[0]) (zY_ ⟨(if tm<x.t then x.t else tm),qu,vo,fa,iq,st,us,g::gr,q::qr,true⟩ ([]++[⟨4,g.s,0,0⟩]) x hq) ⟨by simp[ren,renA,renL,fzs,Sg.v],rfl,rfl,rfl,rfl,rfl,rfl⟩ ?_
      rintro _ _ ⟨rfl,rfl⟩
      simp -implicitDefEqProofs [aftS,zt_,wB,oV]
      refine zI_ 1 ?_
      simp -implicitDefEqProofs [hE,askS,askM,Bl.enq,c1,c2,c3]
      exact⟨_,.inl rfl,rfl⟩
     simp -implicitDefEqProofs [c3]
     refine zs_ ?_
     simp -implicitDefEqProofs
     refine ya_ (mask:=[]) (sel:=[0]) (xq_ ⟨(if tm<x.t then x.t else tm),qu,vo,fa,iq,st,us,g::gr,q::qr,ak⟩ [] 3 q.s (by simp)) ⟨by simp[ren,renA,renL,fzs],rfl,rfl,rfl,rfl,rfl,rfl⟩ ?_
     rintro _ _ ⟨rfl,rfl⟩
     simp -implicitDefEqProofs [aftS,zt_,wB,oV]
     cases ak
     case' true =>
      simp -implicitDefEqProofs
      refine zs_ ?_
      simp -implicitDefEqProofs
      refine ya_ (mask:=[]) (sel:=[0]) (zY_ ⟨(if tm<x.t then x.t else tm),qu,vo,fa,iq,st,us,g::gr,q::qr,true⟩ ([]++[⟨3,q.s,0,0⟩]) x hq) ⟨by simp[ren,renA,renL,fzs,Sg.v],rfl,rfl,rfl,rfl,rfl,rfl⟩ ?_
      rintro _ _ ⟨rfl,rfl⟩
      simp -implicitDefEqProofs [aftS,zt_,wB,oV]
      refine zI_ 1 ?_
      simp -implicitDefEqProofs [hE,askS,askM,Bl.enq,c1,c2,c3]
      exact⟨_,.inl rfl,rfl⟩
     simp -implicitDefEqProofs
     refine zs_ ?_
     simp -implicitDefEqProofs
     refine ya_ (mask:=[]) (sel:=[0]) (xq_ ⟨(if tm<x.t then x.t else tm),qu,vo,fa,iq,st,us,g::gr,q::qr,true⟩ ([]++[⟨3,q.s,0,0⟩]) 4 g.s (by simp)) ⟨by simp[ren,renA,renL,fzs],rfl,rfl,rfl,rfl,rfl,rfl⟩ ?_
     rintro _ _ ⟨rfl,rfl⟩
     simp -implicitDefEqProofs [aftS,zt_,wB,oV]
     refine zs_ ?_
     simp -implicitDefEqProofs
     refine ya_ (mask:=[]) (sel:=[0]) (zY_ ⟨(if tm<x.t then x.t else tm),qu,vo,fa,iq,st,us,g::gr,q::qr,true⟩ (([]++[⟨3,q.s,0,0⟩])++[⟨4,g.s,0,0⟩]) x hq) ⟨by simp[ren,renA,renL,fzs,Sg.v],rfl,rfl,rfl,rfl,rfl,rfl⟩ ?_
     rintro _ _ ⟨rfl,rfl⟩
     simp -implicitDefEqProofs [aftS,zt_,wB,oV]
     refine zI_ 1 ?_
     simp -implicitDefEqProofs [hE,askS,askM,Bl.enq,c1,c2,c3]
     exact⟨_,.inl rfl,rfl⟩
def Bl.next(b:Bl):Bl:=match b.queue with
 |[]=>{ b with given:=[],asked:=false }
 |q::r=>{ b with given:=[q],queue:=r,asked:=false }
def w0_(l:List Sg):List Vt:=match l with
 |[]=>[]
 |q::_=>[⟨2,q.s,0,0⟩]
def yi_(b:Bl)(again:Bool):Bl:=match b.given with
 |[]=>b
 |g::_=>if again then b.enq g else b
def wi_(b:Bl)(from':Int):Bool:=match b.given with
 |[]=>true
 |g::_=>g.s != from'
set_option maxHeartbeats 16000000 in
theorem nm_(b:Bl)(from':Int)(again:Bool)(hg:b.given.length<=1000)(hq:b.queue.length<=1000):AC Try.prog 51 [.ptr 0 0,.s (.int .i64 from'),.s (.bool again)] [wB b (oV [])] (fun r bs=>if wi_ b from' then r=.s (.int .i64 14)/\bs=[wB b (oV [])] else r=.s (.int .i64 0)/\∃G,gvOk G (yi_ b again).next.given/\bs=[wG (yi_ b again).next G (oV (w0_ (yi_ b again).queue))]):=by
 obtain⟨tm,qu,vo,fa,iq,st,us,gv,qq,ak⟩:=b
 simp only at hg hq
 refine sJ_ c51b zD_ rfl ?_
 simp -implicitDefEqProofs [a51b,F51,wB,oV]
 cases gv with
 | nil =>
   simp -implicitDefEqProofs [sl]
   refine zI_ 1 ?_
   simp -implicitDefEqProofs [wi_,wB,oV,sl]
 | cons g gr =>
   have hlg:((gr.length:Int)+1==0)=false:=by simp;omega
   by_cases hs:g.s=from'
   case neg =>
    have e1:(g.s != from')=true:=by simpa using hs
    simp -implicitDefEqProofs [sl,hlg,Sg.v,e1]
    refine zI_ 1 ?_
    simp -implicitDefEqProofs [wi_,hs,wB,oV,sl,Sg.v]
   subst hs
   simp -implicitDefEqProofs [sl,hlg,Sg.v]
   cases again
   case false =>
    simp -implicitDefEqProofs
    cases qq with
    | nil =>
      try simp -implicitDefEqProofs [sl]
      refine zI_ 1 ?_
      simp -implicitDefEqProofs [wi_,yi_,Bl.next,w0_]
      exact⟨_,.inr (.inr ⟨rfl,rfl⟩),rfl⟩
    | cons q qr =>
      have hlq:(0:Int)<(qr.length:Int)+1:=by omega
      simp -implicitDefEqProofs [hlq,sl,Sg.v]
      refine zs_ ?_
      simp -implicitDefEqProofs
      refine ya_ (mask:=[]) (sel:=[]) (sL_ q qr) ⟨by simp[ren,renA,renL,fzs,sl,Sg.v],rfl,rfl,rfl,rfl,rfl,rfl⟩ ?_
      rintro _ _ ⟨rfl,rfl⟩
      simp -implicitDefEqProofs [aftS,zt_]
      refine zs_ ?_
      simp -implicitDefEqProofs
      refine ya_ (mask:=[]) (sel:=[0]) (t2_ ⟨tm,qu,vo,fa,iq,st,us,[q],qr,false⟩ [] 2 q.s (by simp)) ⟨by simp[ren,renA,renL,fzs],rfl,rfl,rfl,rfl,rfl,rfl⟩ ?_
      rintro _ _ ⟨rfl,rfl⟩
      simp -implicitDefEqProofs [aftS,zt_,wG,oV]
      refine zI_ 1 ?_
      simp -implicitDefEqProofs [wi_,yi_,Bl.next,w0_]
      exact .inr (.inl rfl)
   case true =>
    simp -implicitDefEqProofs
    refine zs_ ?_
    simp -implicitDefEqProofs
    refine ya_ (mask:=[]) (sel:=[0]) (zY_ ⟨tm,qu,vo,fa,iq,st,us,g::gr,qq,ak⟩ [] g hq) ⟨by simp[ren,renA,renL,fzs,Sg.v],rfl,rfl,rfl,rfl,rfl,rfl⟩ ?_
    rintro _ _ ⟨rfl,rfl⟩
    have hE:∀a b c d e f g' h,(⟨a,b,c,d,e,f,g',g::gr,qq,h⟩:Bl).enq g=⟨a,b,c,d,e,f,g',g::gr,insS qq (posQ g qq) g,h⟩:=fun a b c d e f g' h=>rfl
    generalize insS qq (posQ g qq) g=q2 at hE
    cases q2 with
    | nil =>
      simp -implicitDefEqProofs [aftS,zt_,hE,wB,oV]
      try simp -implicitDefEqProofs [sl]
      refine zI_ 1 ?_
      simp -implicitDefEqProofs [wi_,yi_,Bl.next,w0_,hE]
      exact⟨_,.inr (.inr ⟨rfl,rfl⟩),rfl⟩
    | cons q qr =>
      simp -implicitDefEqProofs [aftS,zt_,hE,wB,oV]
      have hlq:(0:Int)<(qr.length:Int)+1:=by omega
      simp -implicitDefEqProofs [hlq,sl,Sg.v]
      refine zs_ ?_
      simp -implicitDefEqProofs
      refine ya_ (mask:=[]) (sel:=[]) (sL_ q qr) ⟨by simp[ren,renA,renL,fzs,sl,Sg.v],rfl,rfl,rfl,rfl,rfl,rfl⟩ ?_
      rintro _ _ ⟨rfl,rfl⟩
      simp -implicitDefEqProofs [aftS,zt_]
      refine zs_ ?_
      simp -implicitDefEqProofs
      refine ya_ (mask:=[]) (sel:=[0]) (t2_ ⟨tm,qu,vo,fa,iq,st,us,[q],qr,false⟩ [] 2 q.s (by simp)) ⟨by simp[ren,renA,renL,fzs],rfl,rfl,rfl,rfl,rfl,rfl⟩ ?_
      rintro _ _ ⟨rfl,rfl⟩
      simp -implicitDefEqProofs [aftS,zt_,wG,oV]
      refine zI_ 1 ?_
      simp -implicitDefEqProofs [wi_,yi_,Bl.next,w0_,hE]
      exact .inr (.inl rfl)
section
def ACD(P:Program)(f:FuncId)(args:List V)(bs:List (List V))(Q:V->List (List V)->Prop):Prop :=
 ∀g w vals u,Bd g w args vals bs->CallsD P f vals u w fun e u' w'=>u'=u/\∃v r bs' g',e=.returned v/\Q r bs'/\okV r=true/\Bd g' w' [r] #[v] bs'/\Ext g w (OwnB g w args vals bs) g' w' (OwnB g' w' [r] #[v] bs') bs.length
section
variable{P:Program}{F:Fr}{g:Gh}{w:World}{S:St}{a:Act}
theorem iP_{f:FuncId}{fn:Func}{c:Code}(hf:P.funcs[f]?=some fn)(hb:fn.body=some c)(hm:P.follows .mixedOrders=true)(hF:F.ok)(hdf:F.df=[])(hN:F.N=fn.ntmps){ac:ACode}(hc:comp P F c=some (zh_ ac))(hla:za_ ac=true){rvs:List RV}(hr:wn_ P F fn.results.toList=some rvs)(hr6:fn.results.size<=6)
 {args:List V} {bs:List (List V)} (hle:args.length<=F.N) (hsv:F.sv.take args.length=List.range args.length) {Q:V->List (List V)->Prop}
 (hw:W P F bs.length ac (St0 F args bs) fun x S=>x.isEnd=true/\vi_ bs.length rvs Q S):ACD P f args bs Q:=by
 intro g w vals u hbd
 obtain⟨h0,ho0⟩:=wD_ (F:=F) hbd hdf hle hsv
 refine callsD_of_wp hf hb ?_
 rw[<-hN]
 have hrch:Rch F bs.length g w (St0 F args bs) ⟨vals++Array.replicate (F.N-vals.size) undef,[]⟩ g w (St0 F args bs) ⟨vals++Array.replicate (F.N-vals.size) undef,[]⟩:=⟨h0,Fw.refl _ _ _ _ _,zzl_ _,fun _ _=>rfl⟩
 refine w_ok hF hm ac c hc hla hrch hw fun x S' g' w' a' ⟨hx,hq⟩ hr'=>?_
 have main:a'.defers=[]/\∃v,(results fn a'.tmps).run P w'=.ok v w'/\∃v' r bs' g'',Ending.returned v=.returned v'/\Q r bs'/\okV r=true/\Bd g'' w' [r] #[v'] bs'/\Ext g w (OwnB g w args vals bs) g'' w' (OwnB g'' w' [r] #[v'] bs') bs.length:=by
  refine⟨hr'.rel.dfr.trans hdf,?_⟩
  unfold vi_ at hq
  split at hq
  .next ys ls hrv =>
   obtain⟨m,hnm,hex,hQ⟩:=hq
   obtain⟨vs,lss,e1,e2,e3,rfl,e5,e6⟩:=gots hr'.rel hr hrv
   obtain⟨k1,k2,k3⟩:=tk_ hr'.rel (by omega) (by omega) hex e6
   refine⟨packV vs.toArray,xr_ (rs:=fn.results.toList) (by simp) (by simpa using hr6) e1 e5,_,pack ys,S'.bx.take m,g',rfl,hQ,k1,k2,?_⟩
   have hfw:=hr'.fw
   refine⟨hfw.os,hfw.tape,hfw.output,hfw.size,fun k hk ho=>hfw.same k hk (fun h=>ho (ho0 k h)),fun k ho=>?_,hr'.phi⟩
   rcases hfw.owned k (k3 k ho) with q|q
   .exact .inl (ho0 k q)
   .exact .inr q
  .exact hq.elim
 cases x with
 |normal=>exact main
 |ret=>exact main
 |exit id=>simp[AX.isEnd]at hx
 |goto l=>simp[AX.isEnd]at hx
theorem iQ_{f np:Nat}{ac:ACode}{rvs:List RV}(h:zl_ P f F=some (np,zh_ ac,rvs)/\za_ ac=true)(hm:P.follows .mixedOrders=true){args:List V}(hl:args.length=np){bs:List (List V)}{Q:V->List (List V)->Prop}
 (hw:W P F bs.length ac (St0 F args bs) fun x S=>x.isEnd=true/\vi_ bs.length rvs Q S):ACD P f args bs Q:=by
 obtain⟨h,hla⟩:=h
 unfold zl_ at h
 split at h
 .next fn hf =>
  split at h
  .next c hb =>
   split at h
   .next hcond =>
    simp only[zzg_,zzp_,beq_iff_eq]at hcond
    obtain⟨⟨⟨⟨h1,h2⟩,h3⟩,h4⟩,h5⟩:=hcond
    have h2':fn.ntmps=F.N:=yyq_ h2
    simp only[zza_]at h
    obtain⟨a,hc,r,hr,h⟩:=h
    simp only[yya_,yyc_]at h
    obtain⟨rfl,rfl,rfl⟩:=h
    exact iP_ hf hb hm (q4_ h1) (ok_ h1) h2'.symm hc hla hr h5 (by omega) (by rw[hl];exact h4) hw
   .cases h
  .cases h
 .cases h
theorem j8_{f np:Nat}{ac:ACode}{rvs:List RV}(h:zl_ P f F=some (np,zh_ ac,rvs)/\za_ ac=true)(hm:P.follows .mixedOrders=true){args:List V}(hl:args.length=np){bs:List (List V)}{Q:V->List (List V)->Prop}
 (hw:W P F bs.length ac (St0 F args bs) (endA bs.length rvs Q)):ACD P f args bs Q:=iQ_ h hm hl hw
theorem qc_{ds:List Deferred}{r:Root}{x:V}{v:Value}:Has { F with df:=ds } g w S { a with defers:=ds } r x v↔Has F g w S a r x v:=by
 cases r with
 |t t=>exact Iff.rfl
 |l l=>cases l<;>exact Iff.rfl
theorem rH_{ds:List Deferred}{l:Loc}:z3_ { F with df:=ds } g w { a with defers:=ds } l=z3_ F g w a l:=by cases l<;>rfl
theorem q2_{ds:List Deferred}{r:Root}{p:List Nat}{k:Nat}:Own { F with df:=ds } g w S { a with defers:=ds } r p k↔Own F g w S a r p k:=by
 unfold Own
 simp only[qc_]
theorem km_{ds:List Deferred}{r:Root}{p:List Nat}{k m:Nat}:OwnX { F with df:=ds } g w S { a with defers:=ds } r p k m↔OwnX F g w S a r p k m:=by
 unfold OwnX
 simp only[qc_]
theorem m6_{ds:List Deferred}{k:Nat}:yZ_ { F with df:=ds } g w S { a with defers:=ds } k↔yZ_ F g w S a k:=by
 unfold yZ_
 simp only[q2_]
theorem jD_(h:Rel F g w S a)(ds:List Deferred):Rel { F with df:=ds } g w S { a with defers:=ds }:=by
 refine⟨h.sz,rfl,fun r x v hh=>h.rep r x v (qc_.1 hh),fun l x hx=>?_,fun l d e z xs v hl hv=>?_,h.box,h.inj,fun r x v p b o hh=>h.ptr r x v p b o (qc_.1 hh),fun r p k ho=>h.ownI r p k (q2_.1 ho),fun r p r' p' k h1 h2=>h.uniq r p r' p' k (q2_.1 h1) (q2_.1 h2),fun t p x v hx hv=>?_,h.novw,h.notl,h.Ilt,h.tmv,h.ept,h.epl,fun l d e z xs v k hl hv hk r p m ho=>?_⟩
 .rw[rH_];exact h.lookv l x hx
 .rw[rH_]at hv;exact h.lentr l d e z xs v hl hv
 .have:=h.link t p x v hx hv
  cases x<;>simp only[Link,rH_]at this ⊢<;>exact this
 .rw[rH_]at hv;exact h.lentl l d e z xs v k hl hv hk r p m (km_.1 ho)
end
end
section
section
variable{P:Program}{F:Fr}{g:Gh}{w:World}{S:St}{a:Act}
theorem iI_(h:Rel F g w S a){t1 t2 b1 b2:Nat}(e1:S.tm t1=.ptr b1 0)(e2:S.tm t2=.ptr b2 0)(l1:b1<S.bx.length)(l2:b2<S.bx.length)(hok:∀cs∈S.bx,∀x∈cs,okL x=true) :
 Bd g w [.ptr b1 0,.ptr b2 0] #[Act.tv a t1,Act.tv a t2] S.bx/\∀k,OwnB g w [.ptr b1 0,.ptr b2 0] #[Act.tv a t1,Act.tv a t2] S.bx k->yZ_ F g w S a k:=by
 have hr1:Rep g w (.ptr b1 0) (Act.tv a t1):=h.rep (.t t1) _ _ ⟨e1.symm,rfl⟩
 have hr2:Rep g w (.ptr b2 0) (Act.tv a t2):=h.rep (.t t2) _ _ ⟨e2.symm,rfl⟩
 have hat:∀l x,(Stn [.ptr b1 0,.ptr b2 0] S.bx).at l=some x->(∃v,x=.ptr b1 0/\v=Act.tv a t1/\l=.var 0/\z3_ (Frn 2) g w ⟨#[Act.tv a t1,Act.tv a t2],[]⟩ l=some v/\Rep g w x v)\/(∃v,x=.ptr b2 0/\v=Act.tv a t2/\l=.var 1/\z3_ (Frn 2) g w ⟨#[Act.tv a t1,Act.tv a t2],[]⟩ l=some v/\Rep g w x v) \/
  ∃b o,l=.cell b o/\S.at l=some x/\okL x=true/\z3_ (Frn 2) g w ⟨#[Act.tv a t1,Act.tv a t2],[]⟩ l=z3_ F g w a l:=by
  intro l x hx
  cases l with
  | var i =>
    match i,hx with
    |0,hx=>cases hx;exact .inl ⟨_,rfl,rfl,rfl,rfl,hr1⟩
    |1,hx=>cases hx;exact .inr (.inl ⟨_,rfl,rfl,rfl,rfl,hr2⟩)
    |i+2,hx=>simp[Stn,St.at]at hx
  | cell b o =>
    have hx':S.at (.cell b o)=some x:=hx
    refine .inr (.inr ⟨b,o,rfl,hx',?_,rfl⟩)
    simp only[St.at]at hx'
    cases hb:S.bx[b]? with
    |none=>rw[hb]at hx';cases hx'
    | some cs =>
      rw[hb]at hx'
      exact hok cs (zzd_ hb) x (zzd_ hx')
 have hhas:∀l x v,Has (Frn 2) g w (Stn [.ptr b1 0,.ptr b2 0] S.bx) ⟨#[Act.tv a t1,Act.tv a t2],[]⟩ (.l l) x v->((∃b,x=.ptr b 0/\b<S.bx.length)/\Rep g w x v)\/(Has F g w S a (.l l) x v/\okL x=true/\∃b o,l=.cell b o):=by
  intro l x v hh
  rcases hat l x hh.1 with ⟨v',rfl,rfl,rfl,hv,hr⟩|⟨v',rfl,rfl,rfl,hv,hr⟩|⟨b,o,rfl,hx,hk,hv⟩
  .have:=hh.2.symm.trans hv;cases this;exact .inl ⟨⟨b1,rfl,l1⟩,hr⟩
  .have:=hh.2.symm.trans hv;cases this;exact .inl ⟨⟨b2,rfl,l2⟩,hr⟩
  .exact .inr ⟨⟨hx,by rw[<-hv];exact hh.2⟩,hk,b,o,rfl⟩
 have hno:∀ {t p x},((Stn [.ptr b1 0,.ptr b2 0] S.bx).tm t).sub p=some x->x=.no:=by
  intro t p x hs
  cases p<;>simp[Stn,V.sub]at hs
  exact hs.symm
 have hown:∀r p k,Own (Frn 2) g w (Stn [.ptr b1 0,.ptr b2 0] S.bx) ⟨#[Act.tv a t1,Act.tv a t2],[]⟩ r p k->Own F g w S a r p k/\∃l,r=.l l:=by
  intro r p k ⟨x,u,hh,ho⟩
  cases r with
  | t t =>
    obtain⟨rfl,rfl⟩:=hh
    rcases ho with ⟨_,_,_,_,q,_⟩|⟨_,q,_⟩
    .cases hno q
    .simp[Stn,zc_]at q
  | l l =>
    rcases hhas l x u hh with ⟨⟨b,rfl,_⟩,_⟩|⟨h1,h2,_⟩
    .rcases ho with ⟨_,_,_,_,q,_⟩|⟨_,q,_⟩
     .cases p<;>simp[V.sub]at q
     .simp[zc_]at q
    .rcases ho with ho|⟨_,q,_⟩
     .exact⟨⟨x,u,h1,.inl ho⟩,l,rfl⟩
     .obtain⟨d,e,z,xs,q1,_⟩:=z0_ q
      subst q1
      simp[okL]at h2
 refine⟨⟨rfl,rfl,?_,?_,?_,h.box,h.inj,?_,?_,?_,?_,?_,?_,h.Ilt,?_,?_,?_,?_⟩,fun k ho=>?_⟩
 .intro r x v hh
  cases r with
  |t t=>obtain⟨rfl,rfl⟩:=hh;exact .no
  | l l =>
    rcases hhas l x v hh with ⟨_,hr⟩|⟨h1,_⟩
    .exact hr
    .exact h.rep _ _ _ h1
 .intro l x hx
  rcases hat l x hx with ⟨v',_,_,rfl,hv,_⟩|⟨v',_,_,rfl,hv,_⟩|⟨b,o,rfl,hx',hk,hv⟩
  .exact⟨v',hv,fun ⟨b,o,e⟩=>by cases e⟩
  .exact⟨v',hv,fun ⟨b,o,e⟩=>by cases e⟩
  .obtain⟨v,q1,q2⟩:=h.lookv _ _ hx';exact⟨v,hv.trans q1,q2⟩
 .intro l d e z xs v hx _
  rcases hat l _ hx with ⟨v',q,_⟩|⟨v',q,_⟩|⟨b,o,_,_,hk,_⟩
  .cases q
  .cases q
  .simp[okL]at hk
 .intro r x v p b o hh hs
  cases r with
  |t t=>obtain⟨rfl,rfl⟩:=hh;cases hno hs
  | l l =>
    rcases hhas l x v hh with ⟨⟨b',rfl,hl⟩,_⟩|⟨h1,_⟩
    .cases p<;>simp[V.sub]at hs
     rw[<-hs.1];exact hl
    .exact h.ptr _ _ _ _ _ _ h1 hs
 .intro r p k ho;exact h.ownI r p k (hown r p k ho).1
 .intro r p r' p' k h1 h2;exact h.uniq r p r' p' k (hown r p k h1).1 (hown r' p' k h2).1
 .intro t p x v hx hv
  cases hno hx
  trivial
 .intro l x hx p
  rcases hat l x hx with ⟨v',rfl,_⟩|⟨v',rfl,_⟩|⟨b,o,rfl,hx',_,_⟩
  .refine⟨?_,?_,?_,?_⟩<;>intros<;>intro hs<;>cases p<;>simp[V.sub]at hs
  .refine⟨?_,?_,?_,?_⟩<;>intros<;>intro hs<;>cases p<;>simp[V.sub]at hs
  .exact h.novw _ x hx' p
 .intro t p d e0 e z xs hs
  cases hno hs
 .intro t _;rfl
 .intro t p x hx
  cases hno hx
  exact zzn_ _
 .intro l x hx
  rcases hat l x hx with ⟨v',rfl,_⟩|⟨v',rfl,_⟩|⟨b,o,rfl,hx',hk,_⟩
  .exact zzn_ _
  .exact zzn_ _
  .cases x<;>simp[okL]at hk<;>exact zzn_ _
 .intro l d e z xs v k hx
  rcases hat l _ hx with ⟨v',q,_⟩|⟨v',q,_⟩|⟨b,o,_,_,hk,_⟩
  .cases q
  .cases q
  .simp[okL]at hk
 .rcases ho with ⟨r,p,ho⟩|⟨b,hb,e⟩
  .exact .inl ⟨r,p,(hown r p k ho).1⟩
  .exact .inr ⟨b,hb,e⟩
end
section
variable{P:Program}{F:Fr}
theorem ja_{f fd:FuncId}{fn:Func}{c0 c1 c2 c3:Code}(hf:P.funcs[f]?=some fn)(hb:fn.body=some (.seq c0 (.seq c1 (.seq c2 c3))))(hm:P.follows .mixedOrders=true)(hF:F.ok)(hdf:F.df=[])(hN:F.N=fn.ntmps)
 {a0 a1 a3:ACode} (hc0:comp P F c0=some (zh_ a0)) (hl0:za_ a0=true) (hc1:comp P F c1=some (zh_ a1)) (hl1:za_ a1=true) {rvs:List RV} (hr:∀ds,wn_ P { F with df:=ds } fn.results.toList=some rvs) (hr6:fn.results.size<=6)
 {args:List V} {bs:List (List V)} (hle:args.length<=F.N) (hsv:F.sv.take args.length=List.range args.length) {Q:V->List (List V)->Prop}
 {td p q bp bq:Nat} (hops:∀ds,opds { F with df:=ds } [.tmp p,.tmp q]=some [.t p,.t q]) (hrt:∀r∈fn.results.toList,∃t,r=.tmp t/\t≠td) (htd:td<F.N) (htv:td∉F.sv) (hp:p<F.N) (hpv:p∉F.sv) (hq':q<F.N) (hqv:q∉F.sv)
 (h2:∀(a:Act) (w:World) (R:Exit->Act->World->Prop),a.tmps.size=F.N->a.defers=[]->R .normal { tmps:=(a.put (some td) (.func (.func fd) #[] #[(Act.tv a p),(Act.tv a q)])).tmps,defers:=[{ target:=.fn (.func fd) #[(Act.tv a p),(Act.tv a q)],args:=#[] }] } w->c2.wp P R a w)
 (hi2:∀(x y:Value) w,(invoke (.fn (.func fd) #[x,y]) #[]).run P w=.ok (.enter fd #[x,y]) w)
 {S1:St} (hw0:W P F bs.length a0 (St0 F args bs) fun x S=>x=.normal/\W P F bs.length a1 S fun x S=>x=.normal/\S=S1)
 (hS1:S1.tm p=.ptr bp 0/\S1.tm q=.ptr bq 0/\bp<S1.bx.length/\bq<S1.bx.length)
 (hc3:∀ds,comp P { F with df:=ds } c3=some (zh_ a3)) (hl3:za_ a3=true)
 (hw3:∀ds,W P { F with df:=ds } S1.bx.length a3 { S1 with tm:=upd S1.tm td .gone } fun x S=>x.isEnd=true/\S.tm p=.ptr bp 0/\S.tm q=.ptr bq 0 /\
  (∀cs∈S.bx,∀x∈cs,okL x=true)/\∃e,e.oneCell'=true/\(∃ls,rvVs S rvs=some ([.s e],ls))/\∃Qd,ACD P fd [.ptr bp 0,.ptr bq 0] S.bx Qd/\∀r bs'',Qd r bs''->r=.tup []/\∃m,bs.length<=m/\m<=bs''.length/\(bs''.take m).all (·.all (zT_ m))=true/\Q (.s e) (bs''.take m)):AC P f args bs Q:=by
 intro g w vals hbd
 obtain⟨h0,ho0⟩:=wD_ (F:=F) hbd hdf hle hsv
 refine calls_of_wp_defers hf hb ?_
 rw[<-hN]
 generalize hA0:(⟨vals++Array.replicate (F.N-vals.size) undef,[]⟩:Act)=A0 at h0 ho0 ⊢
 have hrch:Rch F bs.length g w (St0 F args bs) A0 g w (St0 F args bs) A0:=⟨h0,Fw.refl _ _ _ _ _,zzl_ _,fun _ _=>rfl⟩
 refine wp_seq (w_ok hF hm a0 c0 hc0 hl0 hrch hw0 ?_)
 rintro x S w1g w1 w1a ⟨rfl,hwS⟩ hr1
 refine wp_seq (w_ok hF hm a1 c1 hc1 hl1 hr1 hwS ?_)
 rintro x S g1 w1 b1 ⟨rfl,rfl⟩ hr2
 refine wp_seq (h2 b1 w1 _ hr2.rel.sz (hr2.rel.dfr.trans hdf) ?_)
 obtain⟨s1,s2,s3,s4⟩:=hS1
 -- the closure's slot, the list of what is deferred
 have hput:=hr2.rel.put (tm1:=S.tm) (fun t=>Less.refl _) (fun _ _=>rfl) htd htv (y:=.gone) (v:=.func (.func fd) #[] #[(Act.tv b1 p),(Act.tv b1 q)]) .gone (by intro h;cases h)
  (fun p b o hs=>by cases p<;>simp[V.sub]at hs) (fun p d e0 e z xs hs=>by cases p<;>simp[V.sub]at hs) (fun p x hs=>by cases p<;>simp[V.sub]at hs;subst hs;exact zzn_ _)
  (fun p x u hs _=>by cases p<;>simp[V.sub]at hs;subst hs;trivial) (fun p k ⟨e,z,xs,u,q1,_⟩=>by cases p<;>simp[V.sub]at q1) (fun p p' k ⟨e,z,xs,u,q1,_⟩=>by cases p<;>simp[V.sub]at q1)
  (fun p k m ⟨e,z,xs,u,q1,_⟩=>by cases p<;>simp[V.sub]at q1)
 generalize hds:([{ target:=.fn (.func fd) #[(Act.tv b1 p),(Act.tv b1 q)],args:=#[] }]:List Deferred)=ds at *
 have hrel3:=jD_ hput ds
 have hbp:(Act.tv b1 p)=.pointer (some ⟨g1.φ bp,0,none⟩):=by
  have:=hr2.rel.rep (.t p) (.ptr bp 0) ((Act.tv b1 p)) ⟨s1.symm,rfl⟩
  exact this.ptrv (by omega)
 have hbq:(Act.tv b1 q)=.pointer (some ⟨g1.φ bq,0,none⟩):=by
  have:=hr2.rel.rep (.t q) (.ptr bq 0) ((Act.tv b1 q)) ⟨s2.symm,rfl⟩
  exact this.ptrv (by omega)
 have hrch3:Rch { F with df:=ds } S.bx.length g1 w1 { S with tm:=upd S.tm td .gone } { tmps:=(b1.put (some td) (.func (.func fd) #[] #[(Act.tv b1 p),(Act.tv b1 q)])).tmps,defers:=ds } g1 w1 { S with tm:=upd S.tm td .gone } { tmps:=(b1.put (some td) (.func (.func fd) #[] #[(Act.tv b1 p),(Act.tv b1 q)])).tmps,defers:=ds } :=
  ⟨hrel3,Fw.refl _ _ _ _ _,zzl_ _,fun _ _=>rfl⟩
 refine w_ok (F:={ F with df:=ds }) ⟨hF.inj,hF.lt⟩ hm a3 c3 (hc3 ds) hl3 hrch3 (hw3 ds) ?_
 rintro x S' g' w' a' ⟨hx,t1,t2,hokb,e,he1,⟨ls,hrv⟩,Qd,hacd,hQd⟩ hr'
 have hlen3:S.bx.length<=S'.bx.length:=hr'.len
 have hap:(Act.tv a' p)=(Act.tv b1 p):=by
  have:=hr'.rel.rep (.t p) (.ptr bp 0) ((Act.tv a' p)) ⟨t1.symm,rfl⟩
  rw[this.ptrv (by omega),hbp,hr'.phi bp s3]
 have haq:(Act.tv a' q)=(Act.tv b1 q):=by
  have:=hr'.rel.rep (.t q) (.ptr bq 0) ((Act.tv a' q)) ⟨t2.symm,rfl⟩
  rw[this.ptrv (by omega),hbq,hr'.phi bq s4]
 have own3:∀k,yZ_ { F with df:=ds } g1 w1 { S with tm:=upd S.tm td .gone } { tmps:=(b1.put (some td) (.func (.func fd) #[] #[(Act.tv b1 p),(Act.tv b1 q)])).tmps,defers:=ds } k->yZ_ F g1 w1 S b1 k:=by
  intro k ho
  have ho:=m6_.1 ho
  rcases ho with ⟨r,p',ho⟩|ho
  .rcases x7_ hr2.rel (fun t=>Less.refl _) htd htv (by intro h;cases h) (fun p d e0 e z xs hs=>by cases p<;>simp[V.sub]at hs) ho with ⟨_,e,z,xs,_,q1,_⟩|q
   .cases p'<;>simp[V.sub]at q1
   .exact .inl ⟨r,p',q⟩
  .exact .inr ho
 obtain⟨hbd2,hown2⟩:=iI_ hr'.rel (t1:=p) (t2:=q) t1 t2 (by omega) (by omega) hokb
 have hdf':a'.defers=ds:=hr'.rel.dfr
 have hleave:Leaves P fn a'.tmps (fun e w'=>∃v r bs' g',e=.returned v/\Q r bs'/\okV r=true/\Bd g' w' [r] #[v] bs'/\Ext g w (OwnB g w args vals bs) g' w' (OwnB g' w' [r] #[v] bs') bs.length) a'.defers .returning w':=by
  rw[hdf',<-hds]
  refine leaves_cons (by simp) (hi2 _ _ _) ?_
  rw[hap,haq]at hbd2 hown2
  refine(hacd g' w' _ .returning hbd2).mono ?_
  rintro e' u' w2 ⟨rfl,v,r,bs2,g2,rfl,hQr,hok2,hb2,hx2⟩
  obtain⟨rfl,m,hm1,hm2,hm3,hQ⟩:=hQd r bs2 hQr
  show Leaves P fn a'.tmps _ [] _ w2
  obtain⟨vs,lss,e1,e2,e3,e4,e5,e6⟩:=gots hr'.rel (hr ds) hrv
  have hvs:vs=[e]:=by
   have hl:vs.length=1:=by rw[e1,<-e2];rfl
   match vs,hl with
   | [x], _ =>
     have hl3:lss.length=1:=by rw[e3,<-e2];rfl
     obtain⟨l0,hl0⟩:∃l0,lss[0]?=some l0:=⟨lss[0]'(by omega),by simp⟩
     have:=(e6 0 (.s e) x l0 rfl rfl hl0).rep.of_s rfl
     rw[this]
  subst hvs
  have hres:(results fn a'.tmps).run P w2=.ok e w2:=by
   have:=xr_ (P:=P) (w:=w2) (tmps:=a'.tmps) (rs:=fn.results.toList) (fn:=fn) (vs:=[e]) (by simp) (by simpa using hr6) e1 (fun i r x hr1 hv1=>by
    obtain⟨t,rfl,_⟩:=hrt r (zzd_ hr1)
    have:=e5 i _ x hr1 hv1
    simp only[runR,Sem.run_pure,Result.ok.injEq]at this ⊢
    exact⟨this.1,trivial⟩)
   simpa[packV] using this
  obtain⟨k1,k2,k3⟩:=tk_ (F:=Frn 1) (n:=m) (ys:=[.s e]) (vs:=[e]) (lss:=[[]]) hb2 rfl rfl (by simp[w5_,dupF,ptrA,Stn];exact⟨by simpa using hm3,decide_eq_true hm2⟩) (fun i y v l hy hv hl=>by
   match i,hy,hv,hl with
   | 0, hy, hv, hl =>
     cases hy
     cases hv
     cases hl
     refine⟨.s he1,rfl,⟨fun _=>[],fun p k ⟨e0,z,xs,u,q1,_⟩=>?_⟩,fun p b o hs=>?_⟩
     .cases p<;>simp[V.sub]at q1
     .cases p<;>simp[V.sub]at hs)
  have hfw3:=hr'.fw
  have hfw1:=hr2.fw
  have hsub:∀k,OwnB g' w' [.ptr bp 0,.ptr bq 0] #[(Act.tv b1 p),(Act.tv b1 q)] S'.bx k->yZ_ F g1 w1 S b1 k\/w1.heap.size<=k:=fun k ho=>by
   rcases hfw3.owned k (hown2 k ho) with h|h
   .exact .inl (own3 k h)
   .exact .inr h
  refine⟨e,hres,e,.s e,_,g2,rfl,hQ,rfl,k2,(hx2.os.trans hfw3.os).trans hfw1.os,(hx2.tape.trans hfw3.tape).trans hfw1.tape,(hx2.output.trans hfw3.output).trans hfw1.output,yyd_ hfw1.size (yyd_ hfw3.size hx2.size),fun k hk ho=>?_,fun k ho=>?_,fun b hb=>?_⟩
  .have ho':¬yZ_ F g w (St0 F args bs) A0 k:=fun h=>ho (ho0 k h)
   have ho1:¬yZ_ F g1 w1 S b1 k:=fun h=>by
    rcases hfw1.owned k h with q|q
    .exact ho' q
    .omega
   have hk1:=zzk_ hk hfw1.size
   obtain⟨m1,m2⟩:=hfw1.same k hk ho'
   obtain⟨m3,m4⟩:=hfw3.same k hk1 (fun h=>ho1 (own3 k h))
   obtain⟨m5,m6⟩:=hx2.same k (zzk_ hk1 hfw3.size) (fun h=>by
    rcases hsub k h with q|q
    .exact ho1 q
    .omega)
   exact⟨m5.trans (m3.trans m1),m6.trans (m4.trans m2)⟩
  .rcases hx2.owned k (k3 k ho) with q|q
   .rcases hsub k q with q|q
    .rcases hfw1.owned k q with q|q
     .exact .inl (ho0 k q)
     .exact .inr q
    .exact .inr (yyd_ hfw1.size q)
   .exact .inr (yyd_ hfw1.size (yyd_ hfw3.size q))
  .have hb1:b<S.bx.length:=zzk_ hb hr2.len
   rw[hx2.phi b (by omega),hr'.phi b hb1,hr2.phi b hb]
 cases x with
 |normal=>exact hleave
 |ret=>exact hleave
 |exit id=>simp[AX.isEnd]at hx
 |goto l=>simp[AX.isEnd]at hx
end
end
def F52:Fr:=⟨120,[0,1,2,6,8],[]⟩
def a52x:ACode :=
 (.reg 0 [] [
 ⟨(.t 3),.box 1 (.v 0),none⟩,
 ⟨(.v 3),.asg (.c (.int .i64 0)),none⟩] none ⟨[],[],[],[]⟩)
def a52y:ACode :=
 (.reg 1 [] [
 ⟨(.t 7),.allo [(.int .i64 0)],none⟩,
 ⟨.none,.st 1 (.t 7) (.c (.int .i64 0)),none⟩] none ⟨[],[],[],[]⟩)
def a52z:ACode :=
 (.seq (.reg 3 [] [
 ⟨(.t 10),.mv (.v 1),none⟩,
 ⟨(.t 11),.bin .shl (.c (.int .i64 1)) (.t 10),none⟩,
 ⟨(.v 4),.asg (.t 11),none⟩] none ⟨[],[],[],[]⟩)
 (.seq (.seq (.reg 4 [] [
 ⟨(.t 12),.mv (.v 2),none⟩,
 ⟨(.t 13),.bin .eql (.t 12) (.c (.int .i64 4)),none⟩] none ⟨[],[],[],[]⟩)
 (.cond (.t 13)
 (.seq (.seq (.reg 5 [] [
 ⟨(.t 14),.ld 1 false (.t 3),none⟩,
 ⟨(.t 15),.nilck (.t 14),none⟩,
 ⟨(.t 16),.fa 0 (.t 15),none⟩,
 ⟨(.t 17),.fa 2 (.t 16),none⟩,
 ⟨(.t 18),.ld 1 false (.t 17),none⟩,
 ⟨(.t 19),.mv (.v 4),none⟩,
 ⟨(.t 20),.bin .and (.t 18) (.t 19),none⟩,
 ⟨(.t 21),.bin .eql (.t 20) (.c (.int .i64 0)),none⟩,
 ⟨(.t 22),.mv (.t 21),none⟩,
 ⟨(.t 23),.ld 1 false (.t 3),some (22,false)⟩,
 ⟨(.t 24),.nilck (.t 23),some (22,false)⟩,
 ⟨(.t 25),.fa 0 (.t 24),some (22,false)⟩,
 ⟨(.t 26),.fa 7 (.t 25),some (22,false)⟩,
 ⟨(.t 27),.ld 1 false (.t 26),some (22,false)⟩,
 ⟨(.t 28),.pick (.t 22) (.c (.bool true)) (.t 27),none⟩] none ⟨[],[],[],[]⟩)
 (.cond (.t 28)
 (.seq (.reg 6 [] [
 ⟨(.v 3),.asg (.c (.int .i64 0)),none⟩] none ⟨[],[],[],[]⟩)
 .ret)
 .skip))
 (.seq (.seq (.reg 7 [] [
 ⟨(.t 29),.ld 1 false (.t 3),none⟩,
 ⟨(.t 30),.nilck (.t 29),none⟩,
 ⟨(.t 31),.fa 0 (.t 30),none⟩,
 ⟨(.t 32),.fa 3 (.t 31),none⟩,
 ⟨(.t 33),.ld 1 false (.t 32),none⟩,
 ⟨(.t 34),.bin .eql (.t 33) (.c (.int .i64 0)),none⟩] none ⟨[],[],[],[]⟩)
 (.cond (.t 34)
 (.reg 8 [] [
 ⟨(.t 35),.ld 1 false (.t 3),none⟩,
 ⟨(.t 36),.nilck (.t 35),none⟩,
 ⟨(.t 37),.fa 0 (.t 36),none⟩,
 ⟨(.t 38),.fa 4 (.t 37),none⟩,
 ⟨(.t 39),.ld 1 false (.t 38),none⟩,
 ⟨(.t 40),.mv (.v 4),none⟩,
 ⟨(.t 41),.bin .or (.t 39) (.t 40),none⟩,
 ⟨(.t 42),.nilck (.t 35),none⟩,
 ⟨(.t 43),.fa 0 (.t 42),none⟩,
 ⟨(.t 44),.fa 4 (.t 43),none⟩,
 ⟨.none,.st 1 (.t 44) (.t 41),none⟩] none ⟨[],[],[],[]⟩)
 (.reg 9 [] [
 ⟨(.t 45),.mv (.v 4),none⟩,
 ⟨.none,.st 1 (.t 7) (.t 45),none⟩] none ⟨[],[],[],[]⟩)))
 (.seq (.reg 10 [] [
 ⟨(.v 3),.asg (.c (.int .i64 0)),none⟩] none ⟨[],[],[],[]⟩)
 .ret)))
 .skip))
 (.seq (.seq (.reg 11 [] [
 ⟨(.t 46),.ld 1 false (.t 3),none⟩,
 ⟨(.t 47),.nilck (.t 46),none⟩,
 ⟨(.t 48),.fa 0 (.t 47),none⟩,
 ⟨(.t 49),.fa 1 (.t 48),none⟩,
 ⟨(.t 50),.ld 1 false (.t 49),none⟩,
 ⟨(.t 51),.mv (.v 4),none⟩,
 ⟨(.t 52),.bin .and (.t 50) (.t 51),none⟩,
 ⟨(.t 53),.bin .eql (.t 52) (.c (.int .i64 0)),none⟩,
 ⟨(.t 54),.mv (.t 53),none⟩,
 ⟨(.t 55),.ld 1 false (.t 3),some (54,false)⟩,
 ⟨(.t 56),.nilck (.t 55),some (54,false)⟩,
 ⟨(.t 57),.fa 0 (.t 56),some (54,false)⟩,
 ⟨(.t 58),.fa 2 (.t 57),some (54,false)⟩,
 ⟨(.t 59),.ld 1 false (.t 58),some (54,false)⟩,
 ⟨(.t 60),.mv (.v 4),some (54,false)⟩,
 ⟨(.t 61),.bin .and (.t 59) (.t 60),some (54,false)⟩,
 ⟨(.t 62),.bin .neq (.t 61) (.c (.int .i64 0)),some (54,false)⟩,
 ⟨(.t 63),.pick (.t 54) (.c (.bool true)) (.t 62),none⟩] none ⟨[],[],[],[]⟩)
 (.cond (.t 63)
 (.seq (.reg 12 [] [
 ⟨(.v 3),.asg (.c (.int .i64 14)),none⟩] none ⟨[],[],[],[]⟩)
 .ret)
 .skip))
 (.seq (.seq (.reg 13 [] [
 ⟨(.t 64),.mv (.v 2),none⟩,
 ⟨(.t 65),.bin .eql (.t 64) (.c (.int .i64 3)),none⟩] none ⟨[],[],[],[]⟩)
 (.cond (.t 65)
 (.seq (.reg 14 [] [
 ⟨(.t 66),.ld 1 false (.t 3),none⟩,
 ⟨(.t 67),.nilck (.t 66),none⟩,
 ⟨(.t 68),.fa 0 (.t 67),none⟩,
 ⟨(.t 69),.fa 3 (.t 68),none⟩,
 ⟨(.t 70),.ld 1 false (.t 69),none⟩,
 ⟨(.t 71),.mv (.v 4),none⟩,
 ⟨(.t 72),.bin .or (.t 70) (.t 71),none⟩,
 ⟨(.t 73),.nilck (.t 66),none⟩,
 ⟨(.t 74),.fa 0 (.t 73),none⟩,
 ⟨(.t 75),.fa 3 (.t 74),none⟩,
 ⟨.none,.st 1 (.t 75) (.t 72),none⟩] none ⟨[],[],[],[]⟩)
 (.seq (.reg 15 [] [
 ⟨(.t 76),.ld 1 false (.t 3),none⟩,
 ⟨(.t 77),.nilck (.t 76),none⟩,
 ⟨(.t 78),.fa 0 (.t 77),none⟩,
 ⟨(.t 79),.fa 4 (.t 78),none⟩,
 ⟨(.t 80),.ld 1 false (.t 79),none⟩,
 ⟨.none,.st 1 (.t 7) (.t 80),none⟩] none ⟨[],[],[],[]⟩)
 (.seq (.reg 16 [] [
 ⟨(.v 3),.asg (.c (.int .i64 0)),none⟩] none ⟨[],[],[],[]⟩)
 .ret)))
 .skip))
 (.seq (.reg 17 [] [
 ⟨(.t 81),.ld 1 false (.t 3),none⟩,
 ⟨(.t 82),.nilck (.t 81),none⟩,
 ⟨(.t 83),.fa 0 (.t 82),none⟩,
 ⟨(.t 84),.fa 2 (.t 83),none⟩,
 ⟨(.t 85),.ld 1 false (.t 84),none⟩,
 ⟨(.t 86),.mv (.v 4),none⟩,
 ⟨(.t 87),.bin .or (.t 85) (.t 86),none⟩,
 ⟨(.t 88),.nilck (.t 81),none⟩,
 ⟨(.t 89),.fa 0 (.t 88),none⟩,
 ⟨(.t 90),.fa 2 (.t 89),none⟩,
 ⟨.none,.st 1 (.t 90) (.t 87),none⟩] none ⟨[],[],[],[]⟩)
 (.seq (.reg 18 [] [
 ⟨(.t 91),.ld 1 false (.t 3),none⟩,
 ⟨(.t 92),.nilck (.t 91),none⟩,
 ⟨(.t 93),.fa 0 (.t 92),none⟩,
 ⟨(.t 94),.fa 3 (.t 93),none⟩,
 ⟨(.t 95),.ld 1 false (.t 94),none⟩,
 ⟨(.t 96),.mv (.v 4),none⟩,
 ⟨(.t 97),.bin .andNot (.t 95) (.t 96),none⟩,
 ⟨(.t 98),.nilck (.t 91),none⟩,
 ⟨(.t 99),.fa 0 (.t 98),none⟩,
 ⟨(.t 100),.fa 3 (.t 99),none⟩,
 ⟨.none,.st 1 (.t 100) (.t 97),none⟩] none ⟨[],[],[],[]⟩)
 (.seq (.seq (.reg 19 [] [
 ⟨(.t 101),.ld 1 false (.t 3),none⟩,
 ⟨(.t 102),.nilck (.t 101),none⟩,
 ⟨(.t 103),.fa 0 (.t 102),none⟩,
 ⟨(.t 104),.fa 2 (.t 103),none⟩,
 ⟨(.t 105),.ld 1 false (.t 104),none⟩,
 ⟨(.t 106),.ld 1 false (.t 3),none⟩,
 ⟨(.t 107),.nilck (.t 106),none⟩,
 ⟨(.t 108),.fa 0 (.t 107),none⟩,
 ⟨(.t 109),.fa 1 (.t 108),none⟩,
 ⟨(.t 110),.ld 1 false (.t 109),none⟩,
 ⟨(.t 111),.bin .eql (.t 105) (.t 110),none⟩] (some [[],[0],[1],[2],[3],[],[5],[6],[7],[8],[4,9]]) ⟨[3],[],[],[]⟩)
 (.cond (.t 111)
 (.seq (.reg 20 [] [
 ⟨(.t 112),.ld 1 false (.t 3),none⟩,
 ⟨(.t 113),.nilck (.t 112),none⟩,
 ⟨(.t 114),.fa 0 (.t 113),none⟩,
 ⟨(.t 115),.fa 7 (.t 114),none⟩,
 ⟨.none,.st 1 (.t 115) (.c (.bool true)),none⟩] none ⟨[],[],[],[]⟩)
 (.reg 21 [] [
 ⟨(.t 116),.ld 1 false (.t 3),none⟩,
 ⟨(.t 117),.nilck (.t 116),none⟩,
 ⟨(.t 118),.fa 0 (.t 117),none⟩,
 ⟨(.t 119),.fa 4 (.t 118),none⟩,
 ⟨.none,.st 1 (.t 119) (.c (.int .i64 0)),none⟩] none ⟨[],[],[],[]⟩))
 .skip))
 (.seq (.reg 22 [] [
 ⟨(.v 3),.asg (.c (.int .i64 0)),none⟩] none ⟨[],[],[],[]⟩)
 .ret))))))))
theorem iG_:∃c0 c1 c2 c3,Try.f52.body=some (.seq c0 (.seq c1 (.seq c2 c3)))/\comp Try.prog F52 c0=some (zh_ a52x)/\comp Try.prog F52 c1=some (zh_ a52y)/\(∀ds,comp Try.prog ⟨120,[0,1,2,6,8],ds⟩ c3=some (zh_ a52z)) /\
 ∀(a:Act) (w:World) (R:Exit->Act->World->Prop),a.tmps.size=120->a.defers=[]->R .normal { tmps:=(a.put (some 9) (.func (.func 73) #[] #[(Act.tv a 7),(Act.tv a 3)])).tmps,defers:=[{ target:=.fn (.func 73) #[(Act.tv a 7),(Act.tv a 3)],args:=#[] }] } w->c2.wp Try.prog R a w:=by
 refine⟨_,_,_,_,rfl,by kernel_rfl,by kernel_rfl,fun ds=>by kernel_rfl,fun a w R hs hd hR=>?_⟩
 obtain⟨tmps,defers⟩:=a
 simp only at hs hd
 subst hd
 have h9:tmps.size>9:=by omega
 have hx:∀v,(tmps.setIfInBounds 9 v).getD 9 undef=v:=fun v=>by simp[Array.getD_eq_getD_getElem?,h9]
 refine wp_region ?_
 show wpOps _ _ _ [0,1] _ _
 simp only[wpOps]
 simp[Oper.wp,execOp,Oper.upon,Act.eval,Act.put,resolve,hx,Region.wanted,Instr.makeFunc,Deferred.ofValue]
 refine .inl (.inl ?_)
 simpa[Act.put,Act.tv,Array.getD_eq_getD_getElem?] using hR
theorem kB_:za_ a52x=true/\za_ a52y=true/\za_ a52z=true:=⟨by kernel_rfl,by kernel_rfl,by kernel_rfl⟩
def Bl.gave(b:Bl)(k:Int):Bl:={ b with votes:=bits .andNot .i64 b.votes k,fail:=bits .or .i64 b.fail k,inqd:=bits .andNot .i64 b.inqd k }
def yldO(l:List Int):List Vt:=l.map fun v=>⟨5,v,0,0⟩
theorem ph_{l:List Int}{i:Nat}(h:i<l.length):yldO (l.take (i+1))=yldO (l.take i)++[⟨5,l[i],0,0⟩]:=by
 unfold yldO
 rw[yyw_,zzf_ h,List.map_append]
 rfl
def ylI(b:Bl)(l:List Vt)(k:Int)(m:Nat)(S:St):Prop:=∃i:Nat,i+m=(mbU k 9).length /\
 S=⟨tmL [(5,.list 1 (iv (mbU k 9))),(6,.s (.int .i64 (mbU k 9).length)),(7,.s (.int .i64 i))],[.ptr 2 0,.ptr 1 0,.no],[wB b (oV (l++yldO ((mbU k 9).take i))),[.ptr 0 0],[.s (.int .i64 k)]],0⟩
set_option maxHeartbeats 8000000 in
theorem yj_(b:Bl)(l:List Vt)(k:Int)(hl:l.length<=900):ACD Try.prog 73 [.ptr 2 0,.ptr 1 0] [wB b (oV l),[.ptr 0 0],[.s (.int .i64 k)]] (fun r bs=>r=.tup []/\∃r2 r3,bs=[wB (b.gave k) (oV (l++yldO (mbU k 9))),r2,r3]):=by
 have k4:=wX_ k
 have hlen:=tb_ k 9
 refine j8_ c73 zD_ rfl ?_
 simp -implicitDefEqProofs [a73,F73,wB,oV]
 refine z5_ ?_
 simp -implicitDefEqProofs
 refine zu_ k4 (by simp) (by simp) ?_
 rintro _ rfl
 simp -implicitDefEqProofs
 refine zn_ [5,6,7] [2] 3 (by simp) (ylI b l k) (mbU k 9).length ⟨by simp,0,by simp,by simp[wB,oV,yldO]⟩ ?_
 rintro m S ⟨i,hi,rfl⟩
 by_cases hm:i<(mbU k 9).length
 .have g1:(i:Int)<(mbU k 9).length:=by omega
  have g0:¬(i:Int)<0:=by omega
  have hwi:IntKind.i64.wrap ((i:Int)+1)=(i:Int)+1:=zo_ (by omega)
  have hs:=ph_ hm
  have hol:(l++yldO ((mbU k 9).take i)).length<=909:=by simp[yldO];omega
  have hs2:l++yldO ((mbU k 9).take (i+1))=(l++yldO ((mbU k 9).take i))++[⟨5,(mbU k 9)[i],0,0⟩]:=by rw[hs,zzq_]
  generalize l++yldO ((mbU k 9).take i)=out at hs2 hol
  simp -implicitDefEqProofs [g1,g0,y4_ hm,hwi]
  refine zs_ ?_
  simp -implicitDefEqProofs
  refine ya_ (mask:=[]) (sel:=[0]) (xq_ b out 5 (mbU k 9)[i] (by omega)) ⟨by simp[ren,renA,renL,fzs],rfl,rfl,rfl,rfl,rfl,rfl⟩ ?_
  rintro _ _ ⟨rfl,rfl⟩
  simp -implicitDefEqProofs [aftS,zt_,hwi,wB,oV]
  exact⟨m-1,by omega,i+1,by omega,by rw[hs2];simp[wB,oV]⟩
 .have g1:i=(mbU k 9).length:=by omega
  have g2:(mbU k 9).take i=mbU k 9:=zzx_ (by omega)
  simp -implicitDefEqProofs [g1,wB,oV,↓zC_,↓zd_]
  refine zI_ 3 ?_
  simp -implicitDefEqProofs [Bl.gave]
def ansR(b:Bl)(bit kind:Int):Int×Bl×Int :=
 if kind=4 then
  if bits .and .i64 b.votes bit=0\/b.using'=true then (0,b,0)
  else if b.fail=0 then (0,{ b with inqd:=bits .or .i64 b.inqd bit },0) else (0,b,bit)
 else if bits .and .i64 b.qu bit=0\/bits .and .i64 b.votes bit≠0 then (14,b,0)
 else if kind=3 then (0,{ b with fail:=bits .or .i64 b.fail bit },b.inqd)
 else if bits .or .i64 b.votes bit=b.qu then (0,{ b with votes:=bits .or .i64 b.votes bit,fail:=bits .andNot .i64 b.fail bit,using':=true,inqd:=0 },0)
 else (0,{ b with votes:=bits .or .i64 b.votes bit,fail:=bits .andNot .i64 b.fail bit },0)
set_option maxHeartbeats 16000000 in
set_option maxRecDepth 100000 in
theorem nt_(b:Bl)(f:Nat)(kind:Int)(hf:f<=9):AC Try.prog 52 [.ptr 0 0,.s (.int .i64 f),.s (.int .i64 kind)] [wB b (oV [])]
 (fun r bs=>r=.s (.int .i64 (ansR b ((2^f:Nat):Int) kind).1)/\bs=[wB ((ansR b ((2^f:Nat):Int) kind).2.1.gave (ansR b ((2^f:Nat):Int) kind).2.2) (oV (yldO (mbU (ansR b ((2^f:Nat):Int) kind).2.2 9)))]):=by
 obtain⟨c0,c1,c2,c3,hb,hc0,hc1,hc3,h2⟩:=iG_
 have es:=shl1 (n:=f) (by omega)
 have hf0:¬(f:Int)<0:=by omega
 obtain⟨bit,hbit⟩:∃bit:Int,bit=((2^f:Nat):Int):=⟨_,rfl⟩
 rw[<-hbit]at es ⊢
 clear hbit
 obtain⟨tm,qu,vo,fa,iq,st,us,gv,qq,ak⟩:=b
 refine ja_ (F:=F52) (fn:=Try.f52) (fd:=73) (a0:=a52x) (a1:=a52y) (a3:=a52z) (rvs:=[.v 3]) (td:=9) (p:=7) (q:=3) (bp:=2) (bq:=1)
  (S1:=⟨upd (upd (fun _=>.no) 3 (.ptr 1 0)) 7 (.ptr 2 0),[.ptr 0 0,.s (.int .i64 f),.s (.int .i64 kind),.s (.int .i64 0),.no],[wB ⟨tm,qu,vo,fa,iq,st,us,gv,qq,ak⟩ (oV []),[.ptr 0 0],[.s (.int .i64 0)]],0⟩)
  Try.func52 hb zD_ (q4_ (F:=F52) (by rfl)) rfl rfl hc0 kB_.1 hc1 kB_.2.1 (fun ds=>by kernel_rfl) (by decide) (by show 3<=120;omega) rfl (fun ds=>by kernel_rfl) ?_ (by decide) (by decide) (by decide) (by decide) (by decide) (by decide) h2 ?_ ?_ ⟨rfl,rfl,by simp,by simp⟩ hc3 kB_.2.2 ?_
 .intro r hr
  have:Try.f52.results.toList=[.tmp 6]:=by kernel_rfl
  rw[this]at hr
  simp at hr
  exact⟨6,hr,by decide⟩
 .intro x y w
  exact enters_of Try.func73 (by kernel_rfl) rfl _ _
 .simp -implicitDefEqProofs [a52x,a52y,F52,wB,oV]
 .intro ds
  by_cases h4:kind=4
  .subst h4
   by_cases c1:bits .and .i64 vo bit=0
   .have e1:(bits .and .i64 vo bit==0)=true:=by simpa using c1
    have hR:ansR ⟨tm,qu,vo,fa,iq,st,us,gv,qq,ak⟩ bit 4=(0,⟨tm,qu,vo,fa,iq,st,us,gv,qq,ak⟩,0):=by simp[ansR,c1]
    simp only[hR]
    simp -implicitDefEqProofs [a52z,F52,wB,oV,hf0,es,↓zg_,↓zC_,↓zd_,e1]
    refine⟨by simp[okL],_,rfl,rfl,_,yj_ ⟨tm,qu,vo,fa,iq,st,us,gv,qq,ak⟩ [] 0 (by simp),?_⟩
    rintro r bs2 ⟨rfl,r2,r3,rfl⟩
    exact⟨rfl,1,by omega,by simp,by simp[zT_,wB,oV],rfl,by simp[wB,oV]⟩
   have e1:(bits .and .i64 vo bit==0)=false:=by simpa using c1
   cases us
   case' true =>
    have hR:ansR ⟨tm,qu,vo,fa,iq,st,true,gv,qq,ak⟩ bit 4=(0,⟨tm,qu,vo,fa,iq,st,true,gv,qq,ak⟩,0):=by simp[ansR,c1]
    simp only[hR]
    simp -implicitDefEqProofs [a52z,F52,wB,oV,hf0,es,↓zg_,↓zC_,↓zd_,e1]
    refine⟨by simp[okL],_,rfl,rfl,_,yj_ ⟨tm,qu,vo,fa,iq,st,true,gv,qq,ak⟩ [] 0 (by simp),?_⟩
    rintro r bs2 ⟨rfl,r2,r3,rfl⟩
    exact⟨rfl,1,by omega,by simp,by simp[zT_,wB,oV],rfl,by simp[wB,oV]⟩
   by_cases c2:fa=0
   .have e2:(fa==0)=true:=by simpa using c2
    have hR:ansR ⟨tm,qu,vo,fa,iq,st,false,gv,qq,ak⟩ bit 4=(0,⟨tm,qu,vo,fa,bits .or .i64 iq bit,st,false,gv,qq,ak⟩,0):=by simp[ansR,c1,c2]
    simp only[hR]
    simp -implicitDefEqProofs [a52z,F52,wB,oV,hf0,es,↓zg_,↓zC_,↓zd_,e1,e2]
    refine⟨by simp[okL],_,rfl,rfl,_,yj_ ⟨tm,qu,vo,fa,bits .or .i64 iq bit,st,false,gv,qq,ak⟩ [] 0 (by simp),?_⟩
    rintro r bs2 ⟨rfl,r2,r3,rfl⟩
    exact⟨rfl,1,by omega,by simp,by simp[zT_,wB,oV],rfl,by simp[wB,oV]⟩
   .have e2:(fa==0)=false:=by simpa using c2
    have hR:ansR ⟨tm,qu,vo,fa,iq,st,false,gv,qq,ak⟩ bit 4=(0,⟨tm,qu,vo,fa,iq,st,false,gv,qq,ak⟩,bit):=by simp[ansR,c1,c2]
    simp only[hR]
    simp -implicitDefEqProofs [a52z,F52,wB,oV,hf0,es,↓zg_,↓zC_,↓zd_,e1,e2]
    refine⟨by simp[okL],_,rfl,rfl,_,yj_ ⟨tm,qu,vo,fa,iq,st,false,gv,qq,ak⟩ [] bit (by simp),?_⟩
    rintro r bs2 ⟨rfl,r2,r3,rfl⟩
    exact⟨rfl,1,by omega,by simp,by simp[zT_,wB,oV],rfl,by simp[wB,oV]⟩
  have e4:(kind==4)=false:=by simpa using h4
  by_cases c1:bits .and .i64 qu bit=0
  .have e1:(bits .and .i64 qu bit==0)=true:=by simpa using c1
   have hR:ansR ⟨tm,qu,vo,fa,iq,st,us,gv,qq,ak⟩ bit kind=(14,⟨tm,qu,vo,fa,iq,st,us,gv,qq,ak⟩,0):=by simp[ansR,h4,c1]
   simp only[hR]
   simp -implicitDefEqProofs [a52z,F52,wB,oV,hf0,es,↓zg_,↓zC_,↓zd_,e4,e1]
   refine⟨by simp[okL],_,rfl,rfl,_,yj_ ⟨tm,qu,vo,fa,iq,st,us,gv,qq,ak⟩ [] 0 (by simp),?_⟩
   rintro r bs2 ⟨rfl,r2,r3,rfl⟩
   exact⟨rfl,1,by omega,by simp,by simp[zT_,wB,oV],rfl,by simp[wB,oV]⟩
  have e1:(bits .and .i64 qu bit==0)=false:=by simpa using c1
  by_cases c2:bits .and .i64 vo bit=0
  case neg =>
   have e2:(bits .and .i64 vo bit != 0)=true:=by simpa using c2
   have hR:ansR ⟨tm,qu,vo,fa,iq,st,us,gv,qq,ak⟩ bit kind=(14,⟨tm,qu,vo,fa,iq,st,us,gv,qq,ak⟩,0):=by simp[ansR,h4,c1,c2]
   simp only[hR]
   simp -implicitDefEqProofs [a52z,F52,wB,oV,hf0,es,↓zg_,↓zC_,↓zd_,e4,e1,e2]
   refine⟨by simp[okL],_,rfl,rfl,_,yj_ ⟨tm,qu,vo,fa,iq,st,us,gv,qq,ak⟩ [] 0 (by simp),?_⟩
   rintro r bs2 ⟨rfl,r2,r3,rfl⟩
   exact⟨rfl,1,by omega,by simp,by simp[zT_,wB,oV],rfl,by simp[wB,oV]⟩
  have e2:(bits .and .i64 vo bit != 0)=false:=by simpa using c2
  by_cases c3:kind=3
  .have e3:(kind==3)=true:=by simpa using c3
   have hR:ansR ⟨tm,qu,vo,fa,iq,st,us,gv,qq,ak⟩ bit kind=(0,⟨tm,qu,vo,bits .or .i64 fa bit,iq,st,us,gv,qq,ak⟩,iq):=by simp[ansR,h4,c1,c2,c3]
   simp only[hR]
   simp -implicitDefEqProofs [a52z,F52,wB,oV,hf0,es,↓zg_,↓zC_,↓zd_,e4,e1,e2,e3]
   refine⟨by simp[okL],_,rfl,rfl,_,yj_ ⟨tm,qu,vo,bits .or .i64 fa bit,iq,st,us,gv,qq,ak⟩ [] iq (by simp),?_⟩
   rintro r bs2 ⟨rfl,r2,r3,rfl⟩
   exact⟨rfl,1,by omega,by simp,by simp[zT_,wB,oV],rfl,by simp[wB,oV]⟩
  have e3:(kind==3)=false:=by simpa using c3
  by_cases c4:bits .or .i64 vo bit=qu
  .have e5:(bits .or .i64 vo bit==qu)=true:=by simpa using c4
   have hR:ansR ⟨tm,qu,vo,fa,iq,st,us,gv,qq,ak⟩ bit kind=(0,⟨tm,qu,bits .or .i64 vo bit,bits .andNot .i64 fa bit,0,st,true,gv,qq,ak⟩,0):=by simp[ansR,h4,c1,c2,c3,c4]
   simp only[hR]
   simp -implicitDefEqProofs [a52z,F52,wB,oV,hf0,es,↓zg_,↓zC_,↓zd_,e4,e1,e2,e3,e5]
   refine⟨by simp[okL],_,rfl,rfl,_,yj_ ⟨tm,qu,bits .or .i64 vo bit,bits .andNot .i64 fa bit,0,st,true,gv,qq,ak⟩ [] 0 (by simp),?_⟩
   rintro r bs2 ⟨rfl,r2,r3,rfl⟩
   exact⟨rfl,1,by omega,by simp,by simp[zT_,wB,oV],rfl,by simp[wB,oV]⟩
  .have e5:(bits .or .i64 vo bit==qu)=false:=by simpa using c4
   have hR:ansR ⟨tm,qu,vo,fa,iq,st,us,gv,qq,ak⟩ bit kind=(0,⟨tm,qu,bits .or .i64 vo bit,bits .andNot .i64 fa bit,iq,st,us,gv,qq,ak⟩,0):=by simp[ansR,h4,c1,c2,c3,c4]
   simp only[hR]
   simp -implicitDefEqProofs [a52z,F52,wB,oV,hf0,es,↓zg_,↓zC_,↓zd_,e4,e1,e2,e3,e5]
   refine⟨by simp[okL],_,rfl,rfl,_,yj_ ⟨tm,qu,bits .or .i64 vo bit,bits .andNot .i64 fa bit,iq,st,us,gv,qq,ak⟩ [] 0 (by simp),?_⟩
   rintro r bs2 ⟨rfl,r2,r3,rfl⟩
   exact⟨rfl,1,by omega,by simp,by simp[zT_,wB,oV],rfl,by simp[wB,oV]⟩
def Vt.sg(m:Vt):Sg:=⟨m.st,m.ss⟩
noncomputable def zB_(n:Int)(q:List Int)(site from':Int)(m:Vt)(b:Bl):V :=
 if bOk n q site b=false then errR 2 else if vtr n from'=false then errR 1
 else if m.k=1 then
  if prp n m.sg=false\/m.ss≠from' then errR 1 else if askE b m.sg then errR 11 else okR (askS b m.sg) (askM b m.sg)
 else if m.k<1\/6<m.k\/m.st≠0\/m.ss≠0 then errR 1
 else if m.k=5\/m.k=6 then
  if wi_ b from' then errR 14 else okR (yi_ b (m.k==5)).next (w0_ (yi_ b (m.k==5)).queue)
 else if (ansR b ((2^from'.toNat:Nat):Int) m.k).1≠0 then errR (ansR b ((2^from'.toNat:Nat):Int) m.k).1
 else okR ((ansR b ((2^from'.toNat:Nat):Int) m.k).2.1.gave (ansR b ((2^from'.toNat:Nat):Int) m.k).2.2) (yldO (mbU (ansR b ((2^from'.toNat:Nat):Int) m.k).2.2 9))
theorem mt_(n:Int)(q:List Int)(site from':Int)(m:Vt)(b:Bl):okV (zB_ n q site from' m b)=true/\immT (zB_ n q site from' m b)=true:=by
 unfold zB_
 repeat' split
 all_goals exact⟨rfl,rfl⟩
set_option maxHeartbeats 32000000 in
set_option maxRecDepth 100000 in
theorem ry_(b:Bl)(n:Int)(q:List Int)(site from':Int)(m:Vt)(hq:q.length<=1000)(hg:b.given.length<=1000)(hqq:b.queue.length<=1000):PC Try.prog 23 [b.v,cP n q,.s (.int .i64 site),.s (.int .i64 from'),m.v] (fun r=>r=zB_ n q site from' m b):=by
 have hb:b.sm:=⟨by omega,by omega⟩
 have k1:=xe_ b n q site hq hb
 have k2:=wZ_ n q from'
 have k5:=s2_ n q m.sg
 have k3:=tq_ b hb
 refine xL_ (q:=fun r=>frT r (zB_ n q site from' m b)) ?_ fun x hx _=>⟨_,hx,(mt_ n q site from' m b).1,rfl⟩
 refine zH_ c23b zD_ rfl ?_
 simp -implicitDefEqProofs [a23b,F23,Bl.v,Bl.cs,cP,Vt.v]
 refine z5_ ?_
 simp -implicitDefEqProofs
 refine zu_ k1 (by simp[Bl.v,Bl.cs,cP]) (by simp[Bl.v,Bl.cs,cP]) ?_
 rintro _ rfl
 cases h1:bOk n q site b
 case' false =>
  try simp -implicitDefEqProofs
  refine z5_ ?_
  simp -implicitDefEqProofs
  refine zu_ (zZ_ 2) (by simp) (by simp) ?_
  rintro _ rfl
  have hR:zB_ n q site from' m b=errR 2:=by unfold zB_;simp[h1]
  simp -implicitDefEqProofs [hR,errR,noB,Bl.v,Bl.cs,frT,frAs,frA,frLs,frL,immC]
 have h9:n<=9:=by
  unfold bOk at h1
  simp only[zzg_]at h1
  exact(ol_.1 h1.1.1.1.1.1).n1.2
 simp -implicitDefEqProofs
 refine z5_ ?_
 simp -implicitDefEqProofs
 refine zu_ k2 (by simp[cP]) (by simp[cP]) ?_
 rintro _ rfl
 cases h2:vtr n from'
 case' false =>
  try simp -implicitDefEqProofs
  refine z5_ ?_
  simp -implicitDefEqProofs
  refine zu_ (zZ_ 1) (by simp) (by simp) ?_
  rintro _ rfl
  have hR:zB_ n q site from' m b=errR 1:=by unfold zB_;simp[h1,h2]
  simp -implicitDefEqProofs [hR,errR,noB,Bl.v,Bl.cs,frT,frAs,frA,frLs,frL,immC]
 have hfr:0<=from'/\from'<n:=by simpa[vtr] using h2
 obtain⟨f,rfl⟩:∃f:Nat,from'=f:=⟨from'.toNat,by omega⟩
 have hf9:f<=9:=by omega
 have hK:∀a b c d,(⟨a,b,c,d⟩:Vt).v=.agg [.s (.int .i64 a),.s (.int .i64 b),.s (.int .i64 c),.s (.int .i64 d)]:=fun _ _ _ _=>rfl
 by_cases hk:m.k=1
 case pos =>
  have ek:(m.k==1)=true:=by simpa using hk
  simp -implicitDefEqProofs [ek]
  refine z5_ ?_
  simp -implicitDefEqProofs
  refine zu_ k5 (by simp[cP,Sg.v,Vt.sg]) (by simp[cP,Sg.v,Vt.sg]) ?_
  rintro _ rfl
  cases h3:prp n m.sg
  case' false =>
   try simp -implicitDefEqProofs
   refine z5_ ?_
   simp -implicitDefEqProofs
   refine zu_ (zZ_ 1) (by simp) (by simp) ?_
   rintro _ rfl
   have hR:zB_ n q site (f:Int) m b=errR 1:=by unfold zB_;simp[h1,h2,hk,h3]
   simp -implicitDefEqProofs [hR,errR,noB,Bl.v,Bl.cs,frT,frAs,frA,frLs,frL,immC]
  by_cases h4:m.ss=f
  case neg =>
   have e4:(m.ss != (f:Int))=true:=by simpa using h4
   simp -implicitDefEqProofs [e4]
   try simp -implicitDefEqProofs
   refine z5_ ?_
   simp -implicitDefEqProofs
   refine zu_ (zZ_ 1) (by simp) (by simp) ?_
   rintro _ rfl
   have hR:zB_ n q site (f:Int) m b=errR 1:=by unfold zB_;simp[h1,h2,hk,h3,h4]
   simp -implicitDefEqProofs [hR,errR,noB,Bl.v,Bl.cs,frT,frAs,frA,frLs,frL,immC]
  have e4:(m.ss != (f:Int))=false:=by simpa using h4
  simp -implicitDefEqProofs [e4]
  try simp -implicitDefEqProofs
  refine zs_ ?_
  simp -implicitDefEqProofs
  refine ya_ (mask:=[]) (sel:=[]) k3 ⟨by simp[ren,renA,renL,fzs,Bl.v,Bl.cs],rfl,rfl,rfl,rfl,rfl,rfl⟩ ?_
  rintro _ _ ⟨rfl,rfl⟩
  simp -implicitDefEqProofs [aftS,zt_,wB,xu_,Bl.cs,ek]
  refine zs_ ?_
  simp -implicitDefEqProofs
  refine ya_ (mask:=[]) (sel:=[5]) (iK_ b m.sg hg hqq) ⟨by simp[ren,renA,renL,fzs,Sg.v,Vt.sg],rfl,rfl,rfl,rfl,rfl,rfl⟩ ?_
  rintro r bs hrb
  cases hE:askE b m.sg
  case' true =>
   simp only[hE,if_true]at hrb
   obtain⟨rfl,rfl⟩:=hrb
   simp -implicitDefEqProofs [aftS,zt_,wB,oV]
   try simp -implicitDefEqProofs
   refine z5_ ?_
   simp -implicitDefEqProofs
   refine zu_ (zZ_ 11) (by simp) (by simp) ?_
   rintro _ rfl
   have hR:zB_ n q site (f:Int) m b=errR 11:=by unfold zB_;simp[h1,h2,hk,h3,h4,hE]
   simp -implicitDefEqProofs [hR,errR,noB,Bl.v,Bl.cs,frT,frAs,frA,frLs,frL,immC]
  simp only[hE,yyi_,if_false]at hrb
  obtain⟨rfl,G,hG,rfl⟩:=hrb
  rcases hG with rfl|rfl|⟨hn,rfl⟩
  .simp -implicitDefEqProofs [aftS,zt_,wG,oV]
   have hR:zB_ n q site (f:Int) m b=okR (askS b m.sg) (askM b m.sg):=by unfold zB_;simp[h1,h2,hk,h3,h4,hE]
   refine zW_ 7 8 (by kernel_rfl) ?_ ?_
   .refine zv_ [0,1,2,3,4,5,6,7,8,9,10] ⟨[],[4,5,6],[],[]⟩ (by kernel_rfl) (by kernel_rfl) ?_
    simp -implicitDefEqProofs [yg_,hR,okR,Bl.v,Bl.cs,frT,frAs,frA,frLs,frL,immC]
   .refine zv_ [0,1,2,3,4,5,6,8,7,9,10] ⟨[],[4,5,6],[],[]⟩ (by kernel_rfl) (by kernel_rfl) ?_
    simp -implicitDefEqProofs [yg_,hR,okR,Bl.v,Bl.cs,frT,frAs,frA,frLs,frL,immC]
  .simp -implicitDefEqProofs [aftS,zt_,wG,oV]
   have hR:zB_ n q site (f:Int) m b=okR (askS b m.sg) (askM b m.sg):=by unfold zB_;simp[h1,h2,hk,h3,h4,hE]
   refine zW_ 7 8 (by kernel_rfl) ?_ ?_
   .refine zv_ [0,1,2,3,4,5,6,7,8,9,10] ⟨[],[4,5,6],[],[]⟩ (by kernel_rfl) (by kernel_rfl) ?_
    simp -implicitDefEqProofs [yg_,hR,okR,Bl.v,Bl.cs,frT,frAs,frA,frLs,frL,immC]
   .refine zv_ [0,1,2,3,4,5,6,8,7,9,10] ⟨[],[4,5,6],[],[]⟩ (by kernel_rfl) (by kernel_rfl) ?_
    simp -implicitDefEqProofs [yg_,hR,okR,Bl.v,Bl.cs,frT,frAs,frA,frLs,frL,immC]
  .simp -implicitDefEqProofs [aftS,zt_,wG,oV]
   have hR:zB_ n q site (f:Int) m b=okR (askS b m.sg) (askM b m.sg):=by unfold zB_;simp[h1,h2,hk,h3,h4,hE]
   refine zW_ 7 8 (by kernel_rfl) ?_ ?_
   .refine zv_ [0,1,2,3,4,5,6,7,8,9,10] ⟨[],[4,5,6],[],[]⟩ (by kernel_rfl) (by kernel_rfl) ?_
    simp -implicitDefEqProofs [yg_,hR,okR,Bl.v,Bl.cs,frT,frAs,frA,frLs,frL,immC,hn]
   .refine zv_ [0,1,2,3,4,5,6,8,7,9,10] ⟨[],[4,5,6],[],[]⟩ (by kernel_rfl) (by kernel_rfl) ?_
    simp -implicitDefEqProofs [yg_,hR,okR,Bl.v,Bl.cs,frT,frAs,frA,frLs,frL,immC,hn]
 have ek:(m.k==1)=false:=by simpa using hk
 by_cases c1:m.k<1
 case pos =>
  simp -implicitDefEqProofs [ek,c1]
  try simp -implicitDefEqProofs
  refine z5_ ?_
  simp -implicitDefEqProofs
  refine zu_ (zZ_ 1) (by simp) (by simp) ?_
  rintro _ rfl
  have hR:zB_ n q site (f:Int) m b=errR 1:=by unfold zB_;simp[h1,h2,hk,c1]
  simp -implicitDefEqProofs [hR,errR,noB,Bl.v,Bl.cs,frT,frAs,frA,frLs,frL,immC]
 by_cases c2:6<m.k
 case pos =>
  simp -implicitDefEqProofs [ek,c1,c2]
  try simp -implicitDefEqProofs
  refine z5_ ?_
  simp -implicitDefEqProofs
  refine zu_ (zZ_ 1) (by simp) (by simp) ?_
  rintro _ rfl
  have hR:zB_ n q site (f:Int) m b=errR 1:=by unfold zB_;simp[h1,h2,hk,c1,c2]
  simp -implicitDefEqProofs [hR,errR,noB,Bl.v,Bl.cs,frT,frAs,frA,frLs,frL,immC]
 by_cases c3:m.st=0
 case neg =>
  have e3:(m.st==0)=false:=by simpa using c3
  simp -implicitDefEqProofs [ek,c1,c2,e3]
  try simp -implicitDefEqProofs
  refine z5_ ?_
  simp -implicitDefEqProofs
  refine zu_ (zZ_ 1) (by simp) (by simp) ?_
  rintro _ rfl
  have hR:zB_ n q site (f:Int) m b=errR 1:=by unfold zB_;simp[h1,h2,hk,c1,c2,c3]
  simp -implicitDefEqProofs [hR,errR,noB,Bl.v,Bl.cs,frT,frAs,frA,frLs,frL,immC]
 have e3:(m.st==0)=true:=by simpa using c3
 by_cases c4:m.ss=0
 case neg =>
  have e4:(m.ss==0)=false:=by simpa using c4
  simp -implicitDefEqProofs [ek,c1,c2,e3,e4]
  try simp -implicitDefEqProofs
  refine z5_ ?_
  simp -implicitDefEqProofs
  refine zu_ (zZ_ 1) (by simp) (by simp) ?_
  rintro _ rfl
  have hR:zB_ n q site (f:Int) m b=errR 1:=by unfold zB_;simp[h1,h2,hk,c1,c2,c3,c4]
  simp -implicitDefEqProofs [hR,errR,noB,Bl.v,Bl.cs,frT,frAs,frA,frLs,frL,immC]
 have e4:(m.ss==0)=true:=by simpa using c4
 simp -implicitDefEqProofs [ek,c1,c2,e3,e4]
 try simp -implicitDefEqProofs
 refine zs_ ?_
 simp -implicitDefEqProofs
 refine ya_ (mask:=[]) (sel:=[]) k3 ⟨by simp[ren,renA,renL,fzs,Bl.v,Bl.cs],rfl,rfl,rfl,rfl,rfl,rfl⟩ ?_
 rintro _ _ ⟨rfl,rfl⟩
 by_cases c5:m.k=5
 case pos =>
  have e5:(m.k==5)=true:=by simpa using c5
  simp -implicitDefEqProofs [aftS,zt_,wB,xu_,Bl.cs,ek,e5]
  refine zs_ ?_
  simp -implicitDefEqProofs
  refine ya_ (mask:=[]) (sel:=[5]) (nm_ b (f:Int) true hg hqq) ⟨by simp[ren,renA,renL,fzs],rfl,rfl,rfl,rfl,rfl,rfl⟩ ?_
  rintro r bs hrb
  cases hE:wi_ b f
  case' true =>
   simp only[hE,if_true]at hrb
   obtain⟨rfl,rfl⟩:=hrb
   simp -implicitDefEqProofs [aftS,zt_,wB,oV]
   try simp -implicitDefEqProofs
   refine z5_ ?_
   simp -implicitDefEqProofs
   refine zu_ (zZ_ 14) (by simp) (by simp) ?_
   rintro _ rfl
   have hR:zB_ n q site (f:Int) m b=errR 14:=by unfold zB_;simp[h1,h2,hk,c1,c2,c3,c4,c5,hE]
   simp -implicitDefEqProofs [hR,errR,noB,Bl.v,Bl.cs,frT,frAs,frA,frLs,frL,immC]
  simp only[hE,yyi_,if_false]at hrb
  obtain⟨rfl,G,hG,rfl⟩:=hrb
  rcases hG with rfl|rfl|⟨hn,rfl⟩
  .simp -implicitDefEqProofs [aftS,zt_,wG,oV]
   have hR:zB_ n q site (f:Int) m b=okR (yi_ b true).next (w0_ (yi_ b true).queue):=by unfold zB_;simp[h1,h2,hk,c1,c2,c3,c4,c5,hE]
   refine zW_ 7 8 (by kernel_rfl) ?_ ?_
   .refine zv_ [0,1,2,3,4,5,6,7,8,9,10] ⟨[],[4,5,6],[],[]⟩ (by kernel_rfl) (by kernel_rfl) ?_
    simp -implicitDefEqProofs [yg_,hR,okR,Bl.v,Bl.cs,frT,frAs,frA,frLs,frL,immC]
   .refine zv_ [0,1,2,3,4,5,6,8,7,9,10] ⟨[],[4,5,6],[],[]⟩ (by kernel_rfl) (by kernel_rfl) ?_
    simp -implicitDefEqProofs [yg_,hR,okR,Bl.v,Bl.cs,frT,frAs,frA,frLs,frL,immC]
  .simp -implicitDefEqProofs [aftS,zt_,wG,oV]
   have hR:zB_ n q site (f:Int) m b=okR (yi_ b true).next (w0_ (yi_ b true).queue):=by unfold zB_;simp[h1,h2,hk,c1,c2,c3,c4,c5,hE]
   refine zW_ 7 8 (by kernel_rfl) ?_ ?_
   .refine zv_ [0,1,2,3,4,5,6,7,8,9,10] ⟨[],[4,5,6],[],[]⟩ (by kernel_rfl) (by kernel_rfl) ?_
    simp -implicitDefEqProofs [yg_,hR,okR,Bl.v,Bl.cs,frT,frAs,frA,frLs,frL,immC]
   .refine zv_ [0,1,2,3,4,5,6,8,7,9,10] ⟨[],[4,5,6],[],[]⟩ (by kernel_rfl) (by kernel_rfl) ?_
    simp -implicitDefEqProofs [yg_,hR,okR,Bl.v,Bl.cs,frT,frAs,frA,frLs,frL,immC]
  .simp -implicitDefEqProofs [aftS,zt_,wG,oV]
   have hR:zB_ n q site (f:Int) m b=okR (yi_ b true).next (w0_ (yi_ b true).queue):=by unfold zB_;simp[h1,h2,hk,c1,c2,c3,c4,c5,hE]
   refine zW_ 7 8 (by kernel_rfl) ?_ ?_
   .refine zv_ [0,1,2,3,4,5,6,7,8,9,10] ⟨[],[4,5,6],[],[]⟩ (by kernel_rfl) (by kernel_rfl) ?_
    simp -implicitDefEqProofs [yg_,hR,okR,Bl.v,Bl.cs,frT,frAs,frA,frLs,frL,immC,hn]
   .refine zv_ [0,1,2,3,4,5,6,8,7,9,10] ⟨[],[4,5,6],[],[]⟩ (by kernel_rfl) (by kernel_rfl) ?_
    simp -implicitDefEqProofs [yg_,hR,okR,Bl.v,Bl.cs,frT,frAs,frA,frLs,frL,immC,hn]
 have e5:(m.k==5)=false:=by simpa using c5
 by_cases c6:m.k=6
 case pos =>
  have e6:(m.k==6)=true:=by simpa using c6
  simp -implicitDefEqProofs [aftS,zt_,wB,xu_,Bl.cs,ek,e5,e6]
  refine zs_ ?_
  simp -implicitDefEqProofs
  refine ya_ (mask:=[]) (sel:=[5]) (nm_ b (f:Int) false hg hqq) ⟨by simp[ren,renA,renL,fzs],rfl,rfl,rfl,rfl,rfl,rfl⟩ ?_
  rintro r bs hrb
  cases hE:wi_ b f
  case' true =>
   simp only[hE,if_true]at hrb
   obtain⟨rfl,rfl⟩:=hrb
   simp -implicitDefEqProofs [aftS,zt_,wB,oV]
   try simp -implicitDefEqProofs
   refine z5_ ?_
   simp -implicitDefEqProofs
   refine zu_ (zZ_ 14) (by simp) (by simp) ?_
   rintro _ rfl
   have hR:zB_ n q site (f:Int) m b=errR 14:=by unfold zB_;simp[h1,h2,hk,c1,c2,c3,c4,c6,hE]
   simp -implicitDefEqProofs [hR,errR,noB,Bl.v,Bl.cs,frT,frAs,frA,frLs,frL,immC]
  simp only[hE,yyi_,if_false]at hrb
  obtain⟨rfl,G,hG,rfl⟩:=hrb
  rcases hG with rfl|rfl|⟨hn,rfl⟩
  .simp -implicitDefEqProofs [aftS,zt_,wG,oV]
   have hR:zB_ n q site (f:Int) m b=okR (yi_ b false).next (w0_ (yi_ b false).queue):=by unfold zB_;simp[h1,h2,hk,c1,c2,c3,c4,c6,hE]
   refine zW_ 7 8 (by kernel_rfl) ?_ ?_
   .refine zv_ [0,1,2,3,4,5,6,7,8,9,10] ⟨[],[4,5,6],[],[]⟩ (by kernel_rfl) (by kernel_rfl) ?_
    simp -implicitDefEqProofs [yg_,hR,okR,Bl.v,Bl.cs,frT,frAs,frA,frLs,frL,immC]
   .refine zv_ [0,1,2,3,4,5,6,8,7,9,10] ⟨[],[4,5,6],[],[]⟩ (by kernel_rfl) (by kernel_rfl) ?_
    simp -implicitDefEqProofs [yg_,hR,okR,Bl.v,Bl.cs,frT,frAs,frA,frLs,frL,immC]
  .simp -implicitDefEqProofs [aftS,zt_,wG,oV]
   have hR:zB_ n q site (f:Int) m b=okR (yi_ b false).next (w0_ (yi_ b false).queue):=by unfold zB_;simp[h1,h2,hk,c1,c2,c3,c4,c6,hE]
   refine zW_ 7 8 (by kernel_rfl) ?_ ?_
   .refine zv_ [0,1,2,3,4,5,6,7,8,9,10] ⟨[],[4,5,6],[],[]⟩ (by kernel_rfl) (by kernel_rfl) ?_
    simp -implicitDefEqProofs [yg_,hR,okR,Bl.v,Bl.cs,frT,frAs,frA,frLs,frL,immC]
   .refine zv_ [0,1,2,3,4,5,6,8,7,9,10] ⟨[],[4,5,6],[],[]⟩ (by kernel_rfl) (by kernel_rfl) ?_
    simp -implicitDefEqProofs [yg_,hR,okR,Bl.v,Bl.cs,frT,frAs,frA,frLs,frL,immC]
  .simp -implicitDefEqProofs [aftS,zt_,wG,oV]
   have hR:zB_ n q site (f:Int) m b=okR (yi_ b false).next (w0_ (yi_ b false).queue):=by unfold zB_;simp[h1,h2,hk,c1,c2,c3,c4,c6,hE]
   refine zW_ 7 8 (by kernel_rfl) ?_ ?_
   .refine zv_ [0,1,2,3,4,5,6,7,8,9,10] ⟨[],[4,5,6],[],[]⟩ (by kernel_rfl) (by kernel_rfl) ?_
    simp -implicitDefEqProofs [yg_,hR,okR,Bl.v,Bl.cs,frT,frAs,frA,frLs,frL,immC,hn]
   .refine zv_ [0,1,2,3,4,5,6,8,7,9,10] ⟨[],[4,5,6],[],[]⟩ (by kernel_rfl) (by kernel_rfl) ?_
    simp -implicitDefEqProofs [yg_,hR,okR,Bl.v,Bl.cs,frT,frAs,frA,frLs,frL,immC,hn]
 have e6:(m.k==6)=false:=by simpa using c6
 simp -implicitDefEqProofs [aftS,zt_,wB,xu_,Bl.cs,ek,e5,e6]
 refine zs_ ?_
 simp -implicitDefEqProofs
 refine ya_ (mask:=[]) (sel:=[5]) (nt_ b f m.k hf9) ⟨by simp[ren,renA,renL,fzs],rfl,rfl,rfl,rfl,rfl,rfl⟩ ?_
 rintro r bs hrb
 obtain⟨rfl,rfl⟩:=hrb
 have hft:(f:Int).toNat=f:=by simp
 by_cases hA:(ansR b ((2^f:Nat):Int) m.k).1=0
 case neg =>
  have eA:((ansR b ((2^f:Nat):Int) m.k).1 != 0)=true:=by simpa using hA
  have hR:zB_ n q site (f:Int) m b=errR (ansR b ((2^f:Nat):Int) m.k).1:=by
   unfold zB_
   rw[hft,if_neg (by simp[h1]),if_neg (by simp[h2]),if_neg hk,if_neg (by omega),if_neg (by omega),if_pos hA]
  generalize hans:ansR b ((2^f:Nat):Int) m.k=an at *
  simp -implicitDefEqProofs [aftS,zt_,wB,oV,eA]
  refine z5_ ?_
  simp -implicitDefEqProofs
  refine zu_ (zZ_ an.1) (by simp) (by simp) ?_
  rintro _ rfl
  simp -implicitDefEqProofs [hR,errR,noB,Bl.v,Bl.cs,frT,frAs,frA,frLs,frL,immC]
 have hR:zB_ n q site (f:Int) m b=okR ((ansR b ((2^f:Nat):Int) m.k).2.1.gave (ansR b ((2^f:Nat):Int) m.k).2.2) (yldO (mbU (ansR b ((2^f:Nat):Int) m.k).2.2 9)):=by
  unfold zB_
  rw[hft,if_neg (by simp[h1]),if_neg (by simp[h2]),if_neg hk,if_neg (by omega),if_neg (by omega),if_neg (by simpa using hA)]
 generalize hans:ansR b ((2^f:Nat):Int) m.k=an at *
 simp -implicitDefEqProofs [aftS,zt_,wB,oV,hA]
 refine zW_ 7 8 (by kernel_rfl) ?_ ?_
 .refine zv_ [0,1,2,3,4,5,6,7,8,9,10] ⟨[],[4,5,6],[],[]⟩ (by kernel_rfl) (by kernel_rfl) ?_
  simp -implicitDefEqProofs [yg_,hR,okR,Bl.v,Bl.cs,frT,frAs,frA,frLs,frL,immC]
 .refine zv_ [0,1,2,3,4,5,6,8,7,9,10] ⟨[],[4,5,6],[],[]⟩ (by kernel_rfl) (by kernel_rfl) ?_
  simp -implicitDefEqProofs [yg_,hR,okR,Bl.v,Bl.cs,frT,frAs,frA,frLs,frL,immC]
theorem xw_:xJ_ (2*3) (grid 2 3)=true/\(grid 2 3).length<=64:=by decide +kernel
theorem lm_:grE (2:Nat) (3:Nat)=0/\grQ (2:Nat) (3:Nat)=zG_ (2*3) (grid 2 3):=by
 obtain⟨h1,h2⟩:=xw_
 unfold grE grQ
 rw[if_pos ⟨by omega,by omega,by omega⟩,yys_,yys_,<-Int.natCast_mul]
 exact⟨r2_ (by omega) h1 (by omega),r0_ _ _⟩
theorem nZ_:PC Try.prog 58 [.s (.int .i64 2),.s (.int .i64 3)] (fun q=>q=.tup [cP ((2*3:Nat):Int) (zi (zG_ (2*3) (grid 2 3))),.s (.int .i64 0)]):=by
 have:=rX_ (2:Nat) (3:Nat)
 rw[lm_.1,lm_.2,<-Int.natCast_mul]at this
 exact this
theorem kI_:Md (2*3) (zG_ (2*3) (grid 2 3)):=r1_ (by omega) xw_.1 xw_.2
def nx(xs:List Int)(k:Nat)(m:Int):Int:=if h:k<xs.length then xs[k]%m else 0
def nat1(xs:List Int)(k:Nat):Nat:=if k<xs.length then k+1 else k
theorem hk_(xs:List Int)(k:Nat){m:Int}(h:0<m):0<=nx xs k m/\nx xs k m<m:=by
 unfold nx
 split
 .exact⟨Int.emod_nonneg _ (by omega),Int.emod_lt_of_pos _ h⟩
 .exact⟨Int.le_refl _,h⟩
theorem or_{xs:List Int}{k:Nat}(h:k<=xs.length):nat1 xs k<=xs.length/\k<=nat1 xs k:=by unfold nat1;split<;>omega
section
theorem wq_{P:Program}{f:Nat}{args:List V}{q:V->Prop}(h:PC P f args q){g:Gh}{w:World}{vals:Array Value}(hl:args.length=vals.size)(hi:∀x∈args,immA x=true)
 (hr:∀(i:Nat) (x:V) (v:Value),args[i]?=some x->vals[i]?=some v->Rep g w x v) (hlt:∀k,0<g.I k->k<w.heap.size) :
 Calls P f vals w fun e w'=>∃v r g',e=.returned v/\q r/\Rep g' w' r v/\Below w.heap.size w w'/\(∀k,k<w.heap.size->g'.I k=g.I k)/\∀k,0<g'.I k->k<w'.heap.size:=by
 obtain⟨hb,ho⟩:=uR_ (g:=g) (w:=w) hl hi hr hlt
 refine(h g w vals hb).mono ?_
 rintro e w' ⟨v,r,bs',g',rfl,⟨rfl,hq⟩,hok,hbd,hx⟩
 have hv:z3_ (Frn 1) g' w' ⟨#[v],[]⟩ (.var 0)=some v:=by simp[z3_,Frn,Act.tv]
 exact⟨v,r,g',rfl,hq,hbd.rep (.l (.var 0)) r v ⟨rfl,hv⟩,⟨hx.os,hx.tape,hx.output,hx.size,fun k hk=>(hx.same k hk (ho k)).1⟩,fun k hk=>(hx.same k hk (ho k)).2,hbd.Ilt⟩
def fv(l:List Vt):List Value:=l.flatMap fun m=>[.int .i64 m.k,.int .i64 m.to,.int .i64 m.st,.int .i64 m.ss]
theorem lp_(l:List Vt):(fv l).length=l.length*4:=by
 induction l with
 |nil=>rfl
 |cons x r ih=>simp only[fv,List.flatMap_cons,zzr_,List.length_cons,List.length_nil]at ih ⊢;omega
theorem sn_(a b:List Vt):fv (a++b)=fv a++fv b:=by simp[fv]
theorem is_(l:List Vt):∀v∈fv l,v.oneCell'=true:=by
 intro v hv
 simp only[fv,List.mem_flatMap]at hv
 obtain⟨s,_,h⟩:=hv
 simp at h
 rcases h with rfl|rfl|rfl|rfl<;>rfl
theorem it_:∀(l:List Vt) (i:Nat) (h:i<l.length),(fv l)[i*4]?=some (.int .i64 l[i].k)/\(fv l)[i*4+1]?=some (.int .i64 l[i].to)/\(fv l)[i*4+2]?=some (.int .i64 l[i].st)/\(fv l)[i*4+3]?=some (.int .i64 l[i].ss):=by
 intro l
 induction l with
 |nil=>intro i h;simp at h
 | cons x r ih =>
   intro i h
   cases i with
   |zero=>exact⟨rfl,rfl,rfl,rfl⟩
   | succ i =>
     have:=ih i (by simpa using h)
     simp only[fv,List.flatMap_cons,yyn_,Nat.one_mul]at this ⊢
     rw[show i*4+4=(i*4)+1+1+1+1 by omega]
     simpa using this
def MBx(w:World)(v:Value)(l:List Vt):Prop:=(l=[]/\∃A,v=.slice A 0 0) \/
 ∃k off cap cur,v=.slice (some ⟨k,off,none⟩) l.length cap/\0<cap/\l.length<=cap/\cap<=maxLen/\w.heap[k]?=some (.cells cur 46 (0,0))/\off+cap*4<=cur.size/\∀(p:Nat) (u:Value),(fv l)[p]?=some u->cur[off+p]?=some u
structure Hd where
 bk:Nat
 bc:Nat
 mb:Nat
 mc:Nat
 qv:Value
 rk:Nat->Nat
 rc:Nat->Nat
 mv:Nat->Nat->Value
structure Tag(X n:Nat)(h:Hd)(T:Nat->Nat):Prop where
 x:T X=1
 b:T h.bk=2
 m:T h.mb=3
 r:∀i,i<n->T (h.rk i)=4+i
 v:∀i j k,i<n->j<n->rb (h.mv i j)=some k->T k=100+16*i+j
structure Net(T:Nat->Nat)(g:Gh)(w:World)(X n:Nat)(q:List Int)(B:Nat->Bl)(M:Nat->Nat->List Vt)(h:Hd):Prop where
 n9:n<=9
 Ilt:∀k,0<g.I k->k<w.heap.size
 tag:Tag X n h T
 tz:∀k,T k≠0->k<w.heap.size/\g.I k=0
 hX:w.heap[X]?=some (.cells #[.int .i64 n,h.qv,.slice (some ⟨h.bk,0,none⟩) n h.bc,.slice (some ⟨h.mb,0,none⟩) n h.mc] 33 (0,0))
 hq:Rep g w (.list 1 (iv q)) h.qv
 bcn:n<=h.bc/\h.bc<=maxLen
 mcn:n<=h.mc/\h.mc<=maxLen
 rcn:∀i,i<n->n<=h.rc i/\h.rc i<=maxLen
 bb:∃cur,w.heap[h.bk]?=some (.cells cur 39 (0,0))/\cur.size=h.bc*11/\∀i,i<n->∀(j:Nat) (u:V),(B i).cs[j]?=some u->∃c,cur[i*11+j]?=some c/\c.oneCell'=true/\Rep g w u c
 mm:∃cur,w.heap[h.mb]?=some (.cells cur 42 (0,0))/\∀i,i<n->cur[i]?=some (.slice (some ⟨h.rk i,0,none⟩) n (h.rc i))
 rr:∀i,i<n->∃cur,w.heap[h.rk i]?=some (.cells cur 41 (0,0))/\∀j,j<n->cur[j]?=some (h.mv i j)
 vv:∀i j,i<n->j<n->MBx w (h.mv i j) (M i j)
section
variable{T:Nat->Nat}{g g':Gh}{w w':World}{X n:Nat}{q:List Int}{B:Nat->Bl}{M:Nat->Nat->List Vt}{h:Hd}
theorem wG_(b:Bl):∀u∈b.cs,immC u=true:=by
 intro u hu
 simp only[Bl.cs,List.mem_cons,List.not_mem_nil,or_false]at hu
 rcases hu with rfl|rfl|rfl|rfl|rfl|rfl|rfl|rfl|rfl|rfl|rfl<;>rfl
theorem zr_{u:V}{v:Value}(h:Rep g w u v)(hi:immC u=true)(hI:∀b o,o<g.I b->o<g'.I b/\w'.cell? ⟨b,o,none⟩=w.cell? ⟨b,o,none⟩):Rep g' w' u v:=by
 refine h.keep hI (fun p k ⟨e,z,xs,_,q1,_⟩=>?_) fun p b o hs=>?_
 .obtain⟨_,q⟩:=xv_ hi q1
  subst q
  simp[immC]at hi
 .obtain⟨_,q⟩:=xv_ hi hs
  subst q
  simp[immC]at hi
theorem MBx.keep{v:Value}{l:List Vt}(hm:MBx w v l)(hk:∀k,rb v=some k->w'.heap[k]?=w.heap[k]?):MBx w' v l:=by
 rcases hm with hm|⟨k,off,cap,cur,rfl,h1,h2,h3,h4,h5⟩
 .exact .inl hm
 .exact .inr ⟨k,off,cap,cur,rfl,h1,h2,h3,(hk k (by simp[rb];omega)).trans h4,h5⟩
theorem Net.vt(hn:Net T g w X n q B M h){i j k:Nat}(hi:i<n)(hj:j<n)(hk:rb (h.mv i j)=some k):k<w.heap.size/\g.I k=0:=hn.tz k (by rw[hn.tag.v i j k hi hj hk];omega)
theorem Net.grow(hn:Net T g w X n q B M h)(hs:w.heap.size<=w'.heap.size)(hb:∀k,k<w.heap.size->w'.heap[k]?=w.heap[k]?)(hg:∀k,k<w.heap.size->g'.I k=g.I k)(hlt:∀k,0<g'.I k->k<w'.heap.size):Net T g' w' X n q B M h:=by
 have hI:∀b o,o<g.I b->o<g'.I b/\w'.cell? ⟨b,o,none⟩=w.cell? ⟨b,o,none⟩:=fun b o ho=>by
  have hl:=hn.Ilt b (by omega)
  exact⟨by rw[hg b hl];exact ho,yyb_ (a:=⟨b,o,none⟩) (hb b hl)⟩
 have hT:∀k,T k≠0->w'.heap[k]?=w.heap[k]?:=fun k hk=>hb k (hn.tz k hk).1
 refine⟨hn.n9,hlt,hn.tag,fun k hk=>⟨zzk_ (hn.tz k hk).1 hs,by rw[hg k (hn.tz k hk).1];exact(hn.tz k hk).2⟩,(hT X (by rw[hn.tag.x];omega)).trans hn.hX,zr_ hn.hq rfl hI,hn.bcn,hn.mcn,hn.rcn,?_,?_,fun i hi=>?_,fun i j hi hj=>?_⟩
 .obtain⟨cur,h1,h2,h3⟩:=hn.bb
  refine⟨cur,(hT _ (by rw[hn.tag.b];omega)).trans h1,h2,fun i hi j u hu=>?_⟩
  obtain⟨c,q1,q2,q3⟩:=h3 i hi j u hu
  exact⟨c,q1,q2,zr_ q3 (wG_ _ u (zzd_ hu)) hI⟩
 .obtain⟨cur,h1,h2⟩:=hn.mm
  exact⟨cur,(hT _ (by rw[hn.tag.m];omega)).trans h1,h2⟩
 .obtain⟨cur,h1,h2⟩:=hn.rr i hi
  exact⟨cur,(hT _ (by rw[hn.tag.r i hi];omega)).trans h1,h2⟩
 .exact(hn.vv i j hi hj).keep fun k hk=>hb k (hn.vt hi hj hk).1
theorem Net.below(hn:Net T g w X n q B M h)(hb:Below w.heap.size w w'):Net T g w' X n q B M h:=hn.grow hb.size hb.block (fun _ _=>rfl) fun k hk=>zzk_ (hn.Ilt k hk) hb.size
end
def updB(B:Nat->Bl)(i:Nat)(b:Bl)(k:Nat):Bl:=if k=i then b else B k
section
variable{T:Nat->Nat}{g g':Gh}{w w':World}{X n:Nat}{q:List Int}{B:Nat->Bl}{M:Nat->Nat->List Vt}{h:Hd}
theorem Net.setB(hn:Net T g w X n q B M h){i:Nat}(hi:i<n){b:Bl}{vs:List Value}(hl:vs.length=11)(h1:∀v∈vs,v.oneCell'=true)(hr:∀(j:Nat) (u:V) (c:Value),b.cs[j]?=some u->vs[j]?=some c->Rep g w u c) :
 Net T g (w.setCells h.bk (i*11) vs) X n q (updB B i b) M h/\(w.setCells h.bk (i*11) vs).heap.size=w.heap.size/\∀k,k<w.heap.size->k≠h.bk->(w.setCells h.bk (i*11) vs).heap[k]?=w.heap[k]?:=by
 obtain⟨cur,c1,c2,c3⟩:=hn.bb
 have hsz:∀vs o (W:World),(W.setCells h.bk o vs).heap.size=W.heap.size:=fun vs=>by
  induction vs with
  |nil=>intro o W;rfl
  |cons v r ih=>intro o W;rw[World.setCells,ih];simp[World.setCell]
 have hoth:∀k,k<w.heap.size->k≠h.bk->(w.setCells h.bk (i*11) vs).heap[k]?=w.heap[k]?:=fun k hk hne=>zp_ hk hne
 obtain⟨cur',d1,d2,d3⟩:=zq_ vs (i*11) w h.bk cur 39 c1 (by rw[hl,c2];have:=hn.bcn;omega)
 have hbI:g.I h.bk=0:=(hn.tz _ (by rw[hn.tag.b];omega)).2
 have hI:∀b o,o<g.I b->o<g.I b/\(w.setCells h.bk (i*11) vs).cell? ⟨b,o,none⟩=w.cell? ⟨b,o,none⟩:=fun b o ho=>by
  refine⟨ho,yyb_ (a:=⟨b,o,none⟩) (hoth b (hn.Ilt b (by omega)) ?_)⟩
  rintro rfl
  omega
 have hT:∀k,T k≠0->T k≠2->(w.setCells h.bk (i*11) vs).heap[k]?=w.heap[k]?:=fun k h0 h2=>hoth k (hn.tz k h0).1 (by rintro rfl;exact h2 hn.tag.b)
 refine⟨⟨hn.n9,fun k hk=>by rw[hsz];exact hn.Ilt k hk,hn.tag,fun k hk=>by rw[hsz];exact hn.tz k hk,(hT X (by rw[hn.tag.x];omega) (by rw[hn.tag.x];omega)).trans hn.hX,zr_ hn.hq rfl hI,hn.bcn,hn.mcn,hn.rcn,?_,?_,fun i hi=>?_,fun i j hi hj=>?_⟩,hsz _ _ _,hoth⟩
 .refine⟨cur',d1,d2.trans c2,fun i' hi' j u hu=>?_⟩
  have hj:j<11:=by
   have:=(zzc_.1 hu).1
   simpa[Bl.cs] using this
  have hcl:cur.toList.length=h.bc*11:=by simpa using c2
  have hbc:=hn.bcn
  by_cases he:i'=i
  .subst he
   simp only[updB,if_pos]at hu
   have hv:vs[j]?=some (vs[j]'(by omega)):=zzf_ _
   refine⟨vs[j]'(by omega),?_,h1 _ (yyp_ _),zr_ (hr j u _ hu hv) (wG_ _ u (zzd_ hu)) hI⟩
   rw[<-Array.getElem?_toList,d3,zzq_,zzv_ (by simp;omega),zzo_ (by simp;omega)]
   rw[show i'*11+j-(cur.toList.take (i'*11)).length=j by rw[List.length_take];omega]
   exact hv
  .simp only[updB,if_neg he]at hu
   obtain⟨c,q1,q2,q3⟩:=c3 i' hi' j u hu
   refine⟨c,?_,q2,zr_ q3 (wG_ _ u (zzd_ hu)) hI⟩
   rw[<-Array.getElem?_toList]at q1 ⊢
   rw[d3]
   rcases Nat.lt_or_gt_of_ne he with hlt|hgt
   .rw[zzq_,zzo_ (by simp;omega),zzu_,if_pos (by omega)]
    exact q1
   .rw[zzv_ (by simp;omega),zzA_]
    rw[show i*11+vs.length+(i'*11+j-(cur.toList.take (i*11)++vs).length)=i'*11+j by simp;omega]
    exact q1
 .obtain⟨cur,h1,h2⟩:=hn.mm
  exact⟨cur,(hT _ (by rw[hn.tag.m];omega) (by rw[hn.tag.m];omega)).trans h1,h2⟩
 .obtain⟨cur,h1,h2⟩:=hn.rr i hi
  exact⟨cur,(hT _ (by rw[hn.tag.r i hi];omega) (by rw[hn.tag.r i hi];omega)).trans h1,h2⟩
 .exact(hn.vv i j hi hj).keep fun k hk=>hT k (by rw[hn.tag.v i j k hi hj hk];omega) (by rw[hn.tag.v i j k hi hj hk];omega)
end
end
section
def updM(M:Nat->Nat->List Vt)(i j:Nat)(l:List Vt)(a b:Nat):List Vt:=if a=i/\b=j then l else M a b
def Hd.put(h:Hd)(i j:Nat)(v:Value):Hd:={ h with mv:=fun a b=>if a=i/\b=j then v else h.mv a b }
def putT(T:Nat->Nat)(i j:Nat)(v:Value)(k:Nat):Nat:=if rb v=some k then 100+16*i+j else T k
section
variable{T:Nat->Nat}{g:Gh}{w w1:World}{X n:Nat}{q:List Int}{B:Nat->Bl}{M:Nat->Nat->List Vt}{h:Hd}
theorem Net.setV(hn:Net T g w X n q B M h){i j:Nat}(hi:i<n)(hj:j<n){v':Value}{l':List Vt}(hs:w.heap.size<=w1.heap.size)(hsame:∀k,k<w.heap.size->rb (h.mv i j)≠some k->w1.heap[k]?=w.heap[k]?)
 (hm:MBx w1 v' l') (hv:∀k,rb v'=some k->(rb (h.mv i j)=some k\/w.heap.size<=k)/\k<w1.heap.size) :
 Net (putT T i j v') g (w1.setCell ⟨h.rk i,j,none⟩ v') X n q B (updM M i j l') (h.put i j v')/\(w1.setCell ⟨h.rk i,j,none⟩ v').heap.size=w1.heap.size/\(∀k,k<w1.heap.size->k≠h.rk i->(w1.setCell ⟨h.rk i,j,none⟩ v').heap[k]?=w1.heap[k]?):=by
 have n9:=hn.n9
 have hT0:∀k,T k≠0->k<w.heap.size:=fun k hk=>(hn.tz k hk).1
 have htv:∀k,rb (h.mv i j)=some k->T k=100+16*i+j:=fun k hk=>hn.tag.v i j k hi hj hk
 have hTs:∀k,T k≠0->T k≠100+16*i+j->w1.heap[k]?=w.heap[k]?:=fun k h0 h1=>hsame k (hT0 k h0) fun e=>h1 (htv k e)
 have hTput:∀k,T k≠0->putT T i j v' k=T k:=fun k h0=>by
  unfold putT
  split
  .next e =>
   rcases(hv k e).1 with e'|e'
   .exact(htv k e').symm
   .have:=hT0 k h0;omega
  .rfl
 obtain⟨cr,r1,r2⟩:=hn.rr i hi
 have hTr:=hn.tag.r i hi
 have hr1:w1.heap[h.rk i]?=some (.cells cr 41 (0,0)):=(hTs _ (by omega) (by omega)).trans r1
 have hrj:j<cr.size:=by
  have:=r2 j hj
  exact(zzm_.1 this).1
 have hset:(w1.setCell ⟨h.rk i,j,none⟩ v').heap[h.rk i]?=some (.cells (cr.setIfInBounds j v') 41 (0,0)):=by
  simp[World.setCell,yyu_,hr1]
 have hoth:∀k,k≠h.rk i->(w1.setCell ⟨h.rk i,j,none⟩ v').heap[k]?=w1.heap[k]?:=fun k hk=>by
  simp[World.setCell,yyu_,Ne.symm hk]
 have hsz:(w1.setCell ⟨h.rk i,j,none⟩ v').heap.size=w1.heap.size:=by simp[World.setCell]
 have hrI:g.I (h.rk i)=0:=(hn.tz _ (by omega)).2
 have hIv:∀k,rb (h.mv i j)=some k->g.I k=0:=fun k hk=>(hn.vt hi hj hk).2
 have hI:∀b o,o<g.I b->o<g.I b/\(w1.setCell ⟨h.rk i,j,none⟩ v').cell? ⟨b,o,none⟩=w.cell? ⟨b,o,none⟩:=fun b o ho=>by
  refine⟨ho,yyb_ (a:=⟨b,o,none⟩) ?_⟩
  rw[hoth b (by rintro rfl;omega)]
  exact hsame b (hn.Ilt b (by omega)) fun e=>by have:=hIv b e;omega
 have hT2:∀k,T k≠0->T k≠100+16*i+j->T k≠4+i->(w1.setCell ⟨h.rk i,j,none⟩ v').heap[k]?=w.heap[k]?:=fun k h0 h1 h2=>by
  rw[hoth k (by rintro rfl;exact h2 hTr)]
  exact hTs k h0 h1
 refine⟨⟨n9,fun k hk=>by rw[hsz];exact zzk_ (hn.Ilt k hk) hs,⟨?_,?_,?_,fun a ha=>?_,fun a b k ha hb hk=>?_⟩,fun k hk=>?_,?_,zr_ hn.hq rfl hI,hn.bcn,hn.mcn,hn.rcn,?_,?_,fun a ha=>?_,fun a b ha hb=>?_⟩,hsz,fun k _ hk=>hoth k hk⟩
 .rw[hTput _ (by rw[hn.tag.x];omega)];exact hn.tag.x
 .show putT T i j v' h.bk=2;rw[hTput _ (by rw[hn.tag.b];omega)];exact hn.tag.b
 .show putT T i j v' h.mb=3;rw[hTput _ (by rw[hn.tag.m];omega)];exact hn.tag.m
 .show putT T i j v' (h.rk a)=4+a;rw[hTput _ (by rw[hn.tag.r a ha];omega)];exact hn.tag.r a ha
 .simp only[Hd.put]at hk
  split at hk
  .next e =>
   obtain⟨rfl,rfl⟩:=e
   simp[putT,hk]
  .rw[hTput k (by rw[hn.tag.v a b k ha hb hk];omega)]
   exact hn.tag.v a b k ha hb hk
 .unfold putT at hk
  rw[hsz]
  split at hk
  .next e =>
   refine⟨(hv k e).2,?_⟩
   rcases(hv k e).1 with e'|e'
   .exact hIv k e'
   .by_cases h0:0<g.I k
    .have:=hn.Ilt k h0;omega
    .omega
  .exact⟨zzk_ (hT0 k hk) hs,(hn.tz k hk).2⟩
 .exact(hT2 X (by rw[hn.tag.x];omega) (by rw[hn.tag.x];omega) (by rw[hn.tag.x];omega)).trans hn.hX
 .obtain⟨cur,c1,c2,c3⟩:=hn.bb
  refine⟨cur,(hT2 h.bk (by rw[hn.tag.b];omega) (by rw[hn.tag.b];omega) (by rw[hn.tag.b];omega)).trans c1,c2,fun a ha p u hu=>?_⟩
  obtain⟨c,q1,q2,q3⟩:=c3 a ha p u hu
  exact⟨c,q1,q2,zr_ q3 (wG_ _ u (zzd_ hu)) hI⟩
 .obtain⟨cur,c1,c2⟩:=hn.mm
  exact⟨cur,(hT2 h.mb (by rw[hn.tag.m];omega) (by rw[hn.tag.m];omega) (by rw[hn.tag.m];omega)).trans c1,c2⟩
 .by_cases he:a=i
  .subst he
   refine⟨_,hset,fun b hb=>?_⟩
   simp only[Hd.put,true_and]
   by_cases hbj:b=j
   .subst hbj
    rw[if_pos rfl]
    simp[hrj]
   .rw[if_neg hbj,Array.getElem?_setIfInBounds_ne (Ne.symm hbj)]
    exact r2 b hb
  .obtain⟨cur,c1,c2⟩:=hn.rr a ha
   have hta:=hn.tag.r a ha
   refine⟨cur,(hT2 (h.rk a) (by omega) (by omega) (by omega)).trans c1,fun b hb=>?_⟩
   simp only[Hd.put]
   rw[if_neg (by rintro⟨e,_⟩;exact he e)]
   exact c2 b hb
 .simp only[updM,Hd.put]
  by_cases he:a=i/\b=j
  .rw[if_pos he,if_pos he]
   refine hm.keep fun k hk=>hoth k ?_
   rintro rfl
   rcases(hv _ hk).1 with e'|e'
   .have:=htv _ e';omega
   .have:=hT0 (h.rk i) (by omega);omega
  .rw[if_neg he,if_neg he]
   refine(hn.vv a b ha hb).keep fun k hk=>?_
   have htk:=hn.tag.v a b k ha hb hk
   exact hT2 k (by omega) (by intro e;apply he;omega) (by omega)
end
section
variable{w:World}
set_option maxRecDepth 100000 in
theorem kz_{v:Value}{l:List Vt}(hm:MBx w v l)(m:Vt){kt:Nat}(ht:∀(j:Nat) (u:Value),(fv [m])[j]?=some u->w.cell? ⟨kt,j,none⟩=some u)(hl:l.length<=100000) :
 ∃ v' w', (∀ ty, (Builtin.append_ #[41, 41] ty #[v, .slice (some ⟨kt, 0, none⟩) 1 1]).run Try.prog w = .ok v' w') ∧ MBx w' v' (l ++ [m]) ∧ w'.os = w.os ∧ w'.tape = w.tape ∧ w'.output = w.output ∧ w.heap.size ≤ w'.heap.size ∧
   (∀k,k<w.heap.size->rb v≠some k->w'.heap[k]?=w.heap[k]?)/\∀k,rb v'=some k->(rb v=some k\/w.heap.size<=k)/\k<w'.heap.size:=by
 obtain⟨i0,hi0,hz0,hzs,hzb⟩:∃i0,Try.prog.info? 46=some i0/\i0.zero=some (.agg #[.int .i64 0,.int .i64 0,.int .i64 0,.int .i64 0])/\i0.size=4/\i0.bytes=32:=⟨_,rfl,by kernel_rfl,by kernel_rfl,by kernel_rfl⟩
 have hnl:(fv [m]).length=1*i0.size:=by rw[hzs];rfl
 have hnews:∀j u,(fv [m])[j]?=some u->w.cell? ((⟨kt,0,none⟩:Addr).add j)=some u:=fun j u hj=>by rw[Addr.add_lit,Nat.zero_add];exact ht j u hj
 have fin:∀(old:Nat) (cs:List Value) (L:List Vt),L.length<=100001->old<L.length->cs=fv L->MBx (w.drew.alloc (.cells (cs.toArray++Builtin.zeroCells (Value.agg #[.int .i64 0,.int .i64 0,.int .i64 0,.int .i64 0]).cells (grownCap w L.length old 46-L.length)) 46)) (.slice (some ⟨w.heap.size,0,none⟩) L.length (grownCap w L.length old 46)) L:=by
  rintro old cs L hL ho rfl
  have hge:=grownCap_ge w L.length old 46
  refine .inr ⟨w.heap.size,0,_,_,rfl,by omega,hge,grownCap_le_maxLen w L.length old 46 (by unfold maxLen;omega),heap_alloc_new w.drew _,?_,fun p u hp=>?_⟩
  .have hz:(Builtin.zeroCells (Value.agg #[.int .i64 0,.int .i64 0,.int .i64 0,.int .i64 0]).cells (grownCap w L.length old 46-L.length)).size=(grownCap w L.length old 46-L.length)*4:=by simp[Builtin.zeroCells,Value.cells]
   simp only[Array.size_append,List.size_toArray,hz,lp_]
   omega
  .rw[Nat.zero_add,Array.getElem?_append_left (by have:=(zzc_.1 hp).1;simpa using this)]
   simpa using hp
 have hfits:∀need old,old<need->need<=100001->Builtin.nextslicecap need old*i0.bytes<=281474976710656:=fun need old h1 h2=>by rw[hzb];exact growslice_fits h1 (by omega)
 have hblk:∀(o:Obj) k,k<w.heap.size->(w.drew.alloc o).heap[k]?=w.heap[k]?:=fun o k hk=>Below.heap_alloc w.drew _ k hk
 rcases hm with ⟨rfl,A,rfl⟩|⟨k,off,cap,cur,rfl,h1,h2,h3,h4,h5,h6⟩
 .cases A with
  | none =>
    refine⟨_,_,fun ty=>run_append_nil (P:=Try.prog) w 41 ty 46 i0 _ Try.underlying41 hi0 hz0 ⟨kt,0,none⟩ 1 1 (fv [m]) hnl hnews (by omega) (by omega) (by rw[hzb];omega),?_,rfl,rfl,rfl,by simp,fun k hk _=>hblk _ k hk,fun k hk=>?_⟩
    .have:=fin 0 (fv [m]) [m] (by simp) (by simp) rfl
     simpa using this
    .have:=r3_ hk
     subst this
     exact⟨.inr (zzl_ _),by simp⟩
  | some ad =>
    have hr:=fun ty=>run_append_grow (P:=Try.prog) w 41 ty 46 i0 _ Try.underlying41 hi0 hz0 ad 0 0 [] (by simp) (fun j v hj=>by simp at hj) ⟨kt,0,none⟩ 1 1 (fv [m]) hnl hnews (by omega) (by omega) (hfits 1 0 (by omega) (by omega))
    refine⟨_,_,hr,?_,rfl,rfl,rfl,by simp,fun k hk _=>hblk _ k hk,fun k hk=>?_⟩
    .have:=fin 0 (fv [m]) [m] (by simp) (by simp) rfl
     simpa using this
    .have:=r3_ hk
     subst this
     exact⟨.inr (zzl_ _),by simp⟩
 .have hkw:=(zzm_.1 h4).1
  have hfl:=lp_ l
  by_cases hroom:l.length+1<=cap
  ·have hr:=fun ty=>run_append_room_cells (P:=Try.prog) w 41 ty 46 i0 Try.underlying41 hi0 k off l.length cap ⟨kt,0,none⟩ 1 1 (fv [m]) hnl hnews (is_ _) hroom
    (fun j hj=>by
     have hj4:j<4:=hj
     rw[hzs]
     have:off+l.length*4+j<cur.size:=by omega
     simp[World.cell?,h4,this])
    (fun j hj=>by simp[World.frozen?,h4])
   rw[hzs]at hr
   obtain⟨cur',q1,q2,q3⟩:=zq_ (fv [m]) (off+l.length*4) w k cur 46 h4 (by show off+l.length*4+4<=cur.size;omega)
   refine⟨_,_,hr,.inr ⟨k,off,cap,cur',by simp,h1,by simp;omega,h3,q1,by omega,fun p u hp=>?_⟩,(z4_ _ _ _ _).1,(z4_ _ _ _ _).2.1,(z4_ _ _ _ _).2.2,?_,fun k' hk' hne=>?_,fun k' hk'=>?_⟩
   .rw[sn_]at hp
    have hcl:cur.toList.length=cur.size:=by simp
    rw[<-Array.getElem?_toList,q3,zzq_]
    rcases yym_ p (l.length*4) with hlt|hge
    .rw[zzo_ (by omega)]at hp
     rw[zzo_ (by rw[List.length_take];omega),zzu_,if_pos (by omega),Array.getElem?_toList]
     exact h6 p u hp
    .rw[zzv_ (by omega),hfl]at hp
     have hp4:p-l.length*4<4:=(zzc_.1 hp).1
     rw[zzv_ (by rw[List.length_take];omega),zzo_ (by rw[List.length_take];show _<4;omega)]
     rw[show off+p-(cur.toList.take (off+l.length*4)).length=p-l.length*4 by rw[List.length_take];omega]
     exact hp
   ·have hsz:∀vs o (W:World),(W.setCells k o vs).heap.size=W.heap.size:=fun vs=>by
     induction vs with
     |nil=>intro o W;rfl
     |cons v r ih=>intro o W;rw[World.setCells,ih];simp[World.setCell]
    rw[hsz];exact zzl_ _
   .exact zp_ hk' (by rintro rfl;exact hne (by simp[rb];omega))
   ·have hsz:∀vs o (W:World),(W.setCells k o vs).heap.size=W.heap.size:=fun vs=>by
     induction vs with
     |nil=>intro o W;rfl
     |cons v r ih=>intro o W;rw[World.setCells,ih];simp[World.setCell]
    have e:k'=k:=by simp[rb]at hk';exact hk'.2.symm
    subst e
    exact⟨.inl (by simp[rb];omega),by rw[hsz];exact hkw⟩
  .have hce:cap=l.length:=by omega
   have hr:=fun ty=>run_append_grow (P:=Try.prog) w 41 ty 46 i0 _ Try.underlying41 hi0 hz0 ⟨k,off,none⟩ l.length cap (fv l) (by rw[hzs];exact hfl) (fun j v hj=>by
    rw[Addr.add_lit]
    simpa[World.cell?,h4] using h6 j v hj) ⟨kt,0,none⟩ 1 1 (fv [m]) hnl hnews (by omega) (by omega) (hfits _ _ (by omega) (by omega))
   refine⟨_,_,hr,?_,rfl,rfl,rfl,by simp,fun k hk _=>hblk _ k hk,fun k hk=>?_⟩
   .have:=fin cap (fv l++fv [m]) (l++[m]) (by simp;omega) (by simp;omega) (sn_ l [m]).symm
    simpa using this
   .have:=r3_ hk
    subst this
    exact⟨.inr (zzl_ _),by simp⟩
end
end
theorem uv_{P:Program}{w:World}{b o:Nat}{v u:Value}(hc:w.cell? ⟨b,o,none⟩=some u)(hf:w.frozen? ⟨b,o,none⟩=false)(h1:v.oneCell'=true):(store ⟨b,o,none⟩ v).run P w=.ok () (w.setCell ⟨b,o,none⟩ v):=by
 rw[run_store P w _ v _ h1]
 simp[hc,hf]
theorem t0_{P:Program}{w:World}{k o:Nat}{cur:Array Value}{e:TypeId}{v0 v1 v2 v3 v4 v5 v6 v7 v8 v9 v10:Value}(hk:w.heap[k]?=some (.cells cur e (0,0)))(hs:o+11<=cur.size)(h1:∀v∈[v0,v1,v2,v3,v4,v5,v6,v7,v8,v9,v10],v.oneCell'=true) :
 ∃ w1 w2 w3 w4 w5 w6 w7 w8 w9 w10 : World, (store ⟨k, o, none⟩ v0).run P w = .ok () w1 ∧ (store ⟨k, o + 1, none⟩ v1).run P w1 = .ok () w2 ∧ (store ⟨k, o + 2, none⟩ v2).run P w2 = .ok () w3 ∧ (store ⟨k, o + 3, none⟩ v3).run P w3 = .ok () w4 ∧
   (store ⟨k,o+4,none⟩ v4).run P w4=.ok () w5/\(store ⟨k,o+5,none⟩ v5).run P w5=.ok () w6/\(store ⟨k,o+6,none⟩ v6).run P w6=.ok () w7/\(store ⟨k,o+7,none⟩ v7).run P w7=.ok () w8/\(store ⟨k,o+8,none⟩ v8).run P w8=.ok () w9 /\
   (store ⟨k,o+9,none⟩ v9).run P w9=.ok () w10/\(store ⟨k,o+10,none⟩ v10).run P w10=.ok () (w.setCells k o [v0,v1,v2,v3,v4,v5,v6,v7,v8,v9,v10]):=by
 have step:∀(w:World) (cur:Array Value) (o:Nat) (v:Value),w.heap[k]?=some (.cells cur e (0,0))->o<cur.size->v.oneCell'=true->(store ⟨k,o,none⟩ v).run P w=.ok () (w.setCell ⟨k,o,none⟩ v)/\(w.setCell ⟨k,o,none⟩ v).heap[k]?=some (.cells (cur.setIfInBounds o v) e (0,0)):=by
  intro w cur o v hk ho h1
  refine⟨uv_ (u:=cur[o]) (by simp[World.cell?,hk,ho]) (by simp[World.frozen?,hk]) h1,by simp[World.setCell,yyu_,hk]⟩
 obtain⟨a0,b0⟩:=step w cur o v0 hk (by omega) (h1 _ (by simp))
 obtain⟨a1,b1⟩:=step _ _ (o+1) v1 b0 (by simp;omega) (h1 _ (by simp))
 obtain⟨a2,b2⟩:=step _ _ (o+2) v2 b1 (by simp;omega) (h1 _ (by simp))
 obtain⟨a3,b3⟩:=step _ _ (o+3) v3 b2 (by simp;omega) (h1 _ (by simp))
 obtain⟨a4,b4⟩:=step _ _ (o+4) v4 b3 (by simp;omega) (h1 _ (by simp))
 obtain⟨a5,b5⟩:=step _ _ (o+5) v5 b4 (by simp;omega) (h1 _ (by simp))
 obtain⟨a6,b6⟩:=step _ _ (o+6) v6 b5 (by simp;omega) (h1 _ (by simp))
 obtain⟨a7,b7⟩:=step _ _ (o+7) v7 b6 (by simp;omega) (h1 _ (by simp))
 obtain⟨a8,b8⟩:=step _ _ (o+8) v8 b7 (by simp;omega) (h1 _ (by simp))
 obtain⟨a9,b9⟩:=step _ _ (o+9) v9 b8 (by simp;omega) (h1 _ (by simp))
 obtain⟨a10,b10⟩:=step _ _ (o+10) v10 b9 (by simp;omega) (h1 _ (by simp))
 exact⟨_,_,_,_,_,_,_,_,_,_,a0,a1,a2,a3,a4,a5,a6,a7,a8,a9,a10⟩
def yz_(M:Nat->Nat->List Vt)(i:Nat)(l:List Vt)(a b:Nat):List Vt:=if a=i then M a b++l.filter (fun m=>m.to==(b:Int)) else M a b
structure Asd(p:Prop):Prop where
 out:p
theorem qN_(M:Nat->Nat->List Vt)(i:Nat):yz_ M i []=M:=by
 funext a b
 simp[yz_]
theorem r7_(M:Nat->Nat->List Vt)(i:Nat)(l:List Vt)(m:Vt){j:Nat}(hj:m.to=(j:Int)):yz_ M i (l++[m])=updM (yz_ M i l) i j (yz_ M i l i j++[m]):=by
 funext a b
 unfold yz_ updM
 by_cases ha:a=i
 .subst ha
  by_cases hb:b=j
  .subst hb
   simp[hj,List.filter_append]
  .have:(m.to==(b:Int))=false:=by rw[hj];simp;omega
   simp[List.filter_append,hb,this]
 .simp[ha]
theorem qO_(M:Nat->Nat->List Vt)(i:Nat)(l:List Vt)(a b:Nat):(yz_ M i l a b).length<=(M a b).length+l.length:=by
 unfold yz_
 split
 .rw[zzr_];have:=List.length_filter_le (fun m:Vt=>m.to==(b:Int)) l;omega
 .omega
theorem ro_:∀(l:List Vt),flat (vl l)=(fv l).map .s
 |[]=>rfl
 | x :: r => by
   have:=ro_ r
   simp only[vl,List.map_cons,flat,fv,List.flatMap_cons,List.map_append]at this ⊢
   rw[this]
   rfl
theorem nD_{g:Gh}{w:World}{l:List Vt}{A:Option Addr}{c:Nat}{N:Nat}(h:Rep g w (.list 4 (vl l)) (.slice A N c)){p:Nat}(hp:p<l.length):∃b o,A=some ⟨b,o,none⟩/\0<g.I b/\w.cell? ⟨b,o+p*4,none⟩=some (.int .i64 l[p].k) /\
 w.cell? ⟨b,o+p*4+1,none⟩=some (.int .i64 l[p].to)/\w.cell? ⟨b,o+p*4+2,none⟩=some (.int .i64 l[p].st)/\w.cell? ⟨b,o+p*4+3,none⟩=some (.int .i64 l[p].ss):=by
 obtain⟨f0,f1,f2,f3⟩:=it_ l p hp
 cases h with
 | list vals hc hm hA hz hi hcell hrep =>
   have key:∀(j:Nat) (u:Value),(fv l)[j]?=some u->∃b q,A=some ⟨b,q,none⟩/\q+j<g.I b/\w.cell? ⟨b,q+j,none⟩=some u:=by
    intro j u hu
    have hj:j<(flat (vl l)).length:=by rw[ro_,List.length_map];exact(zzc_.1 hu).1
    obtain⟨b,q,r1,r2,r3⟩:=hcell j hj
    have:=(hrep j (.s u) (by rw[ro_,zzs_,hu];rfl)).of_s rfl
    exact⟨b,q,r1,r2,by rw[r3,this]⟩
   obtain⟨b,o,e,i0,c0⟩:=key _ _ f0
   obtain⟨b1,o1,e1,_,c1⟩:=key _ _ f1
   obtain⟨b2,o2,e2,_,c2⟩:=key _ _ f2
   obtain⟨b3,o3,e3,_,c3⟩:=key _ _ f3
   rw[e]at e1 e2 e3
   cases e1
   cases e2
   cases e3
   exact⟨b,o,e,by omega,c0,by rw[Nat.add_assoc];exact c1,by rw[Nat.add_assoc];exact c2,by rw[Nat.add_assoc];exact c3⟩
theorem xG_{P:Program}{ops:Array Oper}{o:Oper}{a:Act}{w:World}{K:Act->World->Prop}{Q:Exit->Act->World->Prop}{E:Prop}
 (hg:o.guard=none) (d x:Operand) (dT sT:TypeId) (hop:o.op=Op.call { callee:=Callee.builtin Builtin.append,args:=#[d,x],argTypes:=#[dT,sT] })
 (v u:Value) (hd:a.eval d=v) (hx:a.eval x=u) {v':Value} {w':World} (hr:(Builtin.append_ #[dT,sT] o.type #[v,u]).run P w=.ok v' w') (hK:K (a.put o.dst v') w') :
 if Region.wanted o (yielded ops a.tmps)=true then Oper.wp P o a w K Q else E:=by
 have hw:Region.wanted o (yielded ops a.tmps)=true:=by simp[Region.wanted,hg]
 rw[if_pos hw]
 unfold Oper.wp
 simp[execOp,hop,resolve,invoke,builtin,hd,hx,hr,Result.andThen]
 exact hK
structure TkI(T:Nat->Nat)(g:Gh)(w:World)(H X n:Nat)(q:List Int)(B:Nat->Bl)(M:Nat->Nat->List Vt)(cs:Array Value)(T':Nat->Nat)(h':Hd)(wr:World):Prop where
 net:Net T' g wr X n q B M h'
 box:wr.heap[H]?=some (.cells cs 39 (0,0))
 tH:T' H=0
 os:wr.os=w.os
 tape:wr.tape=w.tape
 output:wr.output=w.output
 size:w.heap.size<=wr.heap.size
 fr:∀k,k<w.heap.size->T k=0->T' k=0/\wr.heap[k]?=w.heap[k]?
set_option maxHeartbeats 4000000 in
theorem TkI.step{T:Nat->Nat}{g:Gh}{w:World}{H X n:Nat}{q:List Int}{B:Nat->Bl}{M:Nat->Nat->List Vt}{cs:Array Value}{T':Nat->Nat}{h':Hd}{wr:World}(hI:TkI T g w H X n q B M cs T' h' wr){i j:Nat}(hi:i<n)(hj:j<n)(m:Vt)(hl:(M i j).length<=100000) :
 ∃ (W4 W5 W6 W7 : World) (v' : Value) (T2 : Nat → Nat) (h2 : Hd) (Hp Kt : Nat) (A2 : Option Addr) (N2 C2 : Nat), v' = .slice A2 N2 C2 ∧ wr.heap.size = Hp ∧ wr.alloc (.cells #[.int .i64 m.k, .int .i64 m.to, .int .i64 m.st, .int .i64 m.ss] 46) = W4 ∧
   W4.cell? ⟨Hp,0,none⟩=some (.int .i64 m.k)/\W4.cell? ⟨Hp,1,none⟩=some (.int .i64 m.to)/\W4.cell? ⟨Hp,2,none⟩=some (.int .i64 m.st)/\W4.cell? ⟨Hp,3,none⟩=some (.int .i64 m.ss) /\
   W4.cell? ⟨X,2,none⟩=some (.slice (some ⟨h'.bk,0,none⟩) n h'.bc)/\W4.cell? ⟨X,3,none⟩=some (.slice (some ⟨h'.mb,0,none⟩) n h'.mc)/\W4.cell? ⟨h'.mb,i,none⟩=some (.slice (some ⟨h'.rk i,0,none⟩) n (h'.rc i))/\W4.cell? ⟨h'.rk i,j,none⟩=some (h'.mv i j) /\
   W4.heap.size=Kt/\W4.drew.drew.alloc (.cells #[.int .i64 m.k,.int .i64 m.to,.int .i64 m.st,.int .i64 m.ss] 46)=W5/\(∀ty,(Builtin.append_ #[41,41] ty #[h'.mv i j,.slice (some ⟨Kt,0,none⟩) 1 1]).run Try.prog W5=.ok v' W6) /\
   (W6.frozen? ⟨h'.rk i,j,none⟩=false/\W6.setCell ⟨h'.rk i,j,none⟩ v'=W7)/\(W5.cell? ⟨Hp,0,none⟩=some (.int .i64 m.k)/\W5.cell? ⟨Hp,1,none⟩=some (.int .i64 m.to)/\W5.cell? ⟨Hp,2,none⟩=some (.int .i64 m.st)/\W5.cell? ⟨Hp,3,none⟩=some (.int .i64 m.ss)/\W5.cell? ⟨X,3,none⟩=some (.slice (some ⟨h'.mb,0,none⟩) n h'.mc)/\W5.cell? ⟨h'.mb,i,none⟩=some (.slice (some ⟨h'.rk i,0,none⟩) n (h'.rc i))/\W5.cell? ⟨h'.rk i,j,none⟩=some (h'.mv i j))/\(W6.cell? ⟨Hp,0,none⟩=some (.int .i64 m.k)/\W6.cell? ⟨Hp,1,none⟩=some (.int .i64 m.to)/\W6.cell? ⟨Hp,2,none⟩=some (.int .i64 m.st)/\W6.cell? ⟨Hp,3,none⟩=some (.int .i64 m.ss)/\W6.cell? ⟨X,3,none⟩=some (.slice (some ⟨h'.mb,0,none⟩) n h'.mc)/\W6.cell? ⟨h'.mb,i,none⟩=some (.slice (some ⟨h'.rk i,0,none⟩) n (h'.rc i))/\W6.cell? ⟨h'.rk i,j,none⟩=some (h'.mv i j))/\(W7.cell? ⟨Hp,0,none⟩=some (.int .i64 m.k)/\W7.cell? ⟨Hp,1,none⟩=some (.int .i64 m.to)/\W7.cell? ⟨Hp,2,none⟩=some (.int .i64 m.st)/\W7.cell? ⟨Hp,3,none⟩=some (.int .i64 m.ss)/\W7.cell? ⟨X,3,none⟩=some (.slice (some ⟨h'.mb,0,none⟩) n h'.mc)/\W7.cell? ⟨h'.mb,i,none⟩=some (.slice (some ⟨h'.rk i,0,none⟩) n (h'.rc i)))/\TkI T g w H X n q B (updM M i j (M i j++[m])) cs T2 h2 W7:=by
 obtain⟨hn,hbx,htH,ho1,ho2,ho3,hsz,hfr⟩:=hI
 have n9:=hn.n9
 have hHw:H<wr.heap.size:=(zzm_.1 hbx).1
 obtain⟨W4,hWa⟩:∃W4,wr.alloc (.cells #[.int .i64 m.k,.int .i64 m.to,.int .i64 m.st,.int .i64 m.ss] 46)=W4:=⟨_,rfl⟩
 have b4:W4.heap[wr.heap.size]?=some (.cells #[.int .i64 m.k,.int .i64 m.to,.int .i64 m.st,.int .i64 m.ss] 46 (0,0)):=by rw[<-hWa];exact heap_alloc_new wr _
 have z4:W4.heap.size=wr.heap.size+1:=by rw[<-hWa];simp
 have hW4b:∀k,k<wr.heap.size->W4.heap[k]?=wr.heap[k]?:=fun k hk=>by rw[<-hWa];exact Below.heap_alloc wr _ k hk
 have hWao:W4.os=wr.os/\W4.tape=wr.tape/\W4.output=wr.output:=by rw[<-hWa];exact⟨rfl,rfl,rfl⟩
 have hn4:Net T' g W4 X n q B M h':=hn.grow (by omega) hW4b (fun _ _=>rfl) (fun k hk=>zzk_ (hn.Ilt k hk) (by omega))
 obtain⟨W5,hW5⟩:∃W5,W4.drew.drew.alloc (.cells #[.int .i64 m.k,.int .i64 m.to,.int .i64 m.st,.int .i64 m.ss] 46)=W5:=⟨_,rfl⟩
 have hW5n:W5.heap[W4.heap.size]?=some (.cells #[.int .i64 m.k,.int .i64 m.to,.int .i64 m.st,.int .i64 m.ss] 46 (0,0)):=by rw[<-hW5];exact heap_alloc_new W4.drew.drew _
 have hW5s:W5.heap.size=W4.heap.size+1:=by rw[<-hW5,World.size_alloc];rfl
 have hW5b:∀k,k<W4.heap.size->W5.heap[k]?=W4.heap[k]?:=fun k hk=>by rw[<-hW5];exact Below.heap_alloc W4.drew.drew _ k hk
 have hW5o:W5.os=W4.os/\W5.tape=W4.tape/\W5.output=W4.output:=by rw[<-hW5];exact⟨rfl,rfl,rfl⟩
 have hn5:Net T' g W5 X n q B M h':=hn4.grow (by omega) hW5b (fun _ _=>rfl) (fun k hk=>zzk_ (hn4.Ilt k hk) (by omega))
 obtain⟨v',W6,hrun,hmb,q1,q2,q3,q4,q5,q6⟩:=kz_ (hn5.vv i j hi hj) m (kt:=W4.heap.size) (fun p u hp=>by
  have hp4:p<4:=(zzc_.1 hp).1
  simp only[World.cell?,hW5n]
  match p,hp4 with
  |0,_=>simpa[fv] using hp
  |1,_=>simpa[fv] using hp
  |2,_=>simpa[fv] using hp
  |3,_=>simpa[fv] using hp) hl
 obtain⟨hn7,k1,k2⟩:=hn5.setV hi hj q4 q5 hmb (fun k hk=>q6 k hk)
 obtain⟨cr,r1,r2⟩:=hn5.rr i hi
 have hTr:=hn5.tag.r i hi
 have hr6:W6.heap[h'.rk i]?=some (.cells cr 41 (0,0)):=(q5 _ (hn5.tz _ (by omega)).1 (fun e=>by have:=hn5.tag.v i j _ hi hj e;omega)).trans r1
 have hjc:=(zzm_.1 (r2 j hj)).1
 have hv1:v'.oneCell'=true:=by
  rcases hmb with ⟨_,A,rfl⟩|⟨_,_,_,_,rfl,_⟩<;>rfl
 have hst:(store ⟨h'.rk i,j,none⟩ v').run Try.prog W6=.ok () (W6.setCell ⟨h'.rk i,j,none⟩ v'):=uv_ (u:=cr[j]) (by simp[World.cell?,hr6,hjc]) (by simp[World.frozen?,hr6]) hv1
 have hnotv:∀k,T' k=0->rb (h'.mv i j)≠some k:=fun k h0 e=>by have:=hn5.tag.v i j k hi hj e;omega
 obtain⟨cm,m1,m2⟩:=hn4.mm
 obtain⟨cr4,r41,r42⟩:=hn4.rr i hi
 have hb5:W5.heap[wr.heap.size]?=W4.heap[wr.heap.size]?:=hW5b _ (by omega)
 have hm5:W5.heap[h'.mb]?=W4.heap[h'.mb]?:=hW5b _ (hn4.tz _ (by rw[hn4.tag.m];omega)).1
 have hnT:T' wr.heap.size=0:=by
  by_cases h0:T' wr.heap.size=0
  .exact h0
  .have:=(hn.tz _ h0).1;omega
 have hb6:W6.heap[wr.heap.size]?=W5.heap[wr.heap.size]?:=q5 _ (by omega) (hnotv _ hnT)
 have hX6:W6.heap[X]?=W5.heap[X]?:=q5 _ (hn5.tz _ (by rw[hn5.tag.x];omega)).1 (fun e=>by have:=hn5.tag.v i j _ hi hj e;have:=hn5.tag.x;omega)
 have hm6:W6.heap[h'.mb]?=W5.heap[h'.mb]?:=q5 _ (hn5.tz _ (by rw[hn5.tag.m];omega)).1 (fun e=>by have:=hn5.tag.v i j _ hi hj e;have:=hn5.tag.m;omega)
 have hb7:(W6.setCell ⟨h'.rk i,j,none⟩ v').heap[wr.heap.size]?=W6.heap[wr.heap.size]?:=k2 _ (by omega) (by intro e;have:=(hn.tz _ (show T' (h'.rk i)≠0 by omega)).1;omega)
 have hX7:(W6.setCell ⟨h'.rk i,j,none⟩ v').heap[X]?=W6.heap[X]?:=k2 _ (by have:=(hn5.tz _ (show T' X≠0 by rw[hn5.tag.x];omega)).1;omega) (by intro e;have:=hn5.tag.x;rw[e]at this;omega)
 have hm7:(W6.setCell ⟨h'.rk i,j,none⟩ v').heap[h'.mb]?=W6.heap[h'.mb]?:=k2 _ (by have:=(hn5.tz _ (show T' h'.mb≠0 by rw[hn5.tag.m];omega)).1;omega) (by intro e;have:=hn5.tag.m;rw[e]at this;omega)
 obtain⟨A2,N2,C2,hv2⟩:∃A2 N2 C2,v'=.slice A2 N2 C2:=by
  rcases hmb with ⟨_,A,rfl⟩|⟨_,_,_,_,rfl,_⟩<;>exact⟨_,_,_,rfl⟩
 refine⟨W4,W5,W6,_,v',_,_,wr.heap.size,W4.heap.size,A2,N2,C2,hv2,rfl,hWa,by simp[World.cell?,b4],by simp[World.cell?,b4],by simp[World.cell?,b4],by simp[World.cell?,b4],by simp[World.cell?,hn4.hX],by simp[World.cell?,hn4.hX],?_,?_,rfl,hW5,hrun,⟨by simp[World.frozen?,hr6],rfl⟩,⟨?_,?_,?_,?_,?_,?_,?_⟩,⟨?_,?_,?_,?_,?_,?_,?_⟩,⟨?_,?_,?_,?_,?_,?_⟩,hn7,?_,?_,?_,?_,?_,?_,fun k hk h0=>?_⟩
 .have:=m2 i hi
  simp[World.cell?,m1,this]
 .have:=r42 j hj
  simp[World.cell?,r41,this]
 .simp[World.cell?,hb5,b4]
 .simp[World.cell?,hb5,b4]
 .simp[World.cell?,hb5,b4]
 .simp[World.cell?,hb5,b4]
 .simp[World.cell?,hn5.hX]
 .have:=m2 i hi
  simp[World.cell?,hm5,m1,this]
 .have:=r2 j hj
  simp[World.cell?,r1,this]
 .simp[World.cell?,hb6,hb5,b4]
 .simp[World.cell?,hb6,hb5,b4]
 .simp[World.cell?,hb6,hb5,b4]
 .simp[World.cell?,hb6,hb5,b4]
 .simp[World.cell?,hX6,hn5.hX]
 .have:=m2 i hi
  simp[World.cell?,hm6,hm5,m1,this]
 .have:=r2 j hj
  simp[World.cell?,hr6,this]
 .simp only[World.cell?,hb7,hb6,hb5,b4];simp
 .simp only[World.cell?,hb7,hb6,hb5,b4];simp
 .simp only[World.cell?,hb7,hb6,hb5,b4];simp
 .simp only[World.cell?,hb7,hb6,hb5,b4];simp
 .simp only[World.cell?,hX7,hX6,hn5.hX];simp
 .have:=m2 i hi
  simp only[World.cell?,hm7,hm6,hm5,m1];simpa using this
 .rw[k2 H (by omega) (by rintro rfl;omega),q5 H (by omega) (hnotv H htH),hW5b H (by omega),hW4b H hHw]
  exact hbx
 .unfold putT
  split
  .next e =>
   rcases(q6 H e).1 with e'|e'
   .exact absurd e' (hnotv H htH)
   .omega
  .exact htH
 .exact q1.trans (hW5o.1.trans (hWao.1.trans ho1))
 .exact q2.trans (hW5o.2.1.trans (hWao.2.1.trans ho2))
 .exact q3.trans (hW5o.2.2.trans (hWao.2.2.trans ho3))
 .rw[k1];omega
 .obtain⟨f1,f2⟩:=hfr k hk h0
  refine⟨?_,?_⟩
  .unfold putT
   split
   .next e =>
    rcases(q6 k e).1 with e'|e'
    .exact absurd e' (hnotv k f1)
    .omega
   .exact f1
  .rw[k2 k (by omega) (by rintro rfl;omega),q5 k (by omega) (hnotv k f1),hW5b k (by omega),hW4b k (by omega)]
   exact f2
end Go.Proofs.Ytpfjlnmnolbiaaa
namespace Go.Proofs.Ytpfjlnmnolbiaaa
open Go Go.Proofs
def zw_(P:Program)(ops:Array Oper)(Q:Exit->Act->World->Prop)(S:World->Prop)(t:Nat):Nat->Array Bool->Act->World->Prop
 |0,listed,a,w=>Region.ready .any ops listed=[]/\Q .normal a w
 | f + 1, listed, a, w =>
   (Region.ready .any ops listed=[]->Q .normal a w) /\
   ∀i∈Region.ready .any ops listed,wpOp P ops Q i (fun a' w'=>((listed.setIfInBounds i true).getD t true=false->S w')/\zw_ P ops Q S t f (listed.setIfInBounds i true) a' w') a w
def Closed(ops:Array Oper)(listed:Array Bool):Prop:=∀j oj,ops[j]?=some oj->listed.getD j false=true->∀e∈oj.after,Region.binds .any e=true->listed.getD e.on false=true
def ps_(ops:Array Oper):Nat->List Nat->List Nat
 |0,L=>L
 |f+1,L=>ps_ ops f (L++L.flatMap fun j=>match ops[j]? with|some o=>(o.after.filter (fun e=>Region.binds .any e)).toList.map (·.on)|none=>[])
section
variable{P:Program}{ops:Array Oper}{Q:Exit->Act->World->Prop}{S:World->Prop}{t:Nat}
theorem tA_{listed:Array Bool}(hc:Closed ops listed):∀(f:Nat) (L:List Nat),(∀x∈L,listed.getD x false=true)->∀y∈ps_ ops f L,listed.getD y false=true
 |0,L,h,y,hy=>h y hy
 | f + 1, L, h, y, hy => by
   refine tA_ hc f _ (fun x hx=>?_) y hy
   rcases zzw_.1 hx with hx|hx
   .exact h x hx
   .obtain⟨j,hj,hx⟩:=List.mem_flatMap.1 hx
    split at hx
    .next o ho =>
     obtain⟨e,he,rfl⟩:=List.mem_map.1 hx
     have he':=Array.mem_filter.1 (Array.mem_toList_iff.1 he)
     exact hc j o ho (h j hj) e he'.1 he'.2
    .simp at hx
theorem Closed.set{listed:Array Bool}(hc:Closed ops listed){i:Nat}(hi:i∈Region.ready .any ops listed):Closed ops (listed.setIfInBounds i true):=by
 obtain⟨_,oi,hoi,hall⟩:=mem_ready.1 hi
 intro j oj hj hl e he hb
 by_cases hij:i=j
 .subst hij
  have:oj=oi:=Option.some.inj (hj.symm.trans hoi)
  subst this
  exact getD_set_true (hall e he hb)
 .rw[getD_set_ne false hij]at hl
  exact getD_set_true (hc j oj hj hl e he hb)
theorem uk_:∀(f:Nat) (listed:Array Bool) (a:Act) (w:World),zw_ P ops Q S t f listed a w->wpAny P .any ops Q f listed a w
 |0,_,_,_,h=>h
 |f+1,_,_,_,h=>⟨h.1,fun i hi=>wpOp_mono (fun a' w' h'=>uk_ f _ a' w' h'.2) (h.2 i hi)⟩
theorem v7_{i:Nat}{oi:Oper}{v:Value}{Si:World->Prop}(hi:ops[i]?=some oi)(hit:i≠t)(hsel:∀(j:Nat) (o:Oper) cs b,ops[j]?=some o->o.op≠.select cs b)
 (hQ:∀c a w,Q (.panic c) (a.put oi.dst v) w->Q (.panic c) a w)
 (hSi:∀(listed:Array Bool) (w:World),listed.size=ops.size->Closed ops listed->listed.getD i true=false->(listed.getD t true=false->S w)->Si w) :
 ∀ (f : Nat) (listed : Array Bool) (a : Act) (w : World), listed.size = ops.size → Closed ops listed →
   (∀j oj,ops[j]?=some oj->j≠i->listed.getD j true=false->(∀e∈oj.after,Region.binds .any e=true->e.on≠i)->oi.apart ops oj=true) ->
   i∈Region.ready .any ops listed->YieldsIf P ops Si oi v a->(listed.getD t true=false->S w) ->
   zw_ P ops Q S t f (listed.setIfInBounds i true) (a.put oi.dst v) w->zw_ P ops Q S t (f+1) listed a w:=by
 intro f
 induction f with
 | zero =>
   intro listed a w hsz hcl _ hr hy hS H
   refine⟨fun h=>(by rw[h]at hr;cases hr),fun j hj=>?_⟩
   by_cases hji:j=i
   .subst hji
    refine hy.wpOp hi (hSi listed w hsz hcl (mem_ready.1 hr).1 hS) ⟨fun h=>hS ?_,H⟩
    by_cases e:j=t
    .subst e;exact(mem_ready.1 hr).1
    .rwa [getD_set_ne true e]at h
   .have:=ready_mono hj hji
    rw[H.1]at this
    cases this
 | succ f ih =>
   intro listed a w hsz hcl hfree hr hy hS H
   refine⟨fun h=>(by rw[h]at hr;cases hr),fun j hj=>?_⟩
   by_cases hji:j=i
   .subst hji
    refine hy.wpOp hi (hSi listed w hsz hcl (mem_ready.1 hr).1 hS) ⟨fun h=>hS ?_,H⟩
    by_cases e:j=t
    .subst e;exact(mem_ready.1 hr).1
    .rwa [getD_set_ne true e]at h
   .have h1:=H.2 j (ready_mono hj hji)
    obtain⟨hjun,oj,hoj,hall⟩:=mem_ready.1 hj
    have hnot:∀e∈oj.after,Region.binds .any e=true->e.on≠i:=fun e he hb heq=>by
     have h1:=hall e he hb
     have h0:=(mem_ready.1 hr).1
     rw[heq]at h1
     rcases yym_ i listed.size with h'|h'
     .simp[h']at h0 h1;rw[h0]at h1;cases h1
     .simp[Array.getElem?_eq_none h']at h1
    have h2:=wpOp_putIf hoj (hfree j oj hoj hji hjun hnot) (fun cs b=>hsel i oi cs b hi) (fun cs b=>hsel j oj cs b hoj) hQ hy h1
    have hfree':∀k ok,ops[k]?=some ok->k≠i->(listed.setIfInBounds j true).getD k true=false ->
     (∀e∈ok.after,Region.binds .any e=true->e.on≠i)->oi.apart ops ok=true:=fun k ok hk hki hun hno=>by
     refine hfree k ok hk hki ?_ hno
     by_cases hjk:j=k
     .subst hjk;exact hjun
     .rw[getD_set_ne true hjk]at hun;exact hun
    have hSj:∀w':World,(((listed.setIfInBounds i true).setIfInBounds j true).getD t true=false->S w')->(listed.setIfInBounds j true).getD t true=false->S w':=by
     intro w' hs ht
     refine hs ?_
     rw[Array.setIfInBounds_comm _ _ (Ne.symm hji),getD_set_ne true hit]
     exact ht
    refine wpOp_mono (fun a' w' h3=>⟨hSj w' h3.2.1,ih (listed.setIfInBounds j true) a' w' (by simp[hsz]) (hcl.set hj) hfree' (ready_mono hr (Ne.symm hji)) h3.1 (hSj w' h3.2.1) ?_⟩) h2
    rw[Array.setIfInBounds_comm _ _ hji]
    exact h3.2.2
def we_(ops:Array Oper)(listed:Array Bool):Bool:=(List.range ops.size).all fun j=>match ops[j]? with|some o=>!listed.getD j false||o.after.all (fun e=>!Region.binds .any e||listed.getD e.on false)|none=>true
theorem vc_{listed:Array Bool}(h:we_ ops listed=true):Closed ops listed:=by
 intro j oj hj hl e he hb
 have:=zzh_.1 h j (List.mem_range.2 (zzm_.1 hj).1)
 rw[hj]at this
 simp only[hl,Bool.not_true,Bool.false_or]at this
 have:=Array.all_eq_true'.1 this e he
 simpa[hb] using this
theorem ty_{i:Nat}{oi:Oper}{v:Value}{f:Nat}{listed:Array Bool}{a:Act}{w:World}(hi:ops[i]?=some oi)(hit:i≠t)
 (hs:Region.noSelect ops=true) (hf:Region.free .any ops listed i=true) (hr:(Region.ready .any ops listed).contains i=true) (hc:we_ ops listed=true) (hsz:listed.size=ops.size)
 (hQ:∀c a w,Q (.panic c) (a.put oi.dst v) w->Q (.panic c) a w) (hw:Region.wanted oi (yielded ops a.tmps)=true) (hy:∀w,(execOp a.eval oi).run P w=.ok (.value v) w) (hS:listed.getD t true=false->S w)
 (h:zw_ P ops Q S t f (listed.setIfInBounds i true) (a.put oi.dst v) w):zw_ P ops Q S t (f+1) listed a w :=
 v7_ (Si:=fun _=>True) hi hit (Region.noSelect_spec hs) hQ (fun _ _ _ _ _ _=>trivial) f listed a w hsz (vc_ hc) (Region.free_spec hi hf) (by simpa using hr) (.inl ⟨hw,fun w _=>hy w⟩) hS h
theorem tx_{i:Nat}{oi:Oper}{v:Value}{f:Nat}{listed:Array Bool}{a:Act}{w:World}(hi:ops[i]?=some oi)(hit:i≠t)
 (hs:Region.noSelect ops=true) (hf:Region.free .any ops listed i=true) (hr:(Region.ready .any ops listed).contains i=true) (hc:we_ ops listed=true) (hwt:decide (t<ops.size)&&(ps_ ops 4 [t]).contains i=true) (hsz:listed.size=ops.size)
 (hQ:∀c a w,Q (.panic c) (a.put oi.dst v) w->Q (.panic c) a w) (hw:Region.wanted oi (yielded ops a.tmps)=true) (hy:∀w,S w->(execOp a.eval oi).run P w=.ok (.value v) w) (hS:listed.getD t true=false->S w)
 (h:zw_ P ops Q S t f (listed.setIfInBounds i true) (a.put oi.dst v) w):zw_ P ops Q S t (f+1) listed a w:=by
 simp only[zzg_,zzp_]at hwt
 refine v7_ (Si:=S) hi hit (Region.noSelect_spec hs) hQ (fun listed' w' hsz' hcl hun hSw=>hSw ?_) f listed a w hsz (vc_ hc) (Region.free_spec hi hf) (by simpa using hr) (.inl ⟨hw,hy⟩) hS h
 cases e:listed'.getD t true with
 |false=>rfl
 | true =>
   exfalso
   have htl:t<listed'.size:=by omega
   have e':listed'.getD t false=true:=by rw[Array.getD,dif_pos htl]at e ⊢;exact e
   have hm:=tA_ hcl 4 [t] (fun x hx=>by rw[List.mem_singleton.1 hx];exact e') i (by simpa using hwt.2)
   have hil:i<listed'.size:=by
    rcases yym_ i listed'.size with h|h
    .exact h
    .rw[Array.getD,dif_neg (by omega)]at hm;cases hm
   rw[Array.getD,dif_pos hil]at hm hun
   rw[hm]at hun
   cases hun
theorem qC_{rs:List Nat}{f:Nat}{listed:Array Bool}{a:Act}{w:World}(hr:Region.ready .any ops listed=rs)(hne:rs≠[])
 (h:∀i∈rs,wpOp P ops Q i (fun a' w'=>((listed.setIfInBounds i true).getD t true=false->S w')/\zw_ P ops Q S t f (listed.setIfInBounds i true) a' w') a w):zw_ P ops Q S t (f+1) listed a w :=
 ⟨fun h0=>absurd (hr ▸ h0) hne,hr ▸ h⟩
def AllG(P:Program)(ops:Array Oper)(Q:Exit->Act->World->Prop)(S:World->Prop)(t:Nat)(f:Nat)(listed:Array Bool)(a:Act)(w:World)(rs:List Nat):Prop :=
 ∀i∈rs,wpOp P ops Q i (fun a' w'=>((listed.setIfInBounds i true).getD t true=false->S w')/\zw_ P ops Q S t f (listed.setIfInBounds i true) a' w') a w
theorem AllG.nil{f:Nat}{listed:Array Bool}{a:Act}{w:World}:AllG P ops Q S t f listed a w []:=fun _ h=>by cases h
theorem AllG.cons{f:Nat}{listed:Array Bool}{a:Act}{w:World}{i:Nat}{o:Oper}{rs:List Nat}(ho:ops[i]?=some o)
 (h:∀K':Act->World->Prop,Shut (∀a w,((listed.setIfInBounds i true).getD t true=false->S w)->zw_ P ops Q S t f (listed.setIfInBounds i true) a w->K' a w)->if Region.wanted o (yielded ops a.tmps)=true then Oper.wp P o a w K' Q else K' (a.put o.dst undef) w)
 (hs:AllG P ops Q S t f listed a w rs):AllG P ops Q S t f listed a w (i::rs):=fun j hj=>by
 rcases List.mem_cons.1 hj with rfl|hj
 .exact wpOp_step ho (fun K' hK=>h K' (fun a w hS hW=>hK a w ⟨hS,hW⟩))
 .exact hs j hj
theorem xD_{rs:List Nat}{f:Nat}{listed:Array Bool}{a:Act}{w:World}(hr:Region.ready .any ops listed=rs)(hne:rs≠[])(h:AllG P ops Q S t f listed a w rs):zw_ P ops Q S t (f+1) listed a w:=qC_ hr hne h
theorem nK_{o:Oper}{a:Act}{w w':World}{K:Act->World->Prop}{E:Prop}{v:Value}(hg:o.guard=none)(hr:(execOp a.eval o).run P w=.ok (.value v) w')(hK:K (a.put o.dst v) w') :
 if Region.wanted o (yielded ops a.tmps)=true then Oper.wp P o a w K Q else E:=by
 have hw:Region.wanted o (yielded ops a.tmps)=true:=by simp[Region.wanted,hg]
 rw[if_pos hw]
 unfold Oper.wp
 rw[hr]
 exact hK
theorem ul_:∀(l:List Oper) (k:Nat) (listed:Array Bool) (a:Act) (w:World),(∀j,l[j]?=ops[k+j]?)->Region.seqB .any ops l.length k listed=true->(k=t\/listed.getD t true=true)->t<listed.size->wpList P ops Q l a w->zw_ P ops Q S t l.length listed a w
 |[],_,_,_,_,_,hB,_,_,h=>⟨by simpa[Region.seqB] using hB,h⟩
 | o :: l, k, listed, a, w, hl, hB, ht, hsz, h => by
   have h0:ops[k]?=some o:=by simpa using(hl 0).symm
   simp only[List.length_cons,Region.seqB,zzg_,zzp_]at hB
   refine⟨fun h1=>(by rw[hB.1]at h1;cases h1),fun i hi=>?_⟩
   rw[hB.1]at hi
   have hik:i=k:=by simpa using hi
   subst hik
   have hw:wpOp P ops Q i (wpList P ops Q l) a w:=by unfold wpOp;simp only[h0];exact h
   have hT:(listed.setIfInBounds i true).getD t true=true:=by
    by_cases e:i=t
    .subst e
     rw[Array.getD,dif_pos (by simpa using hsz)]
     simp
    .rw[getD_set_ne true e]
     exact ht.resolve_left e
   refine wpOp_mono (fun a' w' h'=>⟨fun q=>(by rw[hT]at q;cases q),?_⟩) hw
   exact ul_ l (i+1) _ a' w' (fun j=>by have:=hl (j+1);simpa[Nat.add_assoc,Nat.add_comm 1 j] using this) hB.2 (.inr hT) (by simpa using hsz) h'
theorem wc_{l r:List Oper}{i:Nat}{o:Oper}(h:l.drop i=o::r):l.toArray[i]?=some o:=by
 have:(l.drop i)[0]?=some o:=by rw[h];rfl
 simpa using this
theorem zL_{l r:List Oper}{i:Nat}{oi:Oper}{v:Value}{f:Nat}{listed:Array Bool}{a:Act}{w:World}(hi:l.drop i=oi::r)(hit:i≠t)
 (hs:Region.noSelect l.toArray=true) (hf:Region.free .any l.toArray listed i=true) (hr:(Region.ready .any l.toArray listed).contains i=true) (hc:we_ l.toArray listed=true) (hsz:listed.size=l.toArray.size)
 (hQ:∀c a w,Q (.panic c) (a.put oi.dst v) w->Q (.panic c) a w) (hw:Region.wanted oi (yielded l.toArray a.tmps)=true) (hy:∀w,(execOp a.eval oi).run P w=.ok (.value v) w) (hS:listed.getD t true=false->S w)
 (h:zw_ P l.toArray Q S t f (listed.setIfInBounds i true) (a.put oi.dst v) w):zw_ P l.toArray Q S t (f+1) listed a w :=
 ty_ (wc_ hi) hit hs hf hr hc hsz hQ hw hy hS h
theorem yk_{l r:List Oper}{i:Nat}{oi:Oper}{v:Value}{f:Nat}{listed:Array Bool}{a:Act}{w:World}(hi:l.drop i=oi::r)(hit:i≠t)
 (hs:Region.noSelect l.toArray=true) (hf:Region.free .any l.toArray listed i=true) (hr:(Region.ready .any l.toArray listed).contains i=true) (hc:we_ l.toArray listed=true) (hwt:decide (t<l.toArray.size)&&(ps_ l.toArray 4 [t]).contains i=true) (hsz:listed.size=l.toArray.size)
 (hQ:∀c a w,Q (.panic c) (a.put oi.dst v) w->Q (.panic c) a w) (hw:Region.wanted oi (yielded l.toArray a.tmps)=true) (hy:∀w,S w->(execOp a.eval oi).run P w=.ok (.value v) w) (hS:listed.getD t true=false->S w)
 (h:zw_ P l.toArray Q S t f (listed.setIfInBounds i true) (a.put oi.dst v) w):zw_ P l.toArray Q S t (f+1) listed a w :=
 tx_ (wc_ hi) hit hs hf hr hc hwt hsz hQ hw hy hS h
theorem uV_{l r:List Oper}{f:Nat}{listed:Array Bool}{a:Act}{w:World}{i:Nat}{o:Oper}{rs:List Nat}(hi:l.drop i=o::r)
 (h:∀K':Act->World->Prop,Shut (∀a w,((listed.setIfInBounds i true).getD t true=false->S w)->zw_ P l.toArray Q S t f (listed.setIfInBounds i true) a w->K' a w)->if Region.wanted o (yielded l.toArray a.tmps)=true then Oper.wp P o a w K' Q else K' (a.put o.dst undef) w)
 (hs:AllG P l.toArray Q S t f listed a w rs):AllG P l.toArray Q S t f listed a w (i::rs):=AllG.cons (wc_ hi) h hs
theorem pk_{l:List Oper}{f:Nat}{listed:Array Bool}{a:Act}{w:World}(hf:f=(l.drop t).length)(hs:Region.seqB .any l.toArray (l.drop t).length t listed=true)(hsz:t<listed.size)(h:wpList P l.toArray Q (l.drop t) a w):zw_ P l.toArray Q S t f listed a w:=by
 subst hf
 exact ul_ (l.drop t) t listed a w (fun j=>by simp[zzA_]) hs (.inl rfl) hsz h
theorem v5_{l:List Oper}{id:Nat}{a:Act}{w:World}(S:World->Prop)(t:Nat)(hm:P.follows .mixedOrders=true)(h:zw_ P l.toArray Q S t l.length (Array.replicate l.length false) a w.drew):(Code.region id l.toArray true).wp P Q a w :=
 wp_region_any hm (uk_ _ _ _ _ (by simpa using h))
end
end Go.Proofs.Ytpfjlnmnolbiaaa
