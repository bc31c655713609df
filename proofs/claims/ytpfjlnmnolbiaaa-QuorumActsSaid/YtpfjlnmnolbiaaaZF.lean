/- Parts of the proof of a law of chapter 30, put behind one another. -/
import Derived.Test.YtpfjlnmnolbiaaaZE
import Derived.WalkKit
import Derived.RegionTactic
import Derived.Deep.Draws
import Derived.Deep.RegionLaw
import Derived.Lib.Hide
import Derived.Lib.Overlaps
import Derived.Lib.AppendZerosOnto
import Derived.Laws.IdiomCopy
import Derived.Laws.Externs
import Derived.Laws.NewBlocks
import Derived.Shelf.RegionOpenPlain
import Derived.Below
import Derived.Deep.LoopGhost
import Derived.Defers
import Derived.Test.YtpfjlnmnolbiaaaZD
set_option linter.unusedVariables false
set_option maxHeartbeats 64000000
set_option maxRecDepth 100000
set_option linter.unusedSimpArgs false
namespace Go.Proofs.Ytpfjlnmnolbiaaa
open Go.RowKit Go.Proofs
theorem t5_(b:Bl)(h:b.sm):PC Try.prog 37 [b.v] (fun r=>r=b.v):=by
 refine y9_ (q:=fun r=>frT r b.v) ?_ fun x hx _=>⟨_,hx,rfl,rfl⟩
 refine zn_ c37b zp_ rfl ?_
 have b1:b.given.length<=maxLen/\b.given.length*16<=z5_:=by have:=h.1;simp[maxLen,z5_];omega
 have b2:b.queue.length<=maxLen/\b.queue.length*16<=z5_:=by have:=h.2;simp[maxLen,z5_];omega
 simp -implicitDefEqProofs [a37b,F37,Bl.v,Bl.cs,b1,b2,frT,frA,frLs,frL,immC]
def wB(b:Bl)(o:V):List V:=[.s (.int .i64 b.time),.s (.int .i64 b.qu),.s (.int .i64 b.votes),.s (.int .i64 b.fail),.s (.int .i64 b.inqd),.s (.int .i64 b.stamp.t),.s (.int .i64 b.stamp.s),.s (.bool b.using'),.list 2 (sl b.given),.own true 36 2 (sl b.queue),.s (.bool b.asked),o]
theorem nC_(l:List Sg)(h:l.length<=1000000):PC Try.prog 61 [.list 2 (sl l)] (fun r=>r=.own true 36 2 (sl l)\/(l=[]/\r=.s (.slice none 0 0))):=by
 refine zn_ c61 zp_ rfl ?_
 have b1:l.length<=maxLen/\l.length*16<=z5_:=by simp[maxLen,z5_];omega
 by_cases hn:l=[]
 .subst hn
  simp -implicitDefEqProofs [a61,F61,WO_isn]
 .have h0:l.length≠0:=by simpa using hn
  have h1:sl l≠[]:=by simpa[sl] using hn
  simp -implicitDefEqProofs [a61,F61,b1,h0,h1,WO_isn]
def xA_(b:Bl):List V:=b.cs.set 9 .no
theorem tw_(b:Bl)(h:b.sm):AC Try.prog 34 [b.v] [] (fun r bs=>r=.ptr 1 0/\bs=[xA_ b,wB b (.s (.slice none 0 0))]):=by
 have k1:=l6_ b.given h.1
 have k2:=nC_ b.queue h.2
 refine jn_ c34b zp_ rfl ?_
 simp -implicitDefEqProofs [a34b,F34,Bl.v,Bl.cs]
 refine z1_ ?_
 simp
 refine zc_ k1 (by simp) (by simp) ?_
 rintro _ rfl
 simp
 refine z1_ ?_
 simp
 refine zc_ k2 (by simp) (by simp) ?_
 rintro _ (rfl|⟨hq,rfl⟩)
 .simp[fgt,noL,vW_]
  refine zJ_ 2 ?_
  simp[wB,xA_,Bl.cs]
 .simp[hq,fgt,noL,vW_]
  refine zJ_ 2 ?_
  simp[wB,xA_,Bl.cs,hq]
theorem y2_(e:Int):PC Try.prog 32 [.s (.int .i64 e)] (fun r=>r=.tup [(⟨0,0,0,0,0,⟨0,0⟩,false,[],[],false⟩:Bl).v,.list 4 [],.s (.int .i64 e)]):=by
 refine y9_ (q:=fun r=>frT r (.tup [(⟨0,0,0,0,0,⟨0,0⟩,false,[],[],false⟩:Bl).v,.list 4 [],.s (.int .i64 e)])) ?_ fun x hx _=>⟨_,hx,rfl,rfl⟩
 refine zn_ c32 zp_ rfl ?_
 simp -implicitDefEqProofs [a32,F32,Bl.v,Bl.cs,frT,frAs,frA,frLs,frL,immC]
theorem lM_:PC Try.prog 25 [] (fun r=>r=(⟨0,0,0,0,0,⟨0,0⟩,false,[],[],false⟩:Bl).v):=by
 refine y9_ (q:=fun r=>frT r (⟨0,0,0,0,0,⟨0,0⟩,false,[],[],false⟩:Bl).v) ?_ fun x hx _=>⟨_,hx,rfl,rfl⟩
 refine zn_ c25 zp_ rfl ?_
 simp -implicitDefEqProofs [a25,F25,Bl.v,Bl.cs,frT,frAs,frA,frLs,frL,immC]
theorem kn_:PC Try.prog 26 [] (fun r=>r=(⟨0,0,0,0,0,⟨0,0⟩,false,[],[],false⟩:Bl).v):=by
 refine y9_ (q:=fun r=>frT r (⟨0,0,0,0,0,⟨0,0⟩,false,[],[],false⟩:Bl).v) ?_ fun x hx _=>⟨_,hx,rfl,rfl⟩
 refine zn_ c26 zp_ rfl ?_
 simp -implicitDefEqProofs [a26,F26,Bl.v,Bl.cs,frT,frAs,frA,frLs,frL,immC]
theorem ry_(k:Int):PC Try.prog 53 [.s (.int .i64 k)] (fun r=>r=.s (.bool (decide (1<=k/\k<=6)))):=by
 refine zn_ c53 zp_ rfl ?_
 by_cases h:1<=k
 .simp -implicitDefEqProofs [a53,F53,h]
 .simp -implicitDefEqProofs [a53,F53,h]
def oV(l:List Vt):V:=.own true 46 4 (vl l)
theorem xv_(b:Bl)(l:List Vt)(k to:Int)(hl:l.length<=1000):AC Try.prog 48 [.ptr 0 0,.s (.int .i64 k),.s (.int .i64 to)] [wB b (oV l)] (fun r bs=>r=.tup []/\bs=[wB b (oV (l++[⟨k,to,0,0⟩]))]):=by
 have b1:l.length+1<=maxLen/\(l.length+1)*32<=z5_:=by simp[maxLen,z5_];omega
 refine sM_ c48 zp_ rfl ?_
 simp -implicitDefEqProofs [a48,F48,wB,oV,b1]
 refine zJ_ 1 ?_
 simp[wB,oV,vl,Vt.v]
def tstA(s:Int)(v:Nat):Bool:=bits .and .i64 s ((2^v:Nat):Int) != 0
def tstB(s:Int)(v:Nat):Bool:=bits .and .i64 (s.fdiv ((2^v:Nat):Int)) 1==1
def mbU(s:Int)(i:Nat):List Int:=((List.range i).filter fun v=>tstA s v).map fun v:Nat=>(v:Int)
def evU(s k:Int)(x:Sg)(i:Nat):List Vt:=((List.range i).filter fun v=>tstB s v).map fun v:Nat=>⟨k,v,x.t,x.s⟩
theorem mk_(s:Int)(i:Nat):mbU s (i+1)=if tstA s i then mbU s i++[(i:Int)] else mbU s i:=by
 unfold mbU
 rw[yyv_,List.filter_append,List.map_append]
 cases e:tstA s i<;>simp[e]
theorem mE_(s k:Int)(x:Sg)(i:Nat):evU s k x (i+1)=if tstB s i then evU s k x i++[⟨k,i,x.t,x.s⟩] else evU s k x i:=by
 unfold evU
 rw[yyv_,List.filter_append,List.map_append]
 cases e:tstB s i<;>simp[e]
theorem wi_(s:Int)(i:Nat):(mbU s i).length<=i:=by
 unfold mbU
 rw[List.length_map]
 exact yyd_ (List.length_filter_le _ _) (by simp)
theorem j5_(s k:Int)(x:Sg)(i:Nat):(evU s k x i).length<=i:=by
 unfold evU
 rw[List.length_map]
 exact yyd_ (List.length_filter_le _ _) (by simp)
theorem pow9{i:Nat}(h:i<=12):(2:Int)^min i IntKind.i64.bits=((2^i:Nat):Int):=by
 rw[show min i IntKind.i64.bits=i by simp[IntKind.bits];omega];simp
def mbI(s:Int)(m:Nat)(S:St):Prop:=∃i:Nat,i+m=9/\S=⟨tmL [(5,.s (.int .i64 i))],[.s (.int .i64 s),.s (.slice none 0 0),.own true 3 1 (iv (mbU s i)),.no],[],0⟩
theorem v4_(s:Int):PC Try.prog 35 [.s (.int .i64 s)] (fun r=>r=.list 1 (iv (mbU s 9))):=by
 refine y9_ (q:=fun r=>frT r (.list 1 (iv (mbU s 9)))) ?_ fun x hx _=>⟨_,hx,rfl,rfl⟩
 refine zn_ c35 zp_ rfl ?_
 simp -implicitDefEqProofs [a35,F35]
 refine zi_ [5] [3] 0 (zzl_ _) (mbI s) 9 ⟨by simp,0,by simp,by simp[mbU,iv]⟩ ?_
 rintro m S ⟨i,hi,rfl⟩
 by_cases hm:i<9
 .have g1:(i:Int)<9:=by omega
  have g0:¬(i:Int)<0:=by omega
  have hw:=wrap64 (n:=(i:Int)+1) (by omega)
  have hsh:=shl1 (n:=i) (by omega)
  have h2n:=pow9 (i:=i) (by omega)
  have hlen:=wi_ s i
  have b1:(mbU s i).length+1<=maxLen/\((mbU s i).length+1)*8<=z5_:=by simp[maxLen,z5_];omega
  have hs:=mk_ s i
  have hbit:tstA s i=(bits .and .i64 s ((2^i:Nat):Int) != 0):=rfl
  rw[h2n]at hsh
  generalize mbU s i=out at hs b1 hlen
  generalize ((2^i:Nat):Int)=p at hsh hbit h2n
  cases hb:tstA s i
  .rw[hb]at hs hbit
   simp[g1,g0,h2n,hsh,↓z4_,<-hbit,hw]
   exact⟨m-1,by omega,i+1,by omega,by rw[hs];simp⟩
  .rw[hb]at hs hbit
   simp[g1,g0,h2n,hsh,↓z4_,<-hbit,b1,hw]
   exact⟨m-1,by omega,i+1,by omega,by rw[hs];simp[iv]⟩
 .have g1:¬(i:Int)<9:=by omega
  have e:i=9:=by omega
  subst e
  simp[frT,frAs,frA,frLs,frL,immC]
def evI(s k:Int)(x:Sg)(m:Nat)(S:St):Prop:=∃i:Nat,i+m=9/\S=⟨tmL [(5,.ptr 0 0)],[.s (.int .i64 s),.s (.int .i64 k),x.v,.s (.slice none 0 0),.own true 46 4 (vl (evU s k x i)),.s (.int .i64 i)],[[.s (.int .i64 x.t),.s (.int .i64 x.s)]],0⟩
theorem rs_(s k:Int)(x:Sg):PC Try.prog 38 [.s (.int .i64 s),.s (.int .i64 k),x.v] (fun r=>r=.list 4 (vl (evU s k x 9))):=by
 refine y9_ (q:=fun r=>frT r (.list 4 (vl (evU s k x 9)))) ?_ fun x hx _=>⟨_,hx,rfl,rfl⟩
 refine zn_ c38 zp_ rfl ?_
 simp -implicitDefEqProofs [a38,F38,Sg.v]
 refine zi_ [5] [] 1 (by simp) (evI s k x) 9 ⟨by simp,0,by simp,by simp[evU,vl,Sg.v]⟩ ?_
 rintro m S ⟨i,hi,rfl⟩
 by_cases hm:i<9
 .have g1:(i:Int)<9:=by omega
  have g0:¬(i:Int)<0:=by omega
  have hw:=wrap64 (n:=(i:Int)+1) (by omega)
  have h2n:=pow9 (i:=i) (by omega)
  have hlen:=j5_ s k x i
  have b1:(evU s k x i).length+1<=maxLen/\((evU s k x i).length+1)*32<=z5_:=by simp[maxLen,z5_];omega
  have hs:=mE_ s k x i
  have hbit:tstB s i=(bits .and .i64 (s.fdiv ((2^i:Nat):Int)) 1==1):=rfl
  generalize evU s k x i=out at hs b1 hlen
  generalize ((2^i:Nat):Int)=p at hbit h2n
  cases hb:tstB s i
  .rw[hb]at hs hbit
   simp[g1,g0,h2n,↓z4_,<-hbit,hw,Sg.v]
   exact⟨m-1,by omega,i+1,by omega,by rw[hs];simp[Sg.v]⟩
  .rw[hb]at hs hbit
   simp[g1,g0,h2n,↓z4_,<-hbit,b1,hw,Sg.v]
   exact⟨m-1,by omega,i+1,by omega,by rw[hs];simp[vl,Vt.v,Sg.v]⟩
 .have g1:¬(i:Int)<9:=by omega
  have e:i=9:=by omega
  subst e
  simp[Sg.v,frT,frAs,frA,frLs,frL,immC]
theorem tz_(a b:Bl)(h:a.sm):PC Try.prog 17 [a.v,b.v] (fun r=>r=.s (.bool (decide (a=b)))):=by
 have k1:=rV_ a.given b.given h.1
 have k2:=rV_ a.queue b.queue h.2
 refine zn_ c17 zp_ rfl ?_
 cases e0:(a.time==b.time)
 case' false =>
  have nk:¬a=b:=fun q=>by subst q;simp at e0
  simp -implicitDefEqProofs [a17,F17,Bl.v,Bl.cs,eqCs,eqC,nk,e0]
 cases e1:(a.qu==b.qu)
 case' false =>
  have nk:¬a=b:=fun q=>by subst q;simp at e1
  simp -implicitDefEqProofs [a17,F17,Bl.v,Bl.cs,eqCs,eqC,nk,e0,e1]
 cases e2:(a.votes==b.votes)
 case' false =>
  have nk:¬a=b:=fun q=>by subst q;simp at e2
  simp -implicitDefEqProofs [a17,F17,Bl.v,Bl.cs,eqCs,eqC,nk,e0,e1,e2]
 cases e3:(a.fail==b.fail)
 case' false =>
  have nk:¬a=b:=fun q=>by subst q;simp at e3
  simp -implicitDefEqProofs [a17,F17,Bl.v,Bl.cs,eqCs,eqC,nk,e0,e1,e2,e3]
 cases e4:(a.inqd==b.inqd)
 case' false =>
  have nk:¬a=b:=fun q=>by subst q;simp at e4
  simp -implicitDefEqProofs [a17,F17,Bl.v,Bl.cs,eqCs,eqC,nk,e0,e1,e2,e3,e4]
 cases e5:(a.stamp.t==b.stamp.t)
 case' false =>
  have nk:¬a=b:=fun q=>by subst q;simp at e5
  simp -implicitDefEqProofs [a17,F17,Bl.v,Bl.cs,eqCs,eqC,nk,e0,e1,e2,e3,e4,e5]
 cases e6:(a.stamp.s==b.stamp.s)
 case' false =>
  have nk:¬a=b:=fun q=>by subst q;simp at e6
  simp -implicitDefEqProofs [a17,F17,Bl.v,Bl.cs,eqCs,eqC,nk,e0,e1,e2,e3,e4,e5,e6]
 cases e7:(a.using'==b.using')
 case' false =>
  have nk:¬a=b:=fun q=>by subst q;simp at e7
  simp -implicitDefEqProofs [a17,F17,Bl.v,Bl.cs,eqCs,eqC,nk,e0,e1,e2,e3,e4,e5,e6,e7]
 cases e8:(a.asked==b.asked)
 case' false =>
  have nk:¬a=b:=fun q=>by subst q;simp at e8
  simp -implicitDefEqProofs [a17,F17,Bl.v,Bl.cs,eqCs,eqC,nk,e0,e1,e2,e3,e4,e5,e6,e7,e8]
 simp -implicitDefEqProofs [a17,F17,Bl.v,Bl.cs,eqCs,eqC,e0,e1,e2,e3,e4,e5,e6,e7,e8]
 refine z1_ ?_
 simp
 refine zc_ k1 (by simp) (by simp) ?_
 rintro _ rfl
 by_cases h1:a.given=b.given
 case neg =>
  have nk:¬a=b:=fun q=>by subst q;exact h1 rfl
  simp[h1,nk]
 simp[h1]
 refine z1_ ?_
 simp
 refine zc_ k2 (by simp) (by simp) ?_
 rintro _ rfl
 by_cases h2:a.queue=b.queue
 case neg =>
  have nk:¬a=b:=fun q=>by subst q;exact h2 rfl
  simp[h2,nk]
 have eq:a=b:=by
  obtain⟨a0,a1,a2,a3,a4,⟨a5,a6⟩,a7,a8,a9,a10⟩:=a
  obtain⟨b0,b1,b2,b3,b4,⟨b5,b6⟩,b7,b8,b9,b10⟩:=b
  simp at e0 e1 e2 e3 e4 e5 e6 e7 e8 h1 h2
  simp[e0,e1,e2,e3,e4,e5,e6,e7,e8,h1,h2]
 simp[h2,eq]
theorem z2_(k:IntKind)(a b:Int):binS .andNot (.int k a) (.int k b)=some (.int k (bits .andNot k a b)):=by simp only[binS,if_true];rfl
def aokB(b:Bl):Bool:=!(bits .andNot .i64 (bits .or .i64 (bits .or .i64 b.votes b.fail) b.inqd) b.qu != 0)&&!(bits .and .i64 b.fail b.votes != 0)&&!(bits .andNot .i64 b.inqd b.votes != 0)
def aok(q:List Int)(site:Int)(b:Bl):Bool :=
 if b.qu=0 then aokB b&&(b.stamp.t==0&&b.stamp.s==0&&!b.using')
 else decide (b.qu∈q)&&aokB b&&!(b.stamp.s != site)&&decide (1<=b.stamp.t)&&decide (b.stamp.t<=b.time)&&(b.using'==(b.votes==b.qu))&&(!b.using'||b.inqd==0)
theorem pI_(b:Bl)(n:Int)(q:List Int)(site:Int)(hq:q.length<=1000000):PC Try.prog 42 [b.v,cP n q,.s (.int .i64 site)] (fun r=>r=.s (.bool (aok q site b))):=by
 have k:=ue_ q b.qu hq
 refine zn_ c42 zp_ rfl ?_
 by_cases hz:b.qu=0
 .have e1:(b.qu != 0)=false:=by simpa using hz
  have e2:(b.qu==0)=true:=by simpa using hz
  cases h2:(bits .andNot .i64 (bits .or .i64 (bits .or .i64 b.votes b.fail) b.inqd) b.qu != 0)
  case' true =>
   have ha:aokB b=false:=by simp only[aokB,h2];rfl
   have hR:aok q site b=false:=by simp[aok,hz,ha]
   simp -implicitDefEqProofs [a42,F42,Bl.v,Bl.cs,cP,e1,e2,↓z4_,↓zb_,↓z2_,h2,hR]
  cases h3:(bits .and .i64 b.fail b.votes != 0)
  case' true =>
   have ha:aokB b=false:=by simp only[aokB,h2,h3];rfl
   have hR:aok q site b=false:=by simp[aok,hz,ha]
   simp -implicitDefEqProofs [a42,F42,Bl.v,Bl.cs,cP,e1,e2,↓z4_,↓zb_,↓z2_,h2,h3,hR]
  cases h4:(bits .andNot .i64 b.inqd b.votes != 0)
  case' true =>
   have ha:aokB b=false:=by simp only[aokB,h2,h3,h4];rfl
   have hR:aok q site b=false:=by simp[aok,hz,ha]
   simp -implicitDefEqProofs [a42,F42,Bl.v,Bl.cs,cP,e1,e2,↓z4_,↓zb_,↓z2_,h2,h3,h4,hR]
  have ha:aokB b=true:=by simp only[aokB,h2,h3,h4];rfl
  cases s1:(b.stamp.t==0)
  .have hR:aok q site b=false:=by simp only[aok,if_pos hz,ha,s1];rfl
   simp -implicitDefEqProofs [a42,F42,Bl.v,Bl.cs,cP,e1,e2,↓z4_,↓zb_,↓z2_,h2,h3,h4,hR,eqCs,eqC,s1]
  cases s2:(b.stamp.s==0)
  .have hR:aok q site b=false:=by simp only[aok,if_pos hz,ha,s1,s2];rfl
   simp -implicitDefEqProofs [a42,F42,Bl.v,Bl.cs,cP,e1,e2,↓z4_,↓zb_,↓z2_,h2,h3,h4,hR,eqCs,eqC,s1,s2]
  .have hR:aok q site b=!b.using':=by simp only[aok,if_pos hz,ha,s1,s2];simp
   simp -implicitDefEqProofs [a42,F42,Bl.v,Bl.cs,cP,e1,e2,↓z4_,↓zb_,↓z2_,h2,h3,h4,hR,eqCs,eqC,s1,s2]
 .have e1:(b.qu != 0)=true:=by simpa using hz
  have e2:(b.qu==0)=false:=by simpa using hz
  simp -implicitDefEqProofs [a42,F42,Bl.v,Bl.cs,cP,e1]
  refine z1_ ?_
  simp
  refine zc_ k (by simp) (by simp) ?_
  rintro _ rfl
  by_cases hm:b.qu∈q
  case neg=>simp -implicitDefEqProofs [hm,aok,hz]
  cases h2:(bits .andNot .i64 (bits .or .i64 (bits .or .i64 b.votes b.fail) b.inqd) b.qu != 0)
  case' true =>
   have ha:aokB b=false:=by simp only[aokB,h2];rfl
   simp[hm,e2,↓z4_,↓zb_,↓z2_,h2,aok,hz,ha]
  cases h3:(bits .and .i64 b.fail b.votes != 0)
  case' true =>
   have ha:aokB b=false:=by simp only[aokB,h2,h3];rfl
   simp[hm,e2,↓z4_,↓zb_,↓z2_,h2,h3,aok,hz,ha]
  cases h4:(bits .andNot .i64 b.inqd b.votes != 0)
  case' true =>
   have ha:aokB b=false:=by simp only[aokB,h2,h3,h4];rfl
   simp[hm,e2,↓z4_,↓zb_,↓z2_,h2,h3,h4,aok,hz,ha]
  have ha:aokB b=true:=by simp only[aokB,h2,h3,h4];rfl
  cases s1:(b.stamp.s != site)
  case' true=>simp -implicitDefEqProofs [hm,e2,↓z4_,↓zb_,↓z2_,h2,h3,h4,aok,hz,ha,s1]
  by_cases s2:b.stamp.t<1
  case pos =>
   have s2':¬1<=b.stamp.t:=by omega
   simp[hm,e2,↓z4_,↓zb_,↓z2_,h2,h3,h4,aok,hz,ha,s1,s2,s2']
  have s2':1<=b.stamp.t:=by omega
  by_cases s3:b.time<b.stamp.t
  case pos =>
   have s3':¬b.stamp.t<=b.time:=by omega
   simp[hm,e2,↓z4_,↓zb_,↓z2_,h2,h3,h4,aok,hz,ha,s1,s2,s3,s3']
  have s3':b.stamp.t<=b.time:=by omega
  cases s4:(b.votes==b.qu)<;>cases s5:b.using'<;>cases s6:(b.inqd==0)
  all_goals simp -implicitDefEqProofs [hm,e2,↓z4_,↓zb_,↓z2_,h2,h3,h4,aok,hz,ha,s1,s2,s2',s3,s3',s4,s5,s6]
theorem h3_{P:Program}{F:Fr}{n:Nat}{x y:ACode}{S:St}{Q:AX->St->Prop}(Mid:St->Prop)(h1:W P F n x S (fun e S'=>e=.normal/\Mid S'))(h2:∀S',Mid S'->W P F n y S' Q):W P F n x S (sq P F n y Q) :=
 pB_ x (fun e S' ⟨he,hm⟩=>by subst he;exact h2 S' hm) h1
def sb(x:Sg):Int:=((2^x.s.toNat:Nat):Int)
def sck(n:Int):Int->List Sg->Option Int
 |seen,[]=>some seen
 |seen,x::r=>if prp n x&&!(bits .and .i64 seen (sb x) != 0) then sck n (bits .or .i64 seen (sb x)) r else none
theorem wY_(n:Int):∀(l k:List Sg) (s:Int),sck n s (l++k)=(sck n s l).bind fun z=>sck n z k
 |[],k,s=>rfl
 | x :: l, k, s => by
   rw[List.cons_append]
   simp only[sck]
   split
   .exact wY_ n l k _
   .rfl
theorem nQ_{n s z:Int}{l:List Sg}{i:Nat}(h:i<l.length)(hz:sck n s (l.take i)=some z):sck n s (l.take (i+1))=if prp n l[i]&&!(bits .and .i64 z (sb l[i]) != 0) then some (bits .or .i64 z (sb l[i])) else none:=by
 rw[yyw_,zzf_ h,wY_,hz]
 simp only[zzt_,Option.toList_some]
 unfold sck
 split<;>rfl
theorem rU_{n s:Int}{l:List Sg}{i:Nat}(hz:sck n s (l.take i)=none):sck n s l=none:=by
 have e:l=l.take i++l.drop i:=by simp
 rw[e,wY_,hz];rfl
def ascS:List Sg->Bool
 |a::b::r=>decide (cmpS a b<0)&&ascS (b::r)
 |_=>true
theorem wO_:∀ {l:List Sg},ascS l=true↔∀(i:Nat) (h:i+1<l.length),cmpS l[i] l[i+1]<0
 |[]=>by simp[ascS]
 |[a]=>by simp[ascS]
 | a :: b :: r => by
   unfold ascS
   rw[zzg_,zzp_,wO_]
   constructor
   .rintro⟨h1,h2⟩ i hi
    cases i with
    |zero=>exact h1
    |succ i=>exact h2 i (by simpa using hi)
   .intro h
    exact⟨h 0 (by simp),fun i hi=>h (i+1) (by simpa using hi)⟩
def vok(n:Int)(b:Bl):Bool:=decide (b.given.length<=1)&&!(b.given.isEmpty&&!b.queue.isEmpty)&&!(b.asked&&b.queue.isEmpty)&&(sck n 0 (b.given++b.queue)).isSome&&ascS b.queue
def vC(n:Int)(q:List Int):List V:=[.s (.int .i64 n),.list 1 (iv q)]
def voL(b:Bl)(k:Nat):List Sg:=if k=0 then b.given else b.queue
def voP(b:Bl)(k:Nat):List Sg:=if k=0 then [] else if k=1 then b.given else b.given++b.queue
def voO(b:Bl)(n:Int)(q:List Int)(m:Nat)(S:St):Prop:=∃(k:Nat) (z:Int),k+m=2/\sck n 0 (voP b k)=some z /\
 S=⟨tmL [(2,.ptr 0 0),(3,.ptr 1 0),(41,.agg [.list 2 (sl b.given),.list 2 (sl b.queue)]),(42,.s (.int .i64 k))],[b.v,cP n q,.s (.bool false),.s (.int .i64 z),.no,.no],[b.cs,vC n q],0⟩
def voI(b:Bl)(n:Int)(q:List Int)(k:Nat)(z0:Int)(m:Nat)(S:St):Prop:=∃(i:Nat) (z:Int),i+m=(voL b k).length/\sck n z0 ((voL b k).take i)=some z /\
 S=⟨tmL [(2,.ptr 0 0),(3,.ptr 1 0),(41,.agg [.list 2 (sl b.given),.list 2 (sl b.queue)]),(42,.s (.int .i64 k)),(45,.list 2 (sl (voL b k))),(46,.s (.int .i64 (voL b k).length)),(47,.s (.int .i64 i))],[b.v,cP n q,.s (.bool false),.s (.int .i64 z),.no,.no],[b.cs,vC n q],0⟩
def voA(b:Bl)(n:Int)(q:List Int)(m:Nat)(S:St):Prop:=∃(i:Nat) (z:V),i+m=b.queue.length+1/\1<=i/\(∀(j:Nat) (h:j+1<b.queue.length),j+1<i->cmpS b.queue[j] b.queue[j+1]<0) /\
 S=⟨tmL [(2,.ptr 0 0)],[b.v,cP n q,.s (.bool false),.no,.no,.s (.int .i64 i)],[b.cs,vC n q],0⟩
def MidV(b:Bl)(n:Int)(q:List Int)(S:St):Prop:=∃(tm:Nat->V) (e:Nat),tm 2=.ptr 0 0/\tm 3=.ptr 1 0/\S=⟨tm,[b.v,cP n q,.s (.bool false),.no,.no,.no],[b.cs,vC n q],e⟩
theorem pH_(b:Bl)(n:Int)(q:List Int)(hn:n<=9)(hb:b.sm):PC Try.prog 43 [b.v,cP n q] (fun r=>r=.s (.bool (vok n b))):=by
 have hg:=hb.1
 have hqu:=hb.2
 refine zn_ c43b zp_ rfl ?_
 simp -implicitDefEqProofs [a43b,F43,Bl.v,Bl.cs,cP]
 by_cases hh:b.given.length<=1/\¬(b.given=[]/\b.queue≠[])/\¬(b.asked=true/\b.queue=[])
 case neg =>
  have hR:vok n b=false:=by
   unfold vok
   cases e1:decide (b.given.length<=1)
   .simp
   .have e1':=of_decide_eq_true e1
    cases hgv:b.given with
    | nil =>
      cases hqv:b.queue with
      | nil =>
        have:b.asked=true:=by
         cases e:b.asked
         .exact absurd ⟨e1',by simp[hqv],by simp[e]⟩ hh
         .rfl
        simp[this]
      |cons x r=>simp
    | cons g r =>
      cases hqv:b.queue with
      | nil =>
        have:b.asked=true:=by
         cases e:b.asked
         .exact absurd ⟨e1',by simp[hgv],by simp[e]⟩ hh
         .rfl
        simp[this]
      |cons x r=>exact absurd ⟨e1',by simp[hgv],by simp[hqv]⟩ hh
  by_cases g1:b.given.length<=1
  case neg =>
   have g2:(1:Int)<(b.given.length:Int):=by omega
   simp -implicitDefEqProofs [a43h,g2,hR]
  have g2:¬(1:Int)<(b.given.length:Int):=by omega
  by_cases hq0:b.queue=[]
  ·have ha:b.asked=true:=by
    cases e:b.asked
    .exact absurd ⟨g1,by simp[hq0],by simp[e]⟩ hh
    .rfl
   cases hgz:((b.given.length:Int)==0)
   .simp -implicitDefEqProofs [a43h,g2,hq0,ha,hgz,hR]
   .simp -implicitDefEqProofs [a43h,g2,hq0,ha,hgz,hR]
  ·have hg0:b.given=[]:=by
    cases e:b.given with
    |nil=>rfl
    |cons g r=>exact absurd ⟨g1,by simp[e],by simp[hq0]⟩ hh
   have hqp:0<b.queue.length:=List.length_pos_iff.2 hq0
   simp -implicitDefEqProofs [a43h,hg0,hqp,hR]
 obtain⟨h1,h2,h3⟩:=hh
 refine h3_ (MidV b n q) ?_ ?_
 .obtain⟨b0,b1,b2,b3,b4,⟨b5,b6⟩,b7,gv,qv,ak⟩:=b
  simp only at h1 h2 h3
  have g2:¬(1:Int)<(gv.length:Int):=by omega
  cases qv with
  | nil =>
    cases ak with
    |true=>exact absurd ⟨rfl,rfl⟩ h3
    | false =>
      cases hgz:((gv.length:Int)==0)
      .simp -implicitDefEqProofs [a43h,g2,hgz]
       refine⟨_,_,?_,?_,rfl⟩<;>simp
      .simp -implicitDefEqProofs [a43h,g2,hgz]
       refine⟨_,_,?_,?_,rfl⟩<;>simp
  | cons x r =>
    have hgz:((gv.length:Int)==0)=false:=by
     cases e:gv with
     |nil=>exact absurd ⟨e,by simp⟩ h2
     |cons g r=>simp;omega
    have hqz:(((r.length:Int)+1)==0)=false:=by simp;omega
    cases ak
    .simp -implicitDefEqProofs [a43h,g2,hgz,hqz]
     refine⟨_,_,?_,?_,rfl⟩<;>simp
    .simp -implicitDefEqProofs [a43h,g2,hgz,hqz]
     refine⟨_,_,?_,?_,rfl⟩<;>simp
 rintro S ⟨tm,e,t2,t3,rfl⟩
 have hv:vok n b=((sck n 0 (b.given++b.queue)).isSome&&ascS b.queue):=by
  unfold vok
  have e1:decide (b.given.length<=1)=true:=decide_eq_true h1
  have e2:(b.given.isEmpty&&!b.queue.isEmpty)=false:=by
   cases hgv:b.given<;>cases hqv:b.queue<;>simp
   exact h2 ⟨hgv,by simp[hqv]⟩
  have e3:(b.asked&&b.queue.isEmpty)=false:=by
   cases ha:b.asked<;>cases hqv:b.queue<;>simp
   exact h3 ⟨ha,hqv⟩
  rw[e1,e2,e3]
  simp
 have hbad:∀(k:Nat) (z0:Int),k<2->sck n 0 (voP b k)=some z0->sck n z0 (voL b k)=none->vok n b=false:=by
  intro k z0 hk hz hn0
  rw[hv]
  have:sck n 0 (b.given++b.queue)=none:=by
   have hc:k=0\/k=1:=by omega
   rcases hc with rfl|rfl
   .simp[voP,sck]at hz
    subst hz
    have hn0:sck n 0 b.given=none:=hn0
    rw[wY_,hn0];rfl
   .have hz:sck n 0 b.given=some z0:=hz
    have hn0:sck n z0 b.queue=none:=hn0
    rw[wY_,hz];exact hn0
  rw[this];rfl
 simp[t2,t3,Bl.v,Bl.cs,cP,vC]
 refine zi_ [2,3,41,42] [4,5] 2 (by simp) (voO b n q) 2 ⟨by simp[t2,t3],0,0,by simp,by simp[voP,sck],by simp[t2,t3,Bl.v,Bl.cs,cP,vC]⟩ ?_
 clear t2 t3
 rintro m S ⟨k,z,hk,hz,rfl⟩
 by_cases hk2:k<2
 .have hkw:IntKind.i64.wrap ((k:Int)+1)=(k:Int)+1:=wrap64 (by omega)
  have hk1:(k:Int)<2:=by omega
  have hL:(voL b k).length<=1000000:=by unfold voL;split<;>assumption
  have hidx:exV (.idx 2 1 false) (.agg [.list 2 (sl b.given),.list 2 (sl b.queue)]) (.s (.int .i64 k))=some (.list 2 (sl (voL b k))):=by
   have hc:k=0\/k=1:=by omega
   rcases hc with rfl|rfl<;>simp[exV,voL]
  simp[hk1,-exV,hidx,Bl.v,Bl.cs,cP,vC]
  refine zi_ [2,3,41,42,45,46,47] [4,5] 2 (by simp) (voI b n q k z) (voL b k).length ⟨by simp,0,z,by simp,by simp[sck],by simp[Bl.v,Bl.cs,cP,vC]⟩ ?_
  rintro m' S ⟨i,zi,hi,hzi,rfl⟩
  by_cases hil:i<(voL b k).length
  .have g1:(i:Int)<((voL b k).length:Int):=by omega
   have g0:¬(i:Int)<0:=by omega
   have hw:IntKind.i64.wrap ((i:Int)+1)=(i:Int)+1:=wrap64 (by omega)
   have hst:=nQ_ hil hzi
   have kP:=s9_ n q (voL b k)[i]
   simp[g1,g0,yI_ hil,Sg.v,Bl.v,Bl.cs,cP,vC]
   refine z1_ ?_
   simp
   refine zc_ kP (by simp[Sg.v,cP]) (by simp[Sg.v,cP]) ?_
   rintro _ rfl
   cases hp:prp n (voL b k)[i]
   .have hR:=hbad k z hk2 hz (rU_ (i:=i+1) (by rw[hst,hp];rfl))
    simp[hR]
   ·have hr:0≤(voL b k)[i].s∧(voL b k)[i].s<9:=by
     unfold prp vtr at hp
     simp only[zzg_,zzp_]at hp
     omega
    have s0:¬(voL b k)[i].s<0:=by omega
    have hsh:IntKind.i64.wrap ((2:Int)^min (voL b k)[i].s.toNat IntKind.i64.bits)=sb (voL b k)[i]:=shl1 (by omega)
    cases hbt:(bits .and .i64 zi (sb (voL b k)[i]) != 0)
    .rw[hp,hbt]at hst
     simp[s0,hsh,↓z4_,↓zb_,hbt,hw]
     exact⟨m'-1,by omega,i+1,_,by omega,hst,by simp[Bl.v,Bl.cs,cP,vC]⟩
    .have hR:=hbad k z hk2 hz (rU_ (i:=i+1) (by rw[hst,hp,hbt];rfl))
     simp[s0,hsh,↓z4_,hbt,hR]
  .have g1:¬(i:Int)<((voL b k).length:Int):=by omega
   rw[zzx_ (by omega)]at hzi
   simp[g1,hkw,Bl.v,Bl.cs,cP,vC]
   refine⟨m-1,by omega,k+1,zi,by omega,?_,by simp[Bl.v,Bl.cs,cP,vC]⟩
   have hc:k=0\/k=1:=by omega
   rcases hc with rfl|rfl
   .simp[voP,sck]at hz
    subst hz
    exact hzi
   .have hz:sck n 0 b.given=some z:=hz
    show sck n 0 (b.given++b.queue)=some zi
    rw[wY_,hz];exact hzi
 .have hk1:¬(k:Int)<2:=by omega
  have hk3:k=2:=by omega
  have hz2:sck n 0 (b.given++b.queue)=some z:=by subst hk3;exact hz
  simp[hk1,Bl.v,Bl.cs,cP,vC]
  refine zi_ [2] [3,4] 2 (by simp) (voA b n q) b.queue.length ⟨by simp,1,.no,by omega,by omega,fun j h hj=>by omega,by simp[Bl.v,Bl.cs,cP,vC]⟩ ?_
  rintro m' S ⟨i,z',hi,hi1,hx,rfl⟩
  by_cases hil:i<b.queue.length
  .obtain⟨i0,rfl⟩:∃i0,i=i0+1:=⟨i-1,by omega⟩
   have g1:(i0:Int)+1<(b.queue.length:Int):=by omega
   have g0:¬(i0:Int)+1<0:=by omega
   have g4:¬(i0:Int)<0:=by omega
   have g5:(i0:Int)<(b.queue.length:Int):=by omega
   have hw:IntKind.i64.wrap ((i0:Int)+1+1)=(i0:Int)+1+1:=wrap64 (by omega)
   have hw2:IntKind.i64.wrap ((i0:Int)+1-1)=(i0:Int):=by rw[wrap64 (by omega)];omega
   have hw3:IntKind.i64.wrap (i0:Int)=(i0:Int):=wrap64 (by omega)
   have hil2:i0<b.queue.length:=by omega
   have hin:((i0:Int)+1).toNat=i0+1:=by omega
   have kC:=uR_ b.queue[i0] b.queue[i0+1]
   simp[g1,g0,Bl.v,Bl.cs,cP,vC,hw2,hw3,g4,g5,hin,yI_ hil,yI_ hil2,Sg.v]
   refine zB_ ?_
   simp
   refine y8_ kC (by simp[Sg.v]) (by simp[Sg.v]) ?_
   by_cases hc:0<=cmpS b.queue[i0] b.queue[i0+1]
   ·have ha:ascS b.queue=false:=by
     cases e:ascS b.queue
     .rfl
     .have:=wO_.1 e i0 hil
      omega
    have hR:vok n b=false:=by rw[hv,ha];simp
    simp[hc,hR]
   .simp[hc,hw,Bl.v,Bl.cs,cP,vC]
    refine⟨m'-1,by omega,i0+1+1,.no,by omega,by omega,fun j h hj=>?_,by simp[Bl.v,Bl.cs,cP,vC]⟩
    by_cases hj2:j+1<i0+1
    .exact hx j h hj2
    .have:j=i0:=by omega
     subst this
     omega
  .have g1:¬(i:Int)<(b.queue.length:Int):=by omega
   have ha:ascS b.queue=true:=wO_.2 fun j hj=>hx j hj (by omega)
   have hR:vok n b=true:=by rw[hv,hz2,ha];rfl
   simp[g1,hR,Bl.v,Bl.cs,cP,vC]
noncomputable def bOk(n:Int)(q:List Int)(site:Int)(b:Bl):Bool:=okB n q&&vtr n site&&decide (0<=b.time)&&decide (b.time<=1073741824)&&aok q site b&&vok n b
theorem yV_(b:Bl)(n:Int)(q:List Int)(site:Int)(hq:q.length<=1000)(hb:b.sm):PC Try.prog 19 [b.v,cP n q,.s (.int .i64 site)] (fun r=>r=.s (.bool (bOk n q site b))):=by
 have k1:=l3_ n q (by omega)
 have k2:=v7_ n q site
 have k3:=pI_ b n q site (by omega)
 refine zn_ c19 zp_ rfl ?_
 simp -implicitDefEqProofs [a19,F19,Bl.v,Bl.cs,cP]
 refine z1_ ?_
 simp
 refine zc_ k1 (by simp[cP]) (by simp[cP]) ?_
 rintro _ rfl
 cases h1:okB n q
 case' false=>simp -implicitDefEqProofs [bOk,h1]
 have h9:n<=9:=(ta_.1 h1).n1.2
 have k4:=pH_ b n q h9 hb
 simp
 refine z1_ ?_
 simp
 refine zc_ k2 (by simp[cP]) (by simp[cP]) ?_
 rintro _ rfl
 cases h2:vtr n site
 case' false=>simp -implicitDefEqProofs [bOk,h1,h2]
 by_cases h3:b.time<0
 case pos =>
  have h3':¬0<=b.time:=by omega
  simp[bOk,h1,h2,h3,h3']
 have h3':0<=b.time:=by omega
 by_cases h4:(1073741824:Int)<b.time
 case pos =>
  have h4':¬b.time<=1073741824:=by omega
  simp[bOk,h1,h2,h3,h3',h4,h4']
 have h4':b.time<=1073741824:=by omega
 simp[h3,h4]
 refine z1_ ?_
 simp
 refine zc_ k3 (by simp[Bl.v,Bl.cs,cP]) (by simp[Bl.v,Bl.cs,cP]) ?_
 rintro _ rfl
 cases h5:aok q site b
 case' false=>simp -implicitDefEqProofs [bOk,h1,h2,h3',h4',h5]
 simp
 refine z1_ ?_
 simp
 refine zc_ k4 (by simp[Bl.v,Bl.cs,cP]) (by simp[Bl.v,Bl.cs,cP]) ?_
 rintro _ rfl
 simp[bOk,h1,h2,h3',h4',h5]
end Go.Proofs.Ytpfjlnmnolbiaaa
namespace Go.Proofs.Ytpfjlnmnolbiaaa.QP
inductive Up where
 |ask|yld|rel
 deriving DecidableEq
inductive Dn where
 |yes|fal|inq
 deriving DecidableEq
inductive Ra where
 |o|w|h
 deriving DecidableEq
inductive Va where
 |n|q|g
 deriving DecidableEq
def OI(d:List Dn):Prop:=∀x∈d,x=.inq
def NY(d:List Dn):Prop:=∀x∈d,x≠.yes
inductive Shape:Ra->Va->List Up->List Dn->Prop
 |n0 {d} (h:OI d):Shape .o .n [] d
 |n1 {d} (h:OI d):Shape .w .n [.ask] d
 |q {d} (h:NY d):Shape .w .q [] d
 |gy {a b} (ha:NY a) (hb:OI b):Shape .w .g [] (a++.yes::b)
 |gh {d} (h:OI d):Shape .h .g [] d
 |gb {d} (h:OI d):Shape .w .g [.yld] d
 |gr {d} (h:OI d):Shape .o .g [.rel] d
 |ga {d} (h:OI d):Shape .w .g [.rel,.ask] d
theorem OI.nil:OI []:=fun x hx=>by simp at hx
theorem OI.ny{d:List Dn}(h:OI d):NY d:=fun x hx e=>by rw[h x hx]at e;cases e
theorem OI.tl{x:Dn}{d:List Dn}(h:OI (x::d)):x=.inq/\OI d:=⟨h x (by simp),fun y hy=>h y (by simp[hy])⟩
theorem NY.tl{x:Dn}{d:List Dn}(h:NY (x::d)):x≠.yes/\NY d:=⟨h x (by simp),fun y hy=>h y (by simp[hy])⟩
theorem OI.snoc{d:List Dn}(h:OI d):OI (d++[.inq]):=fun x hx=>by
 rcases zzw_.1 hx with h1|h1
 .exact h x h1
 .simpa using h1
theorem NY.snoc{d:List Dn}(h:NY d){x:Dn}(hx:x≠.yes):NY (d++[x]):=fun y hy=>by
 rcases zzw_.1 hy with h1|h1
 .exact h y h1
 .rw[List.mem_singleton.1 h1];exact hx
section
variable{r:Ra}{v:Va}{u:List Up}{d:List Dn}
theorem Shape.want(h:Shape .o v u d):Shape .w v (u++[.ask]) d:=by
 cases h with
 |n0 h=>exact .n1 h
 |gr h=>exact .ga h
theorem Shape.yield(h:Shape .h v u d):Shape .w v (u++[.yld]) d:=by
 cases h with
 |gh h=>exact .gb h
theorem Shape.release(h:Shape .h v u d):Shape .o v (u++[.rel]) d:=by
 cases h with
 |gh h=>exact .gr h
theorem Shape.has(h:Shape .h v u d):v=.g:=by cases h;rfl
theorem Shape.yes(h:Shape r v u (.yes::d)):r=.w/\Shape .h v u d:=by
 generalize e:Dn.yes::d=d' at h
 cases h with
 |n0 h=>subst e;cases h.tl.1
 |n1 h=>subst e;cases h.tl.1
 |q h=>subst e;exact absurd rfl h.tl.1
 |gh h=>subst e;cases h.tl.1
 |gb h=>subst e;cases h.tl.1
 |gr h=>subst e;cases h.tl.1
 |ga h=>subst e;cases h.tl.1
 | @gy a b ha hb =>
   cases a with
   | nil =>
     simp at e
     subst e
     exact⟨rfl,.gh hb⟩
   | cons x a =>
     simp at e
     obtain⟨e1,_⟩:=e
     subst e1
     exact absurd rfl ha.tl.1
theorem Shape.fail(h:Shape r v u (.fal::d)):r=.w/\Shape .w v u d:=by
 generalize e:Dn.fal::d=d' at h
 cases h with
 |n0 h=>subst e;cases h.tl.1
 |n1 h=>subst e;cases h.tl.1
 |q h=>subst e;exact⟨rfl,.q h.tl.2⟩
 |gh h=>subst e;cases h.tl.1
 |gb h=>subst e;cases h.tl.1
 |gr h=>subst e;cases h.tl.1
 |ga h=>subst e;cases h.tl.1
 | @gy a b ha hb =>
   cases a with
   |nil=>simp at e
   | cons x a =>
     simp at e
     obtain⟨e1,e2⟩:=e
     subst e1 e2
     exact⟨rfl,.gy ha.tl.2 hb⟩
theorem Shape.inq(h:Shape r v u (.inq::d)):Shape r v u d:=by
 generalize e:Dn.inq::d=d' at h
 cases h with
 |n0 h=>subst e;exact .n0 h.tl.2
 |n1 h=>subst e;exact .n1 h.tl.2
 |q h=>subst e;exact .q h.tl.2
 |gh h=>subst e;exact .gh h.tl.2
 |gb h=>subst e;exact .gb h.tl.2
 |gr h=>subst e;exact .gr h.tl.2
 |ga h=>subst e;exact .ga h.tl.2
 | @gy a b ha hb =>
   cases a with
   |nil=>simp at e
   | cons x a =>
     simp at e
     obtain⟨e1,e2⟩:=e
     subst e1 e2
     exact .gy ha.tl.2 hb
theorem Shape.ask(h:Shape r v (.ask::u) d):v=.n/\r=.w/\u=[]/\Shape .w .g [] (d++[.yes])/\Shape .w .q [] (d++[.fal])/\Shape .w .q [] d:=by
 cases h with
 |n1 h=>exact⟨rfl,rfl,rfl,.gy h.ny OI.nil,.q (h.ny.snoc (by simp)),.q h.ny⟩
theorem Shape.yld(h:Shape r v (.yld::u) d):v=.g/\Shape r .q u d:=by
 cases h with
 |gb h=>exact⟨rfl,.q h.ny⟩
theorem Shape.rel(h:Shape r v (.rel::u) d):v=.g/\Shape r .n u d:=by
 cases h with
 |gr h=>exact⟨rfl,.n0 h⟩
 |ga h=>exact⟨rfl,.n1 h⟩
theorem Shape.promote(h:Shape r .q u d):Shape r .g u (d++[.yes]):=by
 cases h with
 |q h=>exact .gy h OI.nil
theorem Shape.refuse(h:Shape r .q u d):Shape r .q u (d++[.fal]):=by
 cases h with
 |q h=>exact .q (h.snoc (by simp))
theorem Shape.inquire(h:Shape r .g u d):Shape r .g u (d++[.inq]):=by
 cases h with
 | @gy a b ha hb =>
   rw[zzq_]
   exact .gy ha hb.snoc
 |gh h=>exact .gh h.snoc
 |gb h=>exact .gb h.snoc
 |gr h=>exact .gr h.snoc
 |ga h=>exact .ga h.snoc
def nv(r:Ra)(u:List Up)(d:List Dn):Nat:=(if r=.h then 1 else 0)+d.countP (·==.yes)+u.countP (· != .ask)
theorem yQ_{d:List Dn}(h:NY d):d.countP (·==.yes)=0:=by
 rw[List.countP_eq_zero]
 intro x hx
 simpa using h x hx
theorem Shape.votes(h:Shape r v u d):nv r u d=if v=.g then 1 else 0:=by
 cases h with
 |n0 h=>simp[nv,yQ_ h.ny]
 |n1 h=>simp[nv,yQ_ h.ny]
 |q h=>simp[nv,yQ_ h]
 |gy ha hb=>simp[nv,yQ_ ha,yQ_ hb.ny]
 |gh h=>simp[nv,yQ_ h.ny]
 |gb h=>simp[nv,yQ_ h.ny]
 |gr h=>simp[nv,yQ_ h.ny]
 |ga h=>simp[nv,yQ_ h.ny]
end
end Go.Proofs.Ytpfjlnmnolbiaaa.QP
namespace Go.Proofs.Ytpfjlnmnolbiaaa.QP
structure Sp where
 t:Nat
 s:Nat
 deriving DecidableEq
def Sp.lt(a b:Sp):Bool:=decide (a.t<b.t\/(a.t=b.t/\a.s<b.s))
theorem Sp.trans{a b c:Sp}(h1:a.lt b=true)(h2:b.lt c=true):a.lt c=true:=by
 simp only[Sp.lt,zzp_] at *
 omega
theorem Sp.tot{a b:Sp}(h:a.lt b=false)(hs:a.s≠b.s):b.lt a=true:=by
 simp only[Sp.lt,zzp_,decide_eq_false_iff_not] at *
 omega
inductive Kd where
 |ask|yes|fal|inq|yld|rel
 deriving DecidableEq
structure Bt where
 time:Nat
 qu:Nat
 votes:Nat
 fail:Nat
 inqd:Nat
 stamp:Sp
 using':Bool
 asked:Bool
 given:List Sp
 queue:List Sp
def mem(n s:Nat):List Nat:=(List.range n).filter fun v=>s.testBit v
theorem kE_{n s v:Nat}:v∈mem n s↔v<n/\s.testBit v=true:=by simp[mem]
def wo(a b:Nat):Nat:=a^^^(a&&&b)
theorem wo_bit(a b i:Nat):(wo a b).testBit i=(a.testBit i&&!b.testBit i):=by
 unfold wo
 rw[Nat.testBit_xor,Nat.testBit_and]
 cases a.testBit i<;>cases b.testBit i<;>rfl
def ins(s:Sp):List Sp->List Sp
 |[]=>[s]
 |x::r=>if x.lt s then x::ins s r else s::x::r
theorem xc_{s x:Sp}:∀ {l:List Sp},x∈ins s l↔x=s\/x∈l
 |[]=>by simp[ins]
 | y :: r => by
   unfold ins
   split
   .rw[List.mem_cons,xc_,List.mem_cons]
    constructor
    .rintro(h|h|h)
     .exact .inr (.inl h)
     .exact .inl h
     .exact .inr (.inr h)
    .rintro(h|h|h)
     .exact .inr (.inl h)
     .exact .inl h
     .exact .inr (.inr h)
   .rw[List.mem_cons,List.mem_cons]
theorem lr_(s:Sp)(l:List Sp):ins s l≠[]:=by
 cases l with
 |nil=>simp[ins]
 |cons x r=>unfold ins;split<;>simp
def Asc(l:List Sp):Prop:=l.Pairwise fun a b=>a.lt b=true
theorem tg_{s:Sp}:∀ {l:List Sp},Asc l->(∀x∈l,x.s≠s.s)->Asc (ins s l)
 |[],_,_=>by simp[ins,Asc]
 | y :: r, h, hs => by
   obtain⟨h1,h2⟩:=List.pairwise_cons.1 h
   unfold ins
   split
   .next hy =>
    refine List.pairwise_cons.2 ⟨fun x hx=>?_,tg_ h2 fun x hx=>hs x (by simp[hx])⟩
    rcases xc_.1 hx with rfl|hx
    .exact hy
    .exact h1 x hx
   .next hy =>
    have hy:y.lt s=false:=by simpa using hy
    have hsy:=Sp.tot hy (hs y (by simp))
    refine List.pairwise_cons.2 ⟨fun x hx=>?_,h⟩
    rcases List.mem_cons.1 hx with rfl|hx
    .exact hsy
    .exact Sp.trans hsy (h1 x hx)
def Ds(l:List Sp):Prop:=l.Pairwise fun a b=>a.s≠b.s
theorem oU_{s:Sp}:∀ {l:List Sp},Ds l->(∀x∈l,x.s≠s.s)->Ds (ins s l)
 |[],_,_=>by simp[ins,Ds]
 | y :: r, h, hs => by
   obtain⟨h1,h2⟩:=List.pairwise_cons.1 h
   unfold ins
   split
   .refine List.pairwise_cons.2 ⟨fun x hx=>?_,oU_ h2 fun x hx=>hs x (by simp[hx])⟩
    rcases xc_.1 hx with rfl|hx
    .exact hs y (by simp)
    .exact h1 x hx
   .refine List.pairwise_cons.2 ⟨fun x hx=>?_,h⟩
    exact(hs x hx).symm
abbrev Out:=List (Kd×Nat)
def isFst(s:Sp):List Sp->Bool
 |[]=>true
 |x::_=>s.lt x
def falFst(g:Sp):List Sp->Out
 |[]=>[]
 |x::_=>if x.lt g then [(.fal,x.s)] else []
def askV(b:Bt)(s:Sp):Bt×Out :=
 match b.given with
 |[]=>({ b with time:=max b.time s.t,given:=[s] },[(.yes,s.s)])
 | g :: _ =>
   if isFst s b.queue&&s.lt g then
    ({ b with time:=max b.time s.t,asked:=true,queue:=ins s b.queue },falFst g b.queue++(if b.asked then [] else [(Kd.inq,g.s)]))
   else ({ b with time:=max b.time s.t,queue:=ins s b.queue },[(.fal,s.s)])
def backV(b:Bt)(g:Sp)(again:Bool):Bt×Out :=
 match (if again then ins g b.queue else b.queue) with
 |[]=>({ b with given:=[],asked:=false,queue:=[] },[])
 |x::r=>({ b with given:=[x],asked:=false,queue:=r },[(.yes,x.s)])
def give(n:Nat)(b:Bt)(set:Nat):Bt×Out:=({ b with votes:=wo b.votes set,fail:=b.fail|||set,inqd:=wo b.inqd set },(mem n set).map fun v=>(.yld,v))
def yesA(b:Bt)(i:Nat):Bt :=
 if b.votes|||2^i=b.qu then { b with votes:=b.votes|||2^i,fail:=wo b.fail (2^i),using':=true,inqd:=0 }
 else { b with votes:=b.votes|||2^i,fail:=wo b.fail (2^i) }
def failA(n:Nat)(b:Bt)(i:Nat):Bt×Out:=give n { b with fail:=b.fail|||2^i } b.inqd
def inqA(n:Nat)(b:Bt)(i:Nat):Bt×Out :=
 if b.votes.testBit i=false\/b.using'=true then (b,[])
 else if b.fail=0 then ({ b with inqd:=b.inqd|||2^i },[])
 else give n b (2^i)
def wantB(n:Nat)(b:Bt)(i q:Nat):Bt×Out:=({ b with time:=b.time+1,stamp:=⟨b.time+1,i⟩,qu:=q },(mem n q).map fun v=>(.ask,v))
def doneB(n:Nat)(b:Bt):Bt×Out:=({ b with qu:=0,votes:=0,fail:=0,stamp:=⟨0,0⟩,using':=false },(mem n b.qu).map fun v=>(.rel,v))
structure AOk(Q:List Nat)(i:Nat)(b:Bt):Prop where
 qu:b.qu=0\/b.qu∈Q
 vq:∀v,b.votes.testBit v=true->b.qu.testBit v=true
 fq:∀v,b.fail.testBit v=true->b.qu.testBit v=true
 fv:∀v,b.fail.testBit v=true->b.votes.testBit v=false
 iv:∀v,b.inqd.testBit v=true->b.votes.testBit v=true
 s0:b.qu=0->b.stamp=⟨0,0⟩/\b.using'=false
 s1:b.qu≠0->b.stamp.s=i/\1<=b.stamp.t/\b.stamp.t<=b.time
 us:b.using'=true↔b.qu≠0/\b.votes=b.qu
 ui:b.using'=true->b.inqd=0
structure VOk(n:Nat)(T:Nat)(b:Bt):Prop where
 g1:b.given.length<=1
 gq:b.given=[]->b.queue=[]
 aq:b.asked=true->b.queue≠[]
 rng:∀x∈b.given++b.queue,x.s<n/\x.t<=T
 ds:Ds (b.given++b.queue)
 asc:Asc b.queue
 tm:b.time<=T
theorem eq_of_bits{a b:Nat}(h:∀i,a.testBit i=b.testBit i):a=b:=Nat.eq_of_testBit_eq h
theorem pow_bit(i v:Nat):(2^i).testBit v=decide (i=v):=Nat.testBit_two_pow ..
section
variable{Q:List Nat}{n i j T:Nat}{b:Bt}
theorem AOk.want(h:AOk Q i b)(h0:b.qu=0){q:Nat}(hq:q∈Q)(hq0:q≠0):AOk Q i (wantB n b i q).1:=by
 have hv:b.votes=0:=eq_of_bits fun v=>by
  cases e:b.votes.testBit v
  .simp
  .have:=h.vq v e;rw[h0]at this;simp at this
 have hf:b.fail=0:=eq_of_bits fun v=>by
  cases e:b.fail.testBit v
  .simp
  .have:=h.fq v e;rw[h0]at this;simp at this
 have hi:b.inqd=0:=eq_of_bits fun v=>by
  cases e:b.inqd.testBit v
  .simp
  .have:=h.iv v e;rw[hv]at this;simp at this
 have hu:=(h.s0 h0).2
 exact⟨.inr hq,by simp[wantB,hv],by simp[wantB,hf],by simp[wantB,hf],by simp[wantB,hi],fun e=>absurd e hq0,fun _=>⟨rfl,by simp[wantB],by simp[wantB]⟩,by
  simp[wantB,hu,hv]
  intro _ e
  exact hq0 e.symm,by simp[wantB,hi]⟩
theorem AOk.done(h:AOk Q i b)(hu:b.using'=true):AOk Q i (doneB n b).1:=by
 have hi:=h.ui hu
 exact⟨.inl rfl,by simp[doneB],by simp[doneB],by simp[doneB],by simp[doneB,hi],fun _=>⟨rfl,rfl⟩,fun e=>absurd rfl e,by simp[doneB],by simp[doneB]⟩
theorem AOk.yes(h:AOk Q i b)(hq:b.qu.testBit j=true)(hv:b.votes.testBit j=false):AOk Q i (yesA b j):=by
 have hq0:b.qu≠0:=fun e=>by rw[e]at hq;simp at hq
 have hnu:b.using'=false:=by
  cases e:b.using'
  .rfl
  .have:=(h.us.1 e).2;rw[this,hq]at hv;cases hv
 have k1:∀v,(b.votes|||2^j).testBit v=true->b.qu.testBit v=true:=fun v hb=>by
  rw[Nat.testBit_or,pow_bit,zzy_]at hb
  rcases hb with hb|hb
  .exact h.vq v hb
  .rw[<-of_decide_eq_true hb];exact hq
 have k2:∀v,(wo b.fail (2^j)).testBit v=true->b.qu.testBit v=true:=fun v hb=>by
  rw[wo_bit,zzg_]at hb
  exact h.fq v hb.1
 have k3:∀v,(wo b.fail (2^j)).testBit v=true->(b.votes|||2^j).testBit v=false:=fun v hb=>by
  rw[wo_bit,zzg_,pow_bit]at hb
  rw[Nat.testBit_or,pow_bit,h.fv v hb.1]
  simpa using hb.2
 have k4:∀v,b.inqd.testBit v=true->(b.votes|||2^j).testBit v=true:=fun v hb=>by
  rw[Nat.testBit_or,h.iv v hb];rfl
 unfold yesA
 split
 .next e=>exact⟨h.qu,k1,k2,k3,by simp,fun e0=>absurd e0 hq0,h.s1,by simp[hq0,e],fun _=>rfl⟩
 .next e=>exact⟨h.qu,k1,k2,k3,k4,fun e0=>absurd e0 hq0,h.s1,by simp[hnu,e],by simp[hnu]⟩
theorem AOk.give(h:AOk Q i b){set:Nat}(hs:∀v,set.testBit v=true->b.votes.testBit v=true)(hu:b.using'=false):AOk Q i (give n b set).1:=by
 refine⟨h.qu,fun v hb=>?_,fun v hb=>?_,fun v hb=>?_,fun v hb=>?_,h.s0,h.s1,?_,fun e=>?_⟩
 .have hb:(wo b.votes set).testBit v=true:=hb
  rw[wo_bit,zzg_]at hb
  exact h.vq v hb.1
 .have hb:(b.fail|||set).testBit v=true:=hb
  rw[Nat.testBit_or,zzy_]at hb
  exact hb.elim (h.fq v) fun e=>h.vq v (hs v e)
 .have hb:(b.fail|||set).testBit v=true:=hb
  show (wo b.votes set).testBit v=false
  rw[wo_bit]
  rw[Nat.testBit_or,zzy_]at hb
  rcases hb with hb|hb
  .rw[h.fv v hb];rfl
  .rw[hb];simp
 .have hb:(wo b.inqd set).testBit v=true:=hb
  show (wo b.votes set).testBit v=true
  rw[wo_bit,zzg_]at hb ⊢
  exact⟨h.iv v hb.1,hb.2⟩
 .show b.using'=true↔b.qu≠0/\wo b.votes set=b.qu
  rw[hu]
  simp
  intro hq0 e
  have hvq:b.votes=b.qu:=eq_of_bits fun v=>by
   cases e1:b.qu.testBit v
   .cases e2:b.votes.testBit v
    .rfl
    .have:=h.vq v e2;rw[e1]at this;cases this
   .rw[<-e,wo_bit,zzg_]at e1
    exact e1.1
  have:=h.us.2 ⟨hq0,hvq⟩
  rw[hu]at this;cases this
 .have e:b.using'=true:=e
  rw[hu]at e;cases e
theorem AOk.fail(h:AOk Q i b)(hq:b.qu.testBit j=true)(hv:b.votes.testBit j=false):AOk Q i (failA n b j).1:=by
 have hnu:b.using'=false:=by
  cases e:b.using'
  .rfl
  .have:=(h.us.1 e).2;rw[this,hq]at hv;cases hv
 have h2:AOk Q i { b with fail:=b.fail|||2^j }:=by
  refine⟨h.qu,h.vq,fun v hb=>?_,fun v hb=>?_,h.iv,h.s0,h.s1,h.us,h.ui⟩
  .have hb:(b.fail|||2^j).testBit v=true:=hb
   rw[Nat.testBit_or,pow_bit,zzy_]at hb
   rcases hb with hb|hb
   .exact h.fq v hb
   .rw[<-of_decide_eq_true hb];exact hq
  .have hb:(b.fail|||2^j).testBit v=true:=hb
   rw[Nat.testBit_or,pow_bit,zzy_]at hb
   rcases hb with hb|hb
   .exact h.fv v hb
   .rw[<-of_decide_eq_true hb];exact hv
 exact h2.give (fun v e=>h.iv v e) hnu
theorem AOk.inq(h:AOk Q i b):AOk Q i (inqA n b j).1:=by
 unfold inqA
 split
 .exact h
 .next hc =>
  have hv:b.votes.testBit j=true:=by
   cases e:b.votes.testBit j
   .exact absurd (.inl e) hc
   .rfl
  have hu:b.using'=false:=by
   cases e:b.using'
   .rfl
   .exact absurd (.inr e) hc
  split
  .refine⟨h.qu,h.vq,h.fq,h.fv,fun v hb=>?_,h.s0,h.s1,h.us,fun e=>?_⟩
   .have hb:(b.inqd|||2^j).testBit v=true:=hb
    rw[Nat.testBit_or,pow_bit,zzy_]at hb
    rcases hb with hb|hb
    .exact h.iv v hb
    .rw[<-of_decide_eq_true hb];exact hv
   .have e:b.using'=true:=e
    rw[hu]at e;cases e
  .refine h.give (fun v e=>?_) hu
   rw[pow_bit]at e
   rw[<-of_decide_eq_true e];exact hv
theorem VOk.mono(h:VOk n T b){T':Nat}(ht:T<=T'):VOk n T' b:=⟨h.g1,h.gq,h.aq,fun x hx=>⟨(h.rng x hx).1,yyd_ (h.rng x hx).2 ht⟩,h.ds,h.asc,yyd_ h.tm ht⟩
theorem VOk.ask(h:VOk n T b){s:Sp}(hs:s.s<n)(ht:s.t<=T)(hn:∀x∈b.given++b.queue,x.s≠s.s):VOk n T (askV b s).1:=by
 have htm:max b.time s.t<=T:=by have:=h.tm;omega
 unfold askV
 cases hg:b.given with
 | nil =>
   have hq:=h.gq hg
   refine⟨by simp,by simp,?_,?_,?_,?_,htm⟩
   .intro ha
    exact absurd hq (h.aq ha)
   .intro x hx
    have:x=s:=by simpa[hq] using hx
    rw[this];exact⟨hs,ht⟩
   .show Ds ([s]++b.queue)
    rw[hq];simp[Ds]
   .show Asc b.queue
    rw[hq];simp[Asc]
 | cons g r =>
   have hr:r=[]:=by
    have:=h.g1
    rw[hg]at this
    cases r with
    |nil=>rfl
    |cons _ _=>simp at this
   subst hr
   have hgq:b.given++b.queue=g::b.queue:=by rw[hg];rfl
   rw[hgq]at hn
   have hds:=h.ds
   rw[hgq]at hds
   obtain⟨d1,d2⟩:=List.pairwise_cons.1 hds
   have hnq:∀x∈b.queue,x.s≠s.s:=fun x hx=>hn x (by simp[hx])
   have hmem:∀x∈g::ins s b.queue,x.s<n/\x.t<=T:=by
    intro x hx
    rcases List.mem_cons.1 hx with rfl|hx
    .exact h.rng x (by rw[hgq];simp)
    .rcases xc_.1 hx with rfl|hx
     .exact⟨hs,ht⟩
     .exact h.rng x (by rw[hgq];simp[hx])
   have hds2:Ds (g::ins s b.queue):=List.pairwise_cons.2 ⟨fun x hx=>by
    rcases xc_.1 hx with rfl|hx
    .exact hn g (by simp)
    .exact d1 x hx,oU_ d2 hnq⟩
   simp only
   split
   .exact⟨by simp,by simp,fun _=>lr_ _ _,hmem,hds2,tg_ h.asc hnq,htm⟩
   .exact⟨by simp,by simp,fun _=>lr_ _ _,hmem,hds2,tg_ h.asc hnq,htm⟩
theorem VOk.back(h:VOk n T b){g:Sp}(hg:b.given=[g])(again:Bool):VOk n T (backV b g again).1:=by
 have hgq:b.given++b.queue=g::b.queue:=by rw[hg];rfl
 have hds:=h.ds
 rw[hgq]at hds
 obtain⟨d1,d2⟩:=List.pairwise_cons.1 hds
 have hnq:∀x∈b.queue,x.s≠g.s:=fun x hx=>(d1 x hx).symm
 have hq:∀x∈(if again then ins g b.queue else b.queue),x.s<n/\x.t<=T:=by
  intro x hx
  cases again
  .exact h.rng x (by rw[hgq];simp at hx;simp[hx])
  .simp only[if_true]at hx
   rcases xc_.1 hx with rfl|hx
   .exact h.rng x (by rw[hgq];simp)
   .exact h.rng x (by rw[hgq];simp[hx])
 have ha:Asc (if again then ins g b.queue else b.queue):=by
  cases again
  .exact h.asc
  .exact tg_ h.asc hnq
 have hd:Ds (if again then ins g b.queue else b.queue):=by
  cases again
  .exact d2
  .exact oU_ d2 hnq
 unfold backV
 split
 .exact⟨by simp,by simp,by simp,by simp,by simp[Ds],by simp[Asc],h.tm⟩
 .next x r e =>
  rw[e]at hq ha hd
  exact⟨by simp,by simp,by simp,hq,hd,(List.pairwise_cons.1 ha).2,h.tm⟩
end
end Go.Proofs.Ytpfjlnmnolbiaaa.QP
namespace Go.Proofs.Ytpfjlnmnolbiaaa
open Go.RowKit Go.Proofs
theorem nw_(s v:Nat):(s&&&2^v≠0)↔s.testBit v=true:=by
 constructor
 .intro h
  obtain⟨i,hi⟩:=Nat.exists_testBit_of_ne_zero h
  rw[Nat.testBit_and,QP.pow_bit]at hi
  simp only[zzg_,zzp_]at hi
  obtain⟨h1,rfl⟩:=hi
  exact h1
 .intro h h0
  have:=congrArg (fun x=>x.testBit v) h0
  simp[Nat.testBit_and,QP.pow_bit,h]at this
theorem rI_{s v:Nat}(hs:s<9223372036854775808)(hv:v<=20):tstA (s:Int) v=s.testBit v:=by
 unfold tstA
 have h2:2^v<=2^20:=yyf_ (by omega) hv
 rw[yl_ s (2^v) hs (by omega),yyt_]
 have:=nw_ s v
 simp only[bne_iff_ne,ne_eq]
 rw[<-this]
 omega
theorem nI_{s v:Nat}(hs:s<9223372036854775808):tstB (s:Int) v=s.testBit v:=by
 unfold tstB
 have e:((s:Int).fdiv ((2^v:Nat):Int))=((s/2^v:Nat):Int):=by
  rw[Int.fdiv_eq_ediv_of_nonneg _ (Int.natCast_nonneg _)]
  rfl
 have hle:s/2^v<=s:=Nat.div_le_self _ _
 rw[e,show (1:Int)=((1:Nat):Int) from rfl,yl_ _ 1 (by omega) (by omega),Nat.and_one_is_mod,Nat.testBit_eq_decide_div_mod_eq,yyt_]
 simp only[beq_iff_eq,zzp_]
 omega
theorem td_{s n:Nat}(hn:n<=9)(hs:s<2^n):mbU (s:Int) 9=(QP.mem n s).map fun v:Nat=>(v:Int):=by
 have h9:2^n<=2^9:=yyf_ (by omega) hn
 unfold mbU QP.mem
 congr 1
 have e1:(List.range 9).filter (fun v=>tstA (s:Int) v)=(List.range 9).filter fun v=>s.testBit v:=by
  refine List.filter_congr fun v hv=>?_
  have:=List.mem_range.1 hv
  exact rI_ (by omega) (by omega)
 rw[e1]
 have e2:List.range 9=List.range n++(List.range (9-n)).map (n+·):=by
  rw[<-List.range_add,show n+(9-n)=9 by omega]
 rw[e2,List.filter_append]
 have e3:((List.range (9-n)).map (n+·)).filter (fun v=>s.testBit v)=[]:=by
  rw[List.filter_eq_nil_iff]
  intro v hv
  simp only[List.mem_map,List.mem_range]at hv
  obtain⟨a,_,rfl⟩:=hv
  have:s<2^(n+a):=zzk_ hs (yyf_ (by omega) (by omega))
  simp[Nat.testBit_lt_two_pow this]
 rw[e3,List.append_nil]
theorem j4_{s:Nat}{k:Int}{x:Sg}(hs:s<9223372036854775808):evU (s:Int) k x 9=(mbU (s:Int) 9).map fun v=>⟨k,v,x.t,x.s⟩:=by
 unfold evU mbU
 rw[List.map_map]
 have:(List.range 9).filter (fun v=>tstB (s:Int) v)=(List.range 9).filter fun v=>tstA (s:Int) v:=by
  refine List.filter_congr fun v hv=>?_
  have:=List.mem_range.1 hv
  rw[rI_ hs (by omega),nI_ hs]
 rw[this]
 rfl
theorem rv_(a b:Nat)(ha:a<2^64)(hb:b<2^64):a&&&(2^64-1-b)=QP.wo a b:=by
 refine Nat.eq_of_testBit_eq fun i=>?_
 rw[QP.wo_bit,Nat.testBit_and,show 2^64-1-b=2^64-(b+1) by omega,Nat.testBit_two_pow_sub_succ hb]
 by_cases hi:i<64
 .simp[hi]
 .have:a.testBit i=false:=Nat.testBit_lt_two_pow (zzk_ ha (yyf_ (by omega) (by omega)))
  simp[this]
theorem h0_(a b:Nat)(ha:a<2^63):QP.wo a b<2^63:=by
 unfold QP.wo
 exact Nat.xor_lt_two_pow ha (Nat.lt_of_le_of_lt Nat.and_le_left ha)
theorem yh_(a b:Nat)(ha:a<9223372036854775808)(hb:b<9223372036854775808):bits .andNot .i64 (a:Int) (b:Int)=((QP.wo a b:Nat):Int):=by
 have hx:QP.wo a b<2^63:=h0_ a b (by omega)
 show IntKind.i64.wrap ((BitVec.ofInt 64 (a:Int)&&&~~~BitVec.ofInt 64 (b:Int)).toNat:Int)=_
 rw[BitVec.toNat_and,BitVec.toNat_not,ofInt_u64 a (by omega),ofInt_u64 b (by omega),rv_ a b (by omega) (by omega),yye_]
 omega
section
section
variable{P:Program}
theorem w2_(w:World)(dT sT ty elem:TypeId)(z b o dLen dCap:Nat)(a:Addr)(sLen sCap:Nat)(cs:List Value)
 (hu:P.underlying dT=some (.slice elem)) (hs:(P.info? elem).map (·.size)=some z) (hn:cs.length=Nat.min sLen dLen*z)
 (hsrc:∀j v,cs[j]?=some v->w.cell? (a.add j)=some v) (hc:∀j,j<cs.length->(w.cell? ⟨b,o+j,none⟩).isSome=true) (hf:∀j,j<cs.length->w.frozen? ⟨b,o+j,none⟩=false) (h1:∀v∈cs,v.oneCell'=true) :
 (Builtin.copy_ #[dT,sT] ty #[.slice (some ⟨b,o,none⟩) dLen dCap,.slice (some a) sLen sCap]).run P w=.ok (goInt (Nat.min sLen dLen)) (w.setCells b o cs):=by
 have hl:=run_loadCells_list (P:=P) w a cs hsrc
 have hst:=run_storeCells_cells (P:=P) b o cs 0 w (by simpa using hc) (by simpa using hf) h1
 cases hq:P.info? elem with
 |none=>simp[hq]at hs
 | some i =>
   have hi:i.size=z:=by simpa[hq] using hs
   simp[Builtin.copy_,run_underlying hu,Builtin.lenOf,Builtin.firstCells,sizeOf,typeInfo,hq,hi,<-hn,hl,hst]
theorem r0_(w:World)(t e ty:TypeId)(z:Value)(ht:P.underlying t=some (.slice e))(hv:∀w,(zeroValue e).run P w=.ok z w)(cs:List Value)(b o n c:Nat)(hcs:(Builtin.zeroCells z.cells n).toList=cs)(h1:∀v∈cs,v.oneCell'=true)(hn:0<n)
 (hc:∀j,j<cs.length->(w.cell? ⟨b,o+j,none⟩).isSome=true) (hf:∀j,j<cs.length->w.frozen? ⟨b,o+j,none⟩=false) :
 (Builtin.clear_ #[t] ty #[.slice (some ⟨b,o,none⟩) n c]).run P w=.ok (.tuple #[]) (w.setCells b o cs):=by
 have hst:=run_storeCells_cells (P:=P) b o cs 0 w (by simpa using hc) (by simpa using hf) h1
 simp only[Nat.add_zero]at hst
 obtain⟨m,rfl⟩:∃m,n=m+1:=⟨n-1,by omega⟩
 simp[Builtin.clear_,run_underlying ht,hv,hcs,hst]
theorem vc_(w:World){ops:Array Oper}{rest:List Oper}{o:Oper}{a:Act}{Q:Exit->Act->World->Prop}(hgd:o.guard=none)(d s:Operand)(t t':TypeId)
 (ho:o.op=.call { callee:=.builtin .copy,args:=#[d,s],argTypes:=#[t,t'] }) (v u:Value) (hd:a.eval d=v) (hs:a.eval s=u) {v':Value} {w':World}
 (hr:(Builtin.copy_ #[t,t'] o.type #[v,u]).run P w=.ok v' w') (h:wpList P ops Q rest (a.put o.dst v') w'):wpList P ops Q (o::rest) a w :=
 wpList_plain hgd fun K hK=>by
  unfold Oper.wp execOp
  simp only[ho,resolve,invoke,builtin,Sem.run_bind,Sem.run_pure,Result.andThen_ok,List.map_toArray,List.map_cons,List.map_nil,hd,hs,hr]
  exact hK _ _ h
theorem uS_(w:World){ops:Array Oper}{rest:List Oper}{o:Oper}{a:Act}{Q:Exit->Act->World->Prop}(hgd:o.guard=none)(s:Operand)(t:TypeId)
 (ho:o.op=.call { callee:=.builtin .clear,args:=#[s],argTypes:=#[t] }) (u:Value) (hs:a.eval s=u) {v':Value} {w':World}
 (hr:(Builtin.clear_ #[t] o.type #[u]).run P w=.ok v' w') (h:wpList P ops Q rest (a.put o.dst v') w'):wpList P ops Q (o::rest) a w :=
 wpList_plain hgd fun K hK=>by
  unfold Oper.wp execOp
  simp only[ho,resolve,invoke,builtin,Sem.run_bind,Sem.run_pure,Result.andThen_ok,List.map_toArray,List.map_cons,List.map_nil,hs,hr]
  exact hK _ _ h
theorem up_{ops:Array Oper}{o:Oper}{a:Act}{w:World}{K:Act->World->Prop}{Q:Exit->Act->World->Prop}{E:Prop}
 (hg:o.guard=none) (d x:Operand) (dT sT:TypeId) (hop:o.op=Op.call { callee:=Callee.builtin Builtin.copy,args:=#[d,x],argTypes:=#[dT,sT] })
 (v u:Value) (hd:a.eval d=v) (hx:a.eval x=u) {v':Value} {w':World} (hr:(Builtin.copy_ #[dT,sT] o.type #[v,u]).run P w=.ok v' w') (hK:K (a.put o.dst v') w') :
 if Region.wanted o (yielded ops a.tmps)=true then Oper.wp P o a w K Q else E:=by
 have hw:Region.wanted o (yielded ops a.tmps)=true:=by simp[Region.wanted,hg]
 rw[if_pos hw]
 unfold Oper.wp
 simp[execOp,hop,resolve,invoke,builtin,hd,hx,hr,Result.andThen]
 exact hK
end
theorem zw_:∀(vs:List Value) (o:Nat) (w:World) (k:Nat) (cur:Array Value) (e:TypeId),w.heap[k]?=some (.cells cur e (0,0))->o+vs.length<=cur.size ->
 ∃cur',(w.setCells k o vs).heap[k]?=some (.cells cur' e (0,0))/\cur'.size=cur.size/\cur'.toList=cur.toList.take o++vs++cur.toList.drop (o+vs.length)
 |[],o,w,k,cur,e,h,_=>⟨cur,h,rfl,by simp⟩
 | v :: r, o, w, k, cur, e, h, hf => by
   have h1:(w.setCell ⟨k,o,none⟩ v).heap[k]?=some (.cells (cur.setIfInBounds o v) e (0,0)):=by
    simp[World.setCell,yyu_,h]
   obtain⟨cur',h2,h3,h4⟩:=zw_ r (o+1) (w.setCell ⟨k,o,none⟩ v) k _ e h1 (by simp at hf ⊢;omega)
   refine⟨cur',by rw[World.setCells];exact h2,by simpa using h3,?_⟩
   rw[h4]
   simp only[List.length_cons]at hf
   have hl:o<cur.toList.length:=by simp;omega
   simp only[Array.toList_setIfInBounds]
   have e1:(cur.toList.set o v).take (o+1)=cur.toList.take o++[v]:=by
    rw[yyw_,List.getElem?_set_self hl,List.take_set]
    rw[List.set_eq_of_length_le (by simp;omega)]
    rfl
   have e2:(cur.toList.set o v).drop (o+1+r.length)=cur.toList.drop (o+1+r.length):=List.drop_set_of_lt (by omega)
   rw[e1,e2]
   simp[Nat.add_assoc,Nat.add_comm 1]
theorem zv_{vs:List Value}{o:Nat}{w:World}{k j:Nat}(hj:j<w.heap.size)(h:j≠k):(w.setCells k o vs).heap[j]?=w.heap[j]?:=World.heap_setCells_other w k o vs hj h
end
theorem mu_(w:World)(k n cap i kv vc:Nat)(cur cx:Array Value)(cs vs:List Value)(hi:i<n)(hn:n+1<=cap)(hm:cap<=maxLen)(hh:w.heap[k]?=some (.cells cur 36 (0,0)))(hsz:cur.size=cap*2)(hcs:cur.toList.take (n*2)=cs)
 (hx:w.heap[kv]?=some (.cells cx 36 (0,0))) (hvs:cx.toList.take 2=vs) (hvl:vs.length=2) (hne:kv≠k) (h1c:∀v∈cs,v.oneCell'=true) (h1v:∀v∈vs,v.oneCell'=true) :
 Calls Try.prog 80 #[.slice (some ⟨k,0,none⟩) n cap,.int .i64 i,.slice (some ⟨kv,0,none⟩) 1 vc] w fun e w'=>e=.returned (.slice (some ⟨k,0,none⟩) (n+1) cap)/\w'=(w.drew.setCells k ((i+1)*2) (cs.drop (i*2))).setCells k (i*2) vs:=by
 have hkw:k<w.heap.size:=(zzm_.1 hh).1
 have hcl:cs.length=n*2:=by rw[<-hcs];simp;omega
 have hcc:∀j,j<cur.size->∀W:World,W.heap[k]?=some (.cells cur 36 (0,0))->(W.cell? ⟨k,j,none⟩).isSome=true:=fun j hj W h=>by simp[World.cell?,h,hj]
 have hff:∀W:World,∀c:Array Value,∀b j,W.heap[b]?=some (.cells c 36 (0,0))->W.frozen? ⟨b,j,none⟩=false:=fun W c b j h=>by simp[World.frozen?,h]
 have hcv:∀j v,cs[j]?=some v->w.cell? ⟨k,j,none⟩=some v:=fun j v hj=>by
  rw[<-hcs,zzu_]at hj
  split at hj
  .simpa[World.cell?,hh] using hj
  .cases hj
 have hvv:∀W:World,W.heap[kv]?=some (.cells cx 36 (0,0))->∀j v,vs[j]?=some v->W.cell? ⟨kv,j,none⟩=some v:=fun W hW j v hj=>by
  rw[<-hvs,zzu_]at hj
  split at hj
  .simpa[World.cell?,hW] using hj
  .cases hj
 have hcx:2<=cx.size:=by
  have:(cx.toList.take 2).length=2:=by rw[hvs,hvl]
  simp at this
  omega
 have hov:∀lb cb,(callFunc 82 #[.slice (some ⟨kv,0,none⟩) 1 vc,.slice (some ⟨k,(i+1)*2,none⟩) lb cb]).run Try.prog w=.ok (.value (.bool false)) w:=fun lb cb=>by
  rw[run_callFunc_extern Try.func82 (by kernel_rfl) (by kernel_rfl) (by kernel_rfl) (e:=Extern.SlicesOverlaps.overlaps #[37,37] #[4]) (by kernel_rfl),
   Lib.run_overlaps_apart w 37 4 36 Try.underlying37 2 (fun w=>by rfl) ⟨kv,0,none⟩ ⟨k,(i+1)*2,none⟩ 1 vc lb cb hne 36 36 cx.size cur.size (by simp[World.shape?,hx]) (by simp[World.shape?,hh]) (by omega) (hff _ _ _ _ hx) (hff _ _ _ _ hx)]
  rfl
 have hsz2:(Try.prog.info? 36).map (·.size)=some 2:=by kernel_rfl
 have hcp1:∀ty dc sc,(Builtin.copy_ #[37,37] ty #[.slice (some ⟨k,(i+1)*2,none⟩) (n-i) dc,.slice (some ⟨k,i*2,none⟩) (n+1-i) sc]).run Try.prog w.drew=.ok (goInt ((n-i:Nat):Int)) (w.drew.setCells k ((i+1)*2) (cs.drop (i*2))):=fun ty dc sc=>by
  have h:=w2_ (P:=Try.prog) w.drew 37 37 ty 36 2 k ((i+1)*2) (n-i) dc ⟨k,i*2,none⟩ (n+1-i) sc (cs.drop (i*2)) Try.underlying37 hsz2 (by rw[List.length_drop,hcl,show Nat.min (n+1-i) (n-i)=n-i by simp only[Nat.min_def];split<;>omega];omega)
   (fun j v hj=>by rw[Addr.add_lit];exact hcv _ v (by rwa [zzA_]at hj))
   (fun j hj=>hcc _ (by rw[List.length_drop,hcl]at hj;omega) w.drew hh) (fun j hj=>hff w.drew _ _ _ hh) (fun v hv=>h1c v (yyl_ hv))
  rw[show Nat.min (n+1-i) (n-i)=n-i by simp only[Nat.min_def];split<;>omega]at h
  exact h
 obtain⟨cur1,hc1,hs1,hl1⟩:=zw_ (cs.drop (i*2)) ((i+1)*2) w.drew k cur 36 hh (by rw[List.length_drop,hcl];omega)
 have hx1:(w.drew.setCells k ((i+1)*2) (cs.drop (i*2))).heap[kv]?=some (.cells cx 36 (0,0)):=by
  rw[zv_ (w:=w.drew) (zzm_.1 hx).1 hne];exact hx
 obtain⟨W1,hW1⟩:∃W1,W1=w.drew.setCells k ((i+1)*2) (cs.drop (i*2)):=⟨_,rfl⟩
 rw[<-hW1]at hcp1 hc1 hx1
 have hcp2:∀ty dc,(Builtin.copy_ #[37,37] ty #[.slice (some ⟨k,i*2,none⟩) (n+1-i) dc,.slice (some ⟨kv,0,none⟩) 1 vc]).run Try.prog W1=.ok (goInt 1) (W1.setCells k (i*2) vs):=fun ty dc=>by
  have h:=w2_ (P:=Try.prog) W1 37 37 ty 36 2 k (i*2) (n+1-i) dc ⟨kv,0,none⟩ 1 vc vs Try.underlying37 hsz2 (by rw[hvl,show Nat.min 1 (n+1-i)=1 by simp only[Nat.min_def];split<;>omega])
   (fun j v hj=>by rw[Addr.add_lit,Nat.zero_add];exact hvv W1 hx1 j v hj)
   (fun j hj=>by rw[hvl]at hj;simp only[World.cell?,hc1];simp;omega) (fun j hj=>hff W1 _ _ _ hc1) h1v
  rw[show Nat.min 1 (n+1-i)=1 by simp only[Nat.min_def];split<;>omega]at h
  exact h
 have C1:=hcp1
 have C2:=hcp2
 subst hW1
 clear hcp1 hcp2 hcc hff hcv hvv hc1 hs1 hl1 hx1
 have hm63:cap<=9223372036854775807:=by unfold maxLen at hm;omega
 have hz2:¬((i:Int)=(n:Int)):=by omega
 have hz3:((i:Int)==(n:Int))=false:=by simpa using hz2
 have hz4:¬((cap:Int)<(n:Int)+1):=by omega
 have hw0:IntKind.i64.wrap ((n:Int)+1)=(n:Int)+1:=by rw[yye_];omega
 have hw1:IntKind.i64.wrap ((i:Int)+1)=(i:Int)+1:=by rw[yye_];omega
 have hb1:(0:Int)<=(i:Int)+1:=by omega
 have hin:i<=n:=by omega
 have htn:((i:Int)+1).toNat=i+1:=by omega
 have htm:((n:Int)+1).toNat=n+1:=by omega
 have hb2:¬(cap=i+1):=by omega
 have hb3:(i:Int)<=(n:Int)+1:=by omega
 have hb4:¬(cap=i):=by omega
 have hb5:(i:Int)+1<=(n:Int)+1:=by omega
 have hb6:(n:Int)+1<=(cap:Int):=by omega
 have mx:=zp_
 go_enter Try.func80,Try.ntmps80
 go_wp2_with (simp only[hov])
 go_region_law_o (refine up_ rfl _ _ 37 37 rfl _ _ (by simp[Act.eval,Act.put]) (by simp[Act.eval,Act.put]) (C1 _ _ _) ?_)
 go_wp2_with (at_builtin;refine vc_ _ rfl _ _ 37 37 rfl _ _ rfl rfl (C2 _ _) ?_)
 go_ret
 exact⟨rfl,rfl⟩
def z36:Value:=.agg #[.int .i64 0,.int .i64 0]
theorem mv_(w:World)(k n cap i kv vc:Nat)(cur cx:Array Value)(cs vs:List Value)(hi:i<n)(hn:cap<n+1)(hnc:n<=cap)(hn6:n<=1000000)(hh:w.heap[k]?=some (.cells cur 36 (0,0)))(hsz:cur.size=cap*2)(hcs:cur.toList.take (n*2)=cs)
 (hx:w.heap[kv]?=some (.cells cx 36 (0,0))) (hvs:cx.toList.take 2=vs) (hvl:vs.length=2) (hne:kv≠k) (h1c:∀v∈cs,v.oneCell'=true) (h1v:∀v∈vs,v.oneCell'=true) :
 Calls Try.prog 80 #[.slice (some ⟨k,0,none⟩) n cap,.int .i64 i,.slice (some ⟨kv,0,none⟩) 1 vc] w fun e w'=>∃(G:Nat) (ROW:Array Value),n+1<=G/\G<=maxLen/\ROW.size=G*2/\ROW.toList.take (i*2)=cs.take (i*2) /\
  e=.returned (.slice (some ⟨w.heap.size,0,none⟩) (n+1) G)/\w'=(((w.alloc (.cells ROW 36)).drew.setCells w.heap.size (i*2) vs).drew).setCells w.heap.size ((i+1)*2) (cs.drop (i*2)):=by
 have hkw:k<w.heap.size:=(zzm_.1 hh).1
 have hvw:kv<w.heap.size:=(zzm_.1 hx).1
 have hcl:cs.length=n*2:=by rw[<-hcs];simp;omega
 have hff:∀W:World,∀c:Array Value,∀b j,W.heap[b]?=some (.cells c 36 (0,0))->W.frozen? ⟨b,j,none⟩=false:=fun W c b j h=>by simp[World.frozen?,h]
 have hcv:∀W:World,W.heap[k]?=some (.cells cur 36 (0,0))->∀j v,cs[j]?=some v->W.cell? ⟨k,j,none⟩=some v:=fun W hW j v hj=>by
  rw[<-hcs,zzu_]at hj
  split at hj
  .simpa[World.cell?,hW] using hj
  .cases hj
 have hvv:∀W:World,W.heap[kv]?=some (.cells cx 36 (0,0))->∀j v,vs[j]?=some v->W.cell? ⟨kv,j,none⟩=some v:=fun W hW j v hj=>by
  rw[<-hvs,zzu_]at hj
  split at hj
  .simpa[World.cell?,hW] using hj
  .cases hj
 have hsz2:(Try.prog.info? 36).map (·.size)=some 2:=by kernel_rfl
 obtain⟨i0,hi0,hz0,hzs,hzb⟩:∃i0,Try.prog.info? 36=some i0/\i0.zero=some z36/\i0.size=2/\i0.bytes=16:=⟨_,rfl,by kernel_rfl,by kernel_rfl,by kernel_rfl⟩
 have hold:(Builtin.firstCells i0.size i (.slice (some ⟨k,0,none⟩) i cap)).run Try.prog w.drew=.ok (cs.take (i*2)).toArray w.drew:=by
  rw[hzs]
  exact run_firstCells_some w.drew 2 i ⟨k,0,none⟩ i cap (cs.take (i*2)) (by rw[List.length_take];omega) (fun j v hj=>by
   rw[Addr.add_lit,Nat.zero_add]
   rw[zzu_]at hj
   split at hj
   .exact hcv w.drew hh j v hj
   .cases hj)
 have hik:i+(n+1-i)=n+1:=by omega
 have hkk:(n:Int)+1-(i:Int)=((n+1-i:Nat):Int):=by omega
 obtain⟨G,hG⟩:∃G,G=grownCap w (n+1) cap 36:=⟨_,rfl⟩
 have hGn:n+1<=G:=by rw[hG];exact grownCap_ge w _ _ _
 have hGm:G<=maxLen:=by rw[hG];exact grownCap_le_maxLen w (n+1) cap 36 (by unfold maxLen;omega)
 obtain⟨ROW,hROW⟩:∃ROW:Array Value,ROW=(cs.take (i*2)).toArray++Builtin.zeroCells z36.cells (n+1-i)++Builtin.zeroCells z36.cells (G-(n+1)):=⟨_,rfl⟩
 have hzc:∀m,(Builtin.zeroCells z36.cells m).size=m*2:=fun m=>by simp[Builtin.zeroCells,z36,Value.cells]
 have hRs:ROW.size=G*2:=by
  rw[hROW]
  simp only[Array.size_append,hzc,List.size_toArray,List.length_take,hcl]
  omega
 have hRt:ROW.toList.take (i*2)=cs.take (i*2):=by
  rw[hROW]
  simp only[Array.toList_append,zzq_]
  rw[yyr_ (by simp;omega),zzx_ (by simp;omega)]
 have hrz:∀ty,(Builtin.append_ #[37,3] ty #[.slice (some ⟨k,0,none⟩) i cap,.int .i64 ((n:Int)+1-(i:Int))]).run Try.prog w=.ok (.slice (some ⟨w.heap.size,0,none⟩) (n+1) G) (w.drew.alloc (.cells ROW 36)):=fun ty=>by
  have h:=Lib.run_append_grow_zeros (P:=Try.prog) w 37 3 ty 36 i0 _ .i64 .i64 Try.underlying37 (by kernel_rfl) hi0 hz0 (some ⟨k,0,none⟩) i cap (cs.take (i*2)) hold (n+1-i) (by omega) (by omega) (by omega) (by omega) (by rw[hzb];omega) (by rw[hzb,hik];exact growslice_fits hn (by omega))
  rw[hik]at h
  rw[hkk,hROW,hG]
  exact h
 clear hkk hik hold hROW hG hzc
 obtain⟨W1,hW1⟩:∃W1,W1=(w.alloc (.cells ROW 36)).drew:=⟨_,rfl⟩
 have hH:W1.heap[w.heap.size]?=some (.cells ROW 36 (0,0)):=by rw[hW1];exact heap_alloc_new w _
 have hk1:W1.heap[k]?=some (.cells cur 36 (0,0)):=by rw[hW1];exact(Below.heap_alloc w _ k hkw).trans hh
 have hv1:W1.heap[kv]?=some (.cells cx 36 (0,0)):=by rw[hW1];exact(Below.heap_alloc w _ kv hvw).trans hx
 have hcpA:∀ty dc,(Builtin.copy_ #[37,37] ty #[.slice (some ⟨w.heap.size,i*2,none⟩) (n+1-i) dc,.slice (some ⟨kv,0,none⟩) 1 vc]).run Try.prog W1=.ok (goInt 1) (W1.setCells w.heap.size (i*2) vs):=fun ty dc=>by
  have h:=w2_ (P:=Try.prog) W1 37 37 ty 36 2 w.heap.size (i*2) (n+1-i) dc ⟨kv,0,none⟩ 1 vc vs Try.underlying37 hsz2 (by rw[hvl,show Nat.min 1 (n+1-i)=1 by simp only[Nat.min_def];split<;>omega])
   (fun j v hj=>by rw[Addr.add_lit,Nat.zero_add];exact hvv W1 hv1 j v hj)
   (fun j hj=>by rw[hvl]at hj;simp only[World.cell?,hH];simp;omega) (fun j hj=>hff W1 _ _ _ hH) h1v
  rw[show Nat.min 1 (n+1-i)=1 by simp only[Nat.min_def];split<;>omega]at h
  exact h
 obtain⟨row2,hr1,hr2,hr3⟩:=zw_ vs (i*2) W1 w.heap.size ROW 36 hH (by omega)
 have hk2:(W1.setCells w.heap.size (i*2) vs).heap[k]?=some (.cells cur 36 (0,0)):=by
  rw[zv_ (zzm_.1 hk1).1 (by omega)];exact hk1
 obtain⟨W2,hW2⟩:∃W2,W2=(W1.setCells w.heap.size (i*2) vs).drew:=⟨_,rfl⟩
 have hr1:W2.heap[w.heap.size]?=some (.cells row2 36 (0,0)):=by rw[hW2];exact hr1
 have hk2:W2.heap[k]?=some (.cells cur 36 (0,0)):=by rw[hW2];exact hk2
 have hcpB:∀ty dc sc,(Builtin.copy_ #[37,37] ty #[.slice (some ⟨w.heap.size,(i+1)*2,none⟩) (n-i) dc,.slice (some ⟨k,i*2,none⟩) (n-i) sc]).run Try.prog W2=.ok (goInt ((n-i:Nat):Int)) (W2.setCells w.heap.size ((i+1)*2) (cs.drop (i*2))):=fun ty dc sc=>by
  have h:=w2_ (P:=Try.prog) W2 37 37 ty 36 2 w.heap.size ((i+1)*2) (n-i) dc ⟨k,i*2,none⟩ (n-i) sc (cs.drop (i*2)) Try.underlying37 hsz2 (by rw[List.length_drop,hcl,show Nat.min (n-i) (n-i)=n-i by simp only[Nat.min_def];split<;>omega];omega)
   (fun j v hj=>by rw[Addr.add_lit];exact hcv W2 hk2 _ v (by rwa [zzA_]at hj))
   (fun j hj=>by rw[List.length_drop,hcl]at hj;simp only[World.cell?,hr1];simp;omega) (fun j hj=>hff W2 _ _ _ hr1) (fun v hv=>h1c v (yyl_ hv))
  rw[show Nat.min (n-i) (n-i)=n-i by simp only[Nat.min_def];split<;>omega]at h
  exact h
 clear hff hcv hvv hH hk1 hv1 hr1 hk2 hr3
 subst hW2
 subst hW1
 have hG63:G<=9223372036854775807:=by unfold maxLen at hGm;omega
 have hz2:¬((i:Int)=(n:Int)):=by omega
 have hz3:((i:Int)==(n:Int))=false:=by simpa using hz2
 have hz4:(cap:Int)<(n:Int)+1:=by omega
 have hw0:IntKind.i64.wrap ((n:Int)+1)=(n:Int)+1:=by rw[yye_];omega
 have hw1:IntKind.i64.wrap ((i:Int)+1)=(i:Int)+1:=by rw[yye_];omega
 have hw2:IntKind.i64.wrap ((n:Int)+1-(i:Int))=(n:Int)+1-(i:Int):=by rw[yye_];omega
 have hb1:(0:Int)<=(i:Int)+1:=by omega
 have hin:i<=n:=by omega
 have htn:((i:Int)+1).toNat=i+1:=by omega
 have hb3:(i:Int)<=(n:Int):=by omega
 have hGi:¬(G=i):=by omega
 have hGim:¬(G=i+1):=by omega
 have hci:¬(cap=i):=by omega
 have hic:i<=cap:=by omega
 have hb6:(i:Int)<=(n:Int)+1:=by omega
 have mx:=zp_
 go_enter Try.func80,Try.ntmps80
 go_wp2_with (first
  |(at_builtin;refine Lib.wpList_append_run _ rfl _ _ _ _ rfl _ _ rfl rfl _ _ (hrz _) ?_)
  |(at_builtin;refine vc_ _ rfl _ _ 37 37 rfl _ _ rfl rfl (hcpA _ _) ?_))
 go_region_law_o (refine up_ rfl _ _ 37 37 rfl _ _ (by simp[Act.eval,Act.put]) (by simp[Act.eval,Act.put]) (hcpB _ _ _) ?_)
 go_wp2
 go_ret
 exact⟨G,ROW,hGn,hGm,hRs,hRt,rfl,rfl⟩
section
section
variable{P:Program}{g:Gh}{w:World}
theorem iK_{e z:Nat}{xs:List V}{v:Value}(hr:Rep g w (.own true e z xs) v)(hlt:∀k,0<g.I k->k<w.heap.size)(hk:∀k,rb v=some k->g.I k=0/\k<w.heap.size):Bd g w [.own true e z xs] #[v] []/\∀k,OwnB g w [.own true e z xs] #[v] [] k->rb v=some k:=by
 generalize hy:V.own true e z xs=y at *
 have hat:∀l x,(Stn [y] []).at l=some x->l=.var 0/\x=y:=by
  intro l x hx
  cases l with
  | var i =>
    cases i with
    |zero=>simp[Stn,St.at]at hx;exact⟨rfl,hx.symm⟩
    |succ i=>simp[Stn,St.at]at hx
  |cell b o=>simp[Stn,St.at]at hx
 have hval:z7_ (Frn 1) g w ⟨#[v],[]⟩ (.var 0)=some v:=by simp[z7_,Frn,Act.tv]
 have hvar:∀u,z7_ (Frn 1) g w ⟨#[v],[]⟩ (.var 0)=some u->u=v:=fun u h=>by rw[hval]at h;exact(Option.some.inj h).symm
 have hno:∀ {t p x},((Stn [y] []).tm t).sub p=some x->x=.no:=by
  intro t p x hs
  cases p<;>simp[Stn,V.sub]at hs
  exact hs.symm
 have hsub:∀ {p x},y.sub p=some x->p=[]/\x=y:=by
  intro p x hs
  subst hy
  cases p with
  |nil=>simp[V.sub]at hs;exact⟨rfl,hs.symm⟩
  |cons i p=>simp[V.sub]at hs
 have hnl:∀ {d e0 e z:Nat} {xs:List V},y≠.lent d e0 e z xs:=by
  intro d e0 e z xs q
  subst hy
  cases q
 have hown:∀r p k,Own (Frn 1) g w (Stn [y] []) ⟨#[v],[]⟩ r p k->r=.l (.var 0)/\p=[]/\rb v=some k:=by
  intro r p k ⟨x,u,hh,ho⟩
  cases r with
  | t t =>
    obtain⟨rfl,rfl⟩:=hh
    rcases ho with ⟨_,_,_,_,q,_⟩|⟨_,q,_⟩
    .cases hno q
    .simp[Stn,zk_]at q
  | l l =>
    obtain⟨rfl,rfl⟩:=hat l x hh.1
    obtain rfl:=hvar u hh.2
    rcases ho with ⟨e,z,xs,u',q,q1,q2⟩|⟨_,q,_⟩
    .obtain⟨rfl,_⟩:=hsub q
     simp[vsub]at q1
     subst q1
     exact⟨rfl,rfl,q2⟩
    .obtain⟨d,e,z,xs,q1,_⟩:=z3_ q
     exact absurd q1 hnl
 refine⟨⟨rfl,rfl,?_,?_,?_,?_,?_,?_,?_,?_,?_,?_,?_,hlt,?_,?_,?_,?_⟩,fun k ho=>?_⟩
 .intro r x u hh
  cases r with
  |t t=>obtain⟨rfl,rfl⟩:=hh;exact .no
  | l l =>
    obtain⟨rfl,rfl⟩:=hat l x hh.1
    obtain rfl:=hvar u hh.2
    exact hr
 .intro l x hx
  obtain⟨rfl,rfl⟩:=hat l x hx
  exact⟨v,hval,fun ⟨b,o,q⟩=>by cases q⟩
 .intro l d e z xs u hx _
  obtain⟨_,q⟩:=hat l _ hx
  exact absurd q.symm hnl
 .intro b cs hb;simp[Stn]at hb
 .intro b b' hb;simp[Stn]at hb
 .intro r x u p b o hh hs
  cases r with
  |t t=>obtain⟨rfl,rfl⟩:=hh;cases hno hs
  | l l =>
    obtain⟨rfl,rfl⟩:=hat l x hh.1
    obtain⟨_,q⟩:=hsub hs
    subst hy
    cases q
 .intro r p k ho
  obtain⟨_,_,h⟩:=hown r p k ho
  exact⟨(hk k h).1,(hk k h).2,fun b hb=>by simp[Stn]at hb⟩
 .intro r p r' p' k h1 h2
  obtain⟨a1,a2,_⟩:=hown r p k h1
  obtain⟨b1,b2,_⟩:=hown r' p' k h2
  exact⟨a1.trans b1.symm,a2.trans b2.symm⟩
 .intro t p x u hx hu
  cases hno hx
  trivial
 .intro l x hx p
  obtain⟨rfl,rfl⟩:=hat l x hx
  refine⟨?_,?_,?_,?_⟩<;>intros<;>intro hs<;>obtain⟨_,q⟩:=hsub hs<;>subst hy<;>cases q
 .intro t p d e0 e z xs hs
  cases hno hs
 .intro t _;rfl
 .intro t p x hx
  cases hno hx
  exact zzn_ _
 .intro l x hx
  obtain⟨rfl,rfl⟩:=hat l x hx
  subst hy
  exact zzn_ _
 .intro l d e z xs u k hx
  obtain⟨_,q⟩:=hat l _ hx
  exact absurd q.symm hnl
 .rcases ho with ⟨r,p,ho⟩|⟨b,hb,_⟩
  .exact(hown r p k ho).2.2
  .simp[Stn]at hb
theorem lK_{f:Nat}{args:List V}{e z:Nat}{ys:List V} (h:∀g w vals,Bd g w args vals []->Calls P f vals w fun e' w'=>∃v,e'=.returned v/\Rep g w' (.own true e z ys) v/\w'.os=w.os/\w'.tape=w.tape/\w'.output=w.output/\w.heap.size<=w'.heap.size /\
 (∀k,k<w.heap.size->¬OwnB g w args vals [] k->w'.heap[k]?=w.heap[k]?)/\(∀k,rb v=some k->(OwnB g w args vals [] k\/w.heap.size<=k)/\k<w'.heap.size)):AC P f args [] fun r bs=>r=.own true e z ys/\bs=[]:=by
 intro g w vals hb
 refine(h g w vals hb).mono ?_
 rintro e' w' ⟨v,rfl,hr,h1,h2,h3,h4,h5,h6⟩
 have hI:∀k,OwnB g w args vals [] k->g.I k=0:=fun k ho=>by
  rcases ho with ⟨r,p,ho⟩|⟨b,hbx,_⟩
  .exact(hb.ownI r p k ho).1
  .simp[Stn]at hbx
 obtain⟨q1,q2⟩:=iK_ hr (fun k hk=>zzk_ (hb.Ilt k hk) h4) fun k hk=>⟨by
  rcases(h6 k hk).1 with ho|ho
  .exact hI k ho
  .by_cases h0:0<g.I k
   .have:=hb.Ilt k h0;omega
   .omega,(h6 k hk).2⟩
 exact⟨v,_,[],g,rfl,⟨rfl,rfl⟩,rfl,q1,h1,h2,h3,h4,fun k hk hn=>⟨h5 k hk hn,rfl⟩,fun k hk=>(h6 k (q2 k hk)).1,fun b hb=>by simp at hb⟩
end
def fl(l:List Sg):List Value:=l.flatMap fun s=>[.int .i64 s.t,.int .i64 s.s]
theorem xV_:∀(l:List Sg),flat (sl l)=(fl l).map .s
 |[]=>rfl
 | x :: r => by
   have:=xV_ r
   simp only[sl,List.map_cons,flat,fl,List.flatMap_cons,List.map_append]at this ⊢
   rw[this]
   rfl
theorem wG_(l:List Sg):(fl l).length=l.length*2:=by
 induction l with
 |nil=>rfl
 |cons x r ih=>simp only[fl,List.flatMap_cons,zzr_,List.length_cons,List.length_nil]at ih ⊢;omega
theorem sw_(a b:List Sg):fl (a++b)=fl a++fl b:=by simp[fl]
theorem j1_(l:List Sg):∀i,(fl l).take (i*2)=fl (l.take i):=by
 induction l with
 |nil=>simp[fl]
 | cons x r ih =>
   intro i
   cases i with
   |zero=>simp[fl]
   |succ i=>rw[yyn_,List.take_succ_cons];simp only[fl,List.flatMap_cons,Nat.one_mul]at ih ⊢;simp[ih i]
theorem j2_(l:List Sg):∀i,(fl l).drop (i*2)=fl (l.drop i):=by
 induction l with
 |nil=>simp[fl]
 | cons x r ih =>
   intro i
   cases i with
   |zero=>simp[fl]
   |succ i=>rw[yyn_,List.drop_succ_cons];simp only[fl,List.flatMap_cons,Nat.one_mul]at ih ⊢;simp[ih i]
theorem uJ_(l:List Sg):∀v∈fl l,v.oneCell'=true:=by
 intro v hv
 simp only[fl,List.mem_flatMap]at hv
 obtain⟨s,_,h⟩:=hv
 simp at h
 rcases h with rfl|rfl<;>rfl
theorem rQ_(l:List Sg):∀x∈sl l,(cellsOf x).length=2:=by
 intro x hx
 simp only[sl,List.mem_map]at hx
 obtain⟨s,_,rfl⟩:=hx
 rfl
theorem oq_{g:Gh}{w:World}{l:List Sg}{v:Value}(h:Rep g w (.own true 36 2 (sl l)) v)(hl:l≠[]) :
 ∃k cap cur,v=.slice (some ⟨k,0,none⟩) l.length cap/\l.length<=cap/\cap<=maxLen/\0<cap/\w.heap[k]?=some (.cells cur 36 (0,0))/\cur.size=cap*2/\cur.toList.take (l.length*2)=fl l:=by
 generalize hx:sl l=xs at h
 cases h with
 | own vals h0 hc hm hh hs hz hi hcell hrep =>
   rename_i k cap cur
   subst hx
   have hll:(sl l).length=l.length:=by simp[sl]
   refine⟨k,cap,cur,by rw[hll],by omega,hm,h0,hh,hs,?_⟩
   refine List.ext_getElem? fun j=>?_
   rw[zzu_]
   split
   .next hj =>
    have hj':j<(flat (sl l)).length:=by rw[xV_,List.length_map,wG_];exact hj
    have h1:=hcell j hj'
    have h2:=hrep j _ (zzf_ hj')
    have h3:(fl l)[j]?=some ((fl l)[j]'(by rw[wG_];exact hj)):=zzf_ _
    have h4:(flat (sl l))[j]=.s ((fl l)[j]'(by rw[wG_];exact hj)):=by simp[xV_]
    rw[h4]at h2
    rw[h3,Array.getElem?_toList,h1]
    generalize vals j=u at h2
    generalize (fl l)[j]'(by rw[wG_];exact hj)=c at h2
    cases h2
    rfl
   .next hj=>rw[List.getElem?_eq_none (by rw[wG_];omega)]
 | own0 => cases l with
   |nil=>exact absurd rfl hl
   |cons x r=>simp[sl]at hx
theorem oF_{g:Gh}{w:World}{l:List Sg}{k cap:Nat}{cur:Array Value}(hc:l.length<=cap)(hm:cap<=maxLen)(hh:w.heap[k]?=some (.cells cur 36 (0,0)))(hs:cur.size=cap*2)(ht:cur.toList.take (l.length*2)=fl l) :
 Rep g w (.own true 36 2 (sl l)) (.slice (some ⟨k,0,none⟩) l.length cap):=by
 have hll:(sl l).length=l.length:=by simp[sl]
 refine Rep.of_owns (cells:=fl l) (by rw[hll];exact⟨wG_ l,.inr ⟨k,cap,cur,rfl,zzn_ _,hh,hc,hm,hs,ht⟩⟩) (rQ_ l) (fun u hu=>?_) (fun j u hu=>?_)
 .rw[xV_]at hu
  obtain⟨c,_,rfl⟩:=List.mem_map.1 hu
  rfl
 .rw[xV_,zzs_]at hu
  cases hc:(fl l)[j]? with
  |none=>rw[hc]at hu;cases hu
  | some c =>
    rw[hc]at hu
    cases hu
    exact⟨c,rfl,.s (uJ_ l c (zzd_ hc))⟩
end
def insS(l:List Sg)(i:Nat)(x:Sg):List Sg:=l.take i++x::l.drop i
theorem x6_{l:List Sg}{i:Nat}{x:Sg}(h:i<=l.length):(insS l i x).length=l.length+1:=by simp[insS];omega
theorem oV_(l:List Sg)(i:Nat)(x:Sg):fl (insS l i x)=(fl l).take (i*2)++fl [x]++(fl l).drop (i*2):=by
 rw[j1_,j2_,<-sw_,<-sw_]
 simp[insS]
theorem qC_{g:Gh}{w:World}{a b c:V}{vals:Array Value}(h:Bd g w [a,b,c] vals []):∃u v x,vals=#[u,v,x]/\Rep g w a u/\Rep g w b v/\Rep g w c x:=by
 have hs:vals.size=3:=h.sz
 obtain⟨l⟩:=vals
 match l,hs with
 | [u, v, x], _ =>
   have hv:∀i y,i<3->[u,v,x][i]?=some y->z7_ (Frn 3) g w ⟨#[u,v,x],[]⟩ (.var i)=some y:=fun i y hi hy=>by
    match i,hi with
    |0,_=>simp[z7_,Frn,Act.tv]at hy ⊢;exact hy
    |1,_=>simp[z7_,Frn,Act.tv]at hy ⊢;exact hy
    |2,_=>simp[z7_,Frn,Act.tv]at hy ⊢;exact hy
   exact⟨u,v,x,rfl,h.rep (.l (.var 0)) a u ⟨rfl,hv 0 u (by omega) rfl⟩,h.rep (.l (.var 1)) b v ⟨rfl,hv 1 v (by omega) rfl⟩,h.rep (.l (.var 2)) c x ⟨rfl,hv 2 x (by omega) rfl⟩⟩
theorem vT_{g:Gh}{w:World}{args:List V}{vals:Array Value}{i:Nat}{e z:Nat}{xs:List V}{v:Value}{k:Nat}(hi:args[i]?=some (.own true e z xs))(hv:z7_ (Frn args.length) g w ⟨vals,[]⟩ (.var i)=some v)(hk:rb v=some k) :
 Own (Frn args.length) g w (Stn args []) ⟨vals,[]⟩ (.l (.var i)) [] k:=⟨_,v,⟨hi,hv⟩,.inl ⟨e,z,xs,v,rfl,rfl,hk⟩⟩
theorem oT_(w:World)(n:Nat)(A:Option Addr)(cap:Nat)(x v':Value)(w':World)(hc:n<=cap)(h63:cap<=maxLen)(hA:A=none->cap=0)(xa:Option Addr)(vc:Nat)(hx:x=.slice xa 1 vc)(hrun:∀ty,(Builtin.append_ #[37,37] ty #[.slice A n cap,x]).run Try.prog w=.ok v' w') :
 Calls Try.prog 80 #[.slice A n cap,.int .i64 n,x] w fun e w1=>e=.returned v'/\w1=w':=by
 subst hx
 have H:=Lib.hid hrun
 have hn63:cap<=9223372036854775807:=by unfold maxLen at h63;omega
 have mx:=zp_
 clear hrun
 cases A with
 | none =>
   have h0:=hA rfl
   subst h0
   have hn0:n=0:=by omega
   subst hn0
   go_enter Try.func80,Try.ntmps80
   go_wp2_with (at_builtin;refine Lib.wpList_append_run _ rfl _ _ _ _ rfl _ _ rfl rfl _ _ (H.out _) ?_)
   all_goals go_ret
   all_goals exact⟨rfl,rfl⟩
 | some ad =>
   obtain⟨ab,ao,asp⟩:=ad
   go_enter Try.func80,Try.ntmps80
   go_wp2_with (at_builtin;refine Lib.wpList_append_run _ rfl _ _ _ _ rfl _ _ rfl rfl _ _ (H.out _) ?_)
   all_goals go_ret
   all_goals exact⟨rfl,rfl⟩
theorem r2_{g:Gh}{w:World}{c v:Value}(h:Rep g w (.s c) v):v=c:=by cases h;rfl
theorem oa_{k n cap:Nat}(h:0<cap):rb (.slice (some ⟨k,0,none⟩) n cap)=some k:=by simp[rb];omega
theorem r7_{k j n cap:Nat}(h:rb (.slice (some ⟨k,0,none⟩) n cap)=some j):j=k:=by
 simp[rb]at h
 exact h.2.symm
theorem z8_(k:Nat):∀(vs:List Value) (o:Nat) (W:World),(W.setCells k o vs).os=W.os/\(W.setCells k o vs).tape=W.tape/\(W.setCells k o vs).output=W.output
 |[],_,_=>⟨rfl,rfl,rfl⟩
 | v :: r, o, W => by
   rw[World.setCells]
   exact z8_ k r (o+1) (W.setCell ⟨k,o,none⟩ v)
theorem sN_(l:List Sg)(i:Nat)(x:Sg)(hl:l.length<=1000000)(hi:i<=l.length):AC Try.prog 80 [.own true 36 2 (sl l),.s (.int .i64 i),.own true 36 2 [x.v]] [] fun r bs=>r=.own true 36 2 (sl (insS l i x))/\bs=[]:=by
 refine lK_ fun g w vals hb=>?_
 obtain⟨v0,v1,v2,rfl,r0,r1,r2⟩:=qC_ hb
 obtain rfl:=r2_ r1
 have r2':Rep g w (.own true 36 2 (sl [x])) v2:=r2
 obtain⟨kv,capv,cx,rfl,c1,c2,c3,c4,c5,c6⟩:=oq_ r2' (by simp)
 have hval0:z7_ (Frn 3) g w ⟨#[v0,.int .i64 i,.slice (some ⟨kv,0,none⟩) 1 capv],[]⟩ (.var 0)=some v0:=by simp[z7_,Frn,Act.tv]
 have hval2:z7_ (Frn 3) g w ⟨#[v0,.int .i64 i,.slice (some ⟨kv,0,none⟩) 1 capv],[]⟩ (.var 2)=some (.slice (some ⟨kv,0,none⟩) 1 capv):=by simp[z7_,Frn,Act.tv]
 have own0:∀k,rb v0=some k->OwnB g w [.own true 36 2 (sl l),.s (.int .i64 i),.own true 36 2 [x.v]] #[v0,.int .i64 i,.slice (some ⟨kv,0,none⟩) 1 capv] [] k:=fun k hk=>.inl ⟨_,_,vT_ (i:=0) rfl hval0 hk⟩
 have own2:=vT_ (i:=2) (args:=[.own true 36 2 (sl l),.s (.int .i64 i),.own true 36 2 [x.v]]) rfl hval2 (oa_ (n:=1) c3)
 have hne:∀k,rb v0=some k->kv≠k:=fun k hk e=>by
  subst e
  have h1:=vT_ (i:=0) (args:=[.own true 36 2 (sl l),.s (.int .i64 i),.own true 36 2 [x.v]]) rfl hval0 hk
  have:=(hb.uniq _ _ _ _ _ h1 own2).1
  simp at this
 have hsl:(sl l).length=l.length:=by simp[sl]
 by_cases he:i=l.length
 .subst he
  obtain⟨i0,hi0,hz0,hzs,hzb⟩:∃i0,Try.prog.info? 36=some i0/\i0.zero=some z36/\i0.size=2/\i0.bytes=16:=⟨_,rfl,by kernel_rfl,by kernel_rfl,by kernel_rfl⟩
  have hI:∀k,rb v0=some k->g.I k=0:=fun k hk=>(hb.ownI _ _ _ (vT_ (i:=0) (args:=[.own true 36 2 (sl l),.s (.int .i64 l.length),.own true 36 2 [x.v]]) rfl hval0 hk)).1
  obtain⟨v',w',hrun,ok⟩:=rY_ (P:=Try.prog) (t:=37) (ty:=37) (z:=2) (zv:=z36) (ys:=sl [x]) Try.underlying37 hi0 hz0 hzs (by rfl) (by omega) (by omega) r0 (z':=2) (u:=.slice (some ⟨kv,0,none⟩) 1 capv) r2'.reads_own (.inl rfl) (by rw[hsl];simp[sl,maxLen];omega) (by rw[hsl,hzb];simp[sl,z5_];omega) hI hb.Ilt (rQ_ l) (fun u hu=>by rw[xV_]at hu;obtain⟨c,_,rfl⟩:=List.mem_map.1 hu;rfl)
  have e1:insS l l.length x=l++[x]:=by simp[insS]
  have e2:sl (insS l l.length x)=sl l++sl [x]:=by rw[e1];simp[sl]
  have main:Calls Try.prog 80 #[v0,.int .i64 (l.length:Nat),.slice (some ⟨kv,0,none⟩) 1 capv] w fun e w1=>e=.returned v'/\w1=w':=by
   generalize hx:V.own true 36 2 (sl l)=y at r0
   cases r0 with
   | own vals h0 hc hm hh hs hz hi' hcell hrep =>
     cases hx
     rw[hsl]at hrun hc ⊢
     exact oT_ w l.length _ _ _ v' w' hc hm (fun h=>by cases h) _ _ rfl fun ty=>hrun
   | own0 =>
     have hn:l=[]:=by
      cases l with
      |nil=>rfl
      |cons a r=>simp[sl]at hx
     subst hn
     exact oT_ w 0 _ 0 _ v' w' (by omega) (by simp[maxLen]) (fun _=>rfl) _ _ rfl fun ty=>hrun
   |_=>cases hx
  refine main.mono ?_
  rintro e w1 ⟨rfl,rfl⟩
  refine⟨v',rfl,by rw[e2];exact ok.rep,ok.os,ok.tape,ok.output,ok.size,fun k hk hn=>ok.block k hk fun h=>hn (own0 k h),fun k hk=>⟨?_,?_⟩⟩
  .rcases ok.at_ k hk with h|h
   .exact .inl (own0 k h)
   .exact .inr h
  .have hr:=ok.rep
   generalize hy:V.own true 36 2 (sl l++sl [x])=y at hr
   cases hr with
   | own vals h0 hc hm hh hs hz hi' hcell hrep =>
     have:=r7_ hk
     subst this
     exact(zzm_.1 hh).1
   |own0=>simp[sl]at hy
   |_=>cases hy
 .have hn0:l≠[]:=by rintro rfl;simp at hi;exact he (by simp[hi])
  obtain⟨k,cap,cur,rfl,d1,d2,d3,d4,d5,d6⟩:=oq_ r0 hn0
  have hk:=oa_ (k:=k) (n:=l.length) d3
  have hkw:=(zzm_.1 d4).1
  have hlf:=wG_ l
  have hcx:cx.toList.take 2=fl [x]:=c6
  by_cases hroom:l.length+1<=cap
  .refine(mu_ w k l.length cap i kv capv cur cx (fl l) (fl [x]) (by omega) hroom d2 d4 d5 d6 c4 hcx rfl (hne k hk) (uJ_ l) (uJ_ [x])).mono ?_
   rintro e w' ⟨rfl,rfl⟩
   obtain⟨cur1,q1,q2,q3⟩:=zw_ ((fl l).drop (i*2)) ((i+1)*2) w.drew k cur 36 d4 (by rw[List.length_drop,hlf];omega)
   obtain⟨cur2,p1,p2,p3⟩:=zw_ (fl [x]) (i*2) _ k cur1 36 q1 (by rw[q2];simp[fl];omega)
   have hs1:∀vs o (W:World),(W.setCells k o vs).heap.size=W.heap.size:=fun vs=>by
    induction vs with
    |nil=>intro o W;rfl
    |cons v r ih=>intro o W;rw[World.setCells,ih];simp[World.setCell]
   have hrep:=oF_ (g:=g) (l:=insS l i x) (by rw[x6_ hi];exact hroom) d2 p1 (by rw[p2,q2,d5]) (by
    have e1:cur.toList=fl l++cur.toList.drop (l.length*2):=by rw[<-d6,List.take_append_drop]
    rw[x6_ hi,oV_,p3,q3]
    have hcl:cur.toList.length=cap*2:=by simpa using d5
    generalize cur.toList=C at e1 hcl
    generalize hsp:C.drop (l.length*2)=sp at e1
    have hspl:2<=sp.length:=by rw[<-hsp,List.length_drop];omega
    have ex:(fl [x]).length=2:=rfl
    generalize fl [x]=X at ex
    generalize fl l=L at hlf e1
    subst e1
    rw[ex,show (i+1)*2=i*2+2 by omega]
    have a1:((L++sp).take (i*2+2)).length=i*2+2:=by simp;omega
    have a3:(((L++sp).take (i*2+2)++L.drop (i*2)++(L++sp).drop (i*2+2+(L.drop (i*2)).length)).drop (i*2+2))=L.drop (i*2)++(L++sp).drop (i*2+2+(L.drop (i*2)).length):=by
     rw[zzq_,List.drop_append_of_le_length (by omega),List.drop_eq_nil_of_le (by omega),List.nil_append]
    have a4:((L++sp).take (i*2+2)++L.drop (i*2)++(L++sp).drop (i*2+2+(L.drop (i*2)).length)).take (i*2)=L.take (i*2):=by
     rw[zzq_,yyr_ (by omega),List.take_take,Nat.min_eq_left (by omega),yyr_ (by omega)]
    rw[a3,a4,<-List.append_assoc,yyr_ (by simp;omega),zzx_ (by simp;omega)])
   rw[x6_ hi]at hrep
   refine⟨_,rfl,hrep,?_,?_,?_,?_,fun j hj hn=>?_,fun j hj=>?_⟩
   .rw[(z8_ _ _ _ _).1,(z8_ _ _ _ _).1];rfl
   .rw[(z8_ _ _ _ _).2.1,(z8_ _ _ _ _).2.1];rfl
   .rw[(z8_ _ _ _ _).2.2,(z8_ _ _ _ _).2.2];rfl
   .rw[hs1,hs1];exact zzl_ _
   .have hjk:j≠k:=by rintro rfl;exact hn (own0 _ hk)
    rw[zv_ (by rw[hs1];exact hj) hjk,zv_ (w:=w.drew) hj hjk]
    rfl
   .have:=r7_ hj
    subst this
    exact⟨.inl (own0 _ hk),by rw[hs1,hs1];exact hkw⟩
  .refine(mv_ w k l.length cap i kv capv cur cx (fl l) (fl [x]) (by omega) (by omega) d1 hl d4 d5 d6 c4 hcx rfl (hne k hk) (uJ_ l) (uJ_ [x])).mono ?_
   rintro e w' ⟨G,ROW,g1,g2,g3,g4,rfl,rfl⟩
   have hH:((w.alloc (.cells ROW 36)).drew).heap[w.heap.size]?=some (.cells ROW 36 (0,0)):=heap_alloc_new w _
   obtain⟨cur1,q1,q2,q3⟩:=zw_ (fl [x]) (i*2) ((w.alloc (.cells ROW 36)).drew) w.heap.size ROW 36 hH (by simp[fl];omega)
   obtain⟨cur2,p1,p2,p3⟩:=zw_ ((fl l).drop (i*2)) ((i+1)*2) (((w.alloc (.cells ROW 36)).drew.setCells w.heap.size (i*2) (fl [x])).drew) w.heap.size cur1 36 q1 (by rw[q2,List.length_drop,hlf];omega)
   have hs1:∀vs o (W:World),(W.setCells w.heap.size o vs).heap.size=W.heap.size:=fun vs=>by
    induction vs with
    |nil=>intro o W;rfl
    |cons v r ih=>intro o W;rw[World.setCells,ih];simp[World.setCell]
   have hrep:=oF_ (g:=g) (l:=insS l i x) (by rw[x6_ hi];exact g1) g2 p1 (by rw[p2,q2,g3]) (by
    rw[x6_ hi,oV_,p3,q3]
    have hcl:ROW.toList.length=G*2:=by simpa using g3
    have ex:(fl [x]).length=2:=rfl
    generalize ROW.toList=C at g4 hcl
    generalize fl [x]=X at ex
    generalize fl l=L at hlf g4
    rw[ex,g4,show (i+1)*2=i*2+2 by omega]
    have a1:(L.take (i*2)++X).length=i*2+2:=by simp;omega
    generalize hT:L.take (i*2)++X=T at a1
    have a2:(T++C.drop (i*2+2)).take (i*2+2)=T:=by rw[yyr_ (by omega),zzx_ (by omega)]
    rw[a2,yyr_ (by simp;omega),zzx_ (by simp;omega)])
   rw[x6_ hi]at hrep
   have hsz:((w.alloc (.cells ROW 36)).drew).heap.size=w.heap.size+1:=by simp[World.drew]
   refine⟨_,rfl,hrep,?_,?_,?_,?_,fun j hj hn=>?_,fun j hj=>?_⟩
   .rw[(z8_ _ _ _ _).1];exact((z8_ _ _ _ _).1).trans rfl
   .rw[(z8_ _ _ _ _).2.1];exact((z8_ _ _ _ _).2.1).trans rfl
   .rw[(z8_ _ _ _ _).2.2];exact((z8_ _ _ _ _).2.2).trans rfl
   .rw[hs1];show w.heap.size<=(World.setCells _ _ _ _).heap.size;rw[hs1,hsz];omega
   .have hjk:j≠w.heap.size:=by omega
    rw[zv_ (by show j<(World.setCells _ _ _ _).heap.size;rw[hs1,hsz];omega) hjk]
    show (World.setCells _ _ _ _).heap[j]?=_
    rw[zv_ (by rw[hsz];omega) hjk]
    exact Below.heap_alloc w _ j hj
   .have:=r7_ hj
    subst this
    exact⟨.inr (zzl_ _),by rw[hs1];show _<(World.setCells _ _ _ _).heap.size;rw[hs1,hsz];omega⟩
theorem nj_(w:World)(k n cap:Nat)(cur:Array Value)(cs:List Value)(hn:0<n)(hnc:n<=cap)(hm:cap<=maxLen)(hh:w.heap[k]?=some (.cells cur 36 (0,0)))(hsz:cur.size=cap*2)(hcs:cur.toList.take (n*2)=cs)(h1c:∀v∈cs,v.oneCell'=true) :
 Calls Try.prog 72 #[.slice (some ⟨k,0,none⟩) n cap,.int .i64 0,.int .i64 1] w fun e w'=>e=.returned (.slice (some ⟨k,0,none⟩) (n-1) cap)/\w'=(w.drew.setCells k 0 (cs.drop 2)).setCells k ((n-1)*2) [.int .i64 0,.int .i64 0]:=by
 have hcl:cs.length=n*2:=by rw[<-hcs];simp;omega
 have hff:∀W:World,∀c:Array Value,∀b j,W.heap[b]?=some (.cells c 36 (0,0))->W.frozen? ⟨b,j,none⟩=false:=fun W c b j h=>by simp[World.frozen?,h]
 have hcv:∀j v,cs[j]?=some v->w.cell? ⟨k,j,none⟩=some v:=fun j v hj=>by
  rw[<-hcs,zzu_]at hj
  split at hj
  .simpa[World.cell?,hh] using hj
  .cases hj
 obtain⟨i0,hi0,hz0,hzs,hzb⟩:∃i0,Try.prog.info? 36=some i0/\i0.zero=some z36/\i0.size=2/\i0.bytes=16:=⟨_,rfl,by kernel_rfl,by kernel_rfl,by kernel_rfl⟩
 obtain⟨news,hnews⟩:∃news,news=cs.drop 2:=⟨_,rfl⟩
 have hlen:news.length=(n-1)*2:=by rw[hnews,List.length_drop,hcl];omega
 obtain⟨A,hA,hsrc⟩:∃A:Addr,(if cap=1 then some (⟨k,0,none⟩:Addr) else some ⟨k,2,none⟩)=some A/\(∀t u,news[t]?=some u->w.drew.cell? (A.add t)=some u):=by
  by_cases h:cap=1
  .refine⟨⟨k,0,none⟩,by simp[h],fun t u hu=>?_⟩
   have h0:news.length=0:=by rw[hlen];omega
   rw[List.length_eq_zero_iff.1 h0]at hu
   simp at hu
  .refine⟨⟨k,2,none⟩,by simp[h],fun t u hu=>?_⟩
   rw[hnews,zzA_]at hu
   rw[Addr.add_lit]
   exact hcv _ u hu
 have s2:∀u∈news,u.oneCell'=true:=fun u hu=>h1c u (yyl_ (hnews ▸ hu))
 have s3:∀t,t<news.length->(w.drew.cell? ⟨k,0+0*2+t,none⟩).isSome=true/\w.drew.frozen? ⟨k,0+0*2+t,none⟩=false:=fun t ht=>by
  refine⟨?_,hff w.drew _ _ _ hh⟩
  have hh':w.drew.heap[k]?=some (.cells cur 36 (0,0)):=hh
  simp only[World.cell?,hh']
  simp
  omega
 obtain⟨cur1,q1,q2,q3⟩:=zw_ news 0 w.drew k cur 36 hh (by omega)
 obtain⟨W1,hW1⟩:∃W1,W1=w.drew.setCells k 0 news:=⟨_,rfl⟩
 rw[<-hW1]at q1
 have hv36:∀w,(zeroValue 36).run Try.prog w=.ok z36 w:=fun w=>by rfl
 have hcl2:∀ty,(Builtin.clear_ #[37] ty #[.slice (some ⟨k,(n-1)*2,none⟩) (n-(n-1)) (cap-(n-1))]).run Try.prog W1=.ok (.tuple #[]) (W1.setCells k ((n-1)*2) [.int .i64 0,.int .i64 0]):=fun ty =>
  r0_ (P:=Try.prog) W1 37 36 ty z36 Try.underlying37 hv36 [.int .i64 0,.int .i64 0] k ((n-1)*2) (n-(n-1)) (cap-(n-1)) (by rw[show n-(n-1)=1 by omega];kernel_rfl) (fun v hv=>by simp at hv;rw[hv];rfl) (by omega)
   (fun j hj=>by simp only[World.cell?,q1];simp at hj ⊢;omega) (fun j hj=>hff W1 _ _ _ q1)
 have S1:=Lib.hid hlen
 have S2:=Lib.hid s2
 have S3:=Lib.hid s3
 have SR:=Lib.hid hsrc
 have HX:=Lib.hid hW1
 have HN:=Lib.hid hnews
 have C:=hcl2
 clear hW1 hnews hcl2 s2 s3 hsrc hcv hff q1 q2 q3 hlen
 have hcap63:cap<=9223372036854775807:=by unfold maxLen at hm;omega
 have h1n:1<=n:=hn
 have h1cap:1<=cap:=by omega
 have h1ni:(1:Int)<=(n:Int):=by omega
 have mx:=zp_
 go_enter Try.func72,Try.ntmps72
 go_wp2_with fail
 go_region_law_o (refine step_append_room rfl (.tmp 22) (.tmp 25) 37 rfl 36 i0 2 Try.underlying37 hi0 hzs k 0 0 cap (by simp[Act.eval,Act.put]) A (n-1) (cap-1) news (by simp[Act.eval,Act.put,hA]) S1.out SR.out S2.out (by omega) S3.out ?_;rw[<-HX.out])
 go_wp2_with (at_builtin;refine uS_ _ rfl _ 37 rfl _ rfl (C _) ?_)
 go_ret
 exact⟨rfl,by rw[HX.out,HN.out]⟩
theorem sO_(x:Sg)(r:List Sg):AC Try.prog 72 [.own true 36 2 (sl (x::r)),.s (.int .i64 0),.s (.int .i64 1)] [] fun q bs=>q=.own true 36 2 (sl r)/\bs=[]:=by
 refine lK_ fun g w vals hb=>?_
 obtain⟨v0,v1,v2,rfl,r0,r1,r2⟩:=qC_ hb
 obtain rfl:=r2_ r1
 obtain rfl:=r2_ r2
 have hval0:z7_ (Frn 3) g w ⟨#[v0,.int .i64 0,.int .i64 1],[]⟩ (.var 0)=some v0:=by simp[z7_,Frn,Act.tv]
 have own0:∀k,rb v0=some k->OwnB g w [.own true 36 2 (sl (x::r)),.s (.int .i64 0),.s (.int .i64 1)] #[v0,.int .i64 0,.int .i64 1] [] k:=fun k hk=>.inl ⟨_,_,vT_ (i:=0) rfl hval0 hk⟩
 obtain⟨k,cap,cur,rfl,d1,d2,d3,d4,d5,d6⟩:=oq_ r0 (by simp)
 have hk:=oa_ (k:=k) (n:=(x::r).length) d3
 have hkw:=(zzm_.1 d4).1
 have hlf:=wG_ (x::r)
 have hl1:(x::r).length=r.length+1:=rfl
 refine(nj_ w k (x::r).length cap cur (fl (x::r)) (by omega) d1 d2 d4 d5 d6 (uJ_ _)).mono ?_
 rintro e w' ⟨rfl,rfl⟩
 obtain⟨cur1,q1,q2,q3⟩:=zw_ ((fl (x::r)).drop 2) 0 w.drew k cur 36 d4 (by rw[List.length_drop,hlf];omega)
 obtain⟨cur2,p1,p2,p3⟩:=zw_ [Value.int .i64 0,.int .i64 0] (((x::r).length-1)*2) _ k cur1 36 q1 (by rw[q2];simp;simp at d1;omega)
 have hs1:∀vs o (W:World),(W.setCells k o vs).heap.size=W.heap.size:=fun vs=>by
  induction vs with
  |nil=>intro o W;rfl
  |cons v r ih=>intro o W;rw[World.setCells,ih];simp[World.setCell]
 have hd:(fl (x::r)).drop 2=fl r:=by simp[fl]
 have hlr:=wG_ r
 have hrep:=oF_ (g:=g) (l:=r) (by omega) d2 p1 (by rw[p2,q2,d5]) (by
  rw[p3,q3,hd,hl1,Nat.add_sub_cancel]
  have hcl:cur.toList.length=cap*2:=by simpa using d5
  simp only[List.take_zero,List.nil_append,Nat.zero_add]
  rw[zzq_,yyr_ (by simp;omega),List.take_take,Nat.min_self,yyr_ (by omega),zzx_ (by omega)])
 refine⟨_,rfl,hrep,?_,?_,?_,?_,fun j hj hn=>?_,fun j hj=>?_⟩
 .rw[(z8_ _ _ _ _).1,(z8_ _ _ _ _).1];rfl
 .rw[(z8_ _ _ _ _).2.1,(z8_ _ _ _ _).2.1];rfl
 .rw[(z8_ _ _ _ _).2.2,(z8_ _ _ _ _).2.2];rfl
 .rw[hs1,hs1];exact zzl_ _
 .have hjk:j≠k:=by rintro rfl;exact hn (own0 _ hk)
  rw[zv_ (by rw[hs1];exact hj) hjk,zv_ (w:=w.drew) hj hjk]
  rfl
 .have:=r7_ hj
  subst this
  exact⟨.inl (own0 _ hk),by rw[hs1,hs1];exact hkw⟩
def noB:Bl:=⟨0,0,0,0,0,⟨0,0⟩,false,[],[],false⟩
def errR(e:Int):V:=.tup [noB.v,.list 4 [],.s (.int .i64 e)]
def okR(b:Bl)(l:List Vt):V:=.tup [b.v,.list 4 (vl l),.s (.int .i64 0)]
def zB:List V:=[.s (.int .i64 0),.s (.int .i64 0),.s (.int .i64 0),.s (.int .i64 0),.s (.int .i64 0),.s (.int .i64 0),.s (.int .i64 0),.s (.bool false),.s (.slice none 0 0),.s (.slice none 0 0),.s (.bool false)]
def vA_(b:Bl)(site x:Int):Bl:={ b with time:=b.time+1,stamp:=⟨b.time+1,site⟩,qu:=x }
def askO(b:Bl)(site:Int)(l:List Int):List Vt:=l.map fun v=>⟨1,v,b.time+1,site⟩
noncomputable def yU_(n:Int)(q:List Int)(site x:Int)(b:Bl)(out:List Vt):V :=
 if bOk n q site b=false then errR 2 else if x∉q then errR 1 else if b.qu≠0 then errR 14 else if b.time=1073741824 then errR 16 else okR (vA_ b site x) out
def wtI(b:Bl)(n:Int)(q:List Int)(site x:Int)(m:Nat)(S:St):Prop:=∃i:Nat,i+m=(mbU x 9).length /\
 S = ⟨tmL [(8, .ptr 2 0), (74, .list 1 (iv (mbU x 9))), (75, .s (.int .i64 (mbU x 9).length)), (76, .s (.int .i64 i))],
   [b.v,cP n q,.s (.int .i64 site),.s (.int .i64 x),.s (.slice none 0 0),.s (.int .i64 0),.ptr 4 0,.no],
   [b.cs,vC n q,zB,xA_ b,wB (vA_ b site x) (oV (askO b site ((mbU x 9).take i)))],0⟩
theorem ns_{b:Bl}{site:Int}{l:List Int}{i:Nat}(h:i<l.length):askO b site (l.take (i+1))=askO b site (l.take i)++[⟨1,l[i],b.time+1,site⟩]:=by
 unfold askO
 rw[yyw_,zzf_ h,List.map_append]
 rfl
theorem rx_(b:Bl)(n:Int)(q:List Int)(site x:Int)(hq:q.length<=1000)(hb:b.sm):PC Try.prog 15 [b.v,cP n q,.s (.int .i64 site),.s (.int .i64 x)] (fun r=>r=yU_ n q site x b (askO b site (mbU x 9))):=by
 have k1:=yV_ b n q site hq hb
 have k2:=ue_ q x (by omega)
 have k3:=tw_ b hb
 have k4:=v4_ x
 refine zn_ c15b zp_ rfl ?_
 simp -implicitDefEqProofs [a15b,F15,Bl.v,Bl.cs,cP]
 refine z1_ ?_
 simp
 refine zc_ k1 (by simp[Bl.v,Bl.cs,cP]) (by simp[Bl.v,Bl.cs,cP]) ?_
 rintro _ rfl
 cases h1:bOk n q site b
 case' false =>
  simp
  refine z1_ ?_
  simp
  refine zc_ (y2_ 2) (by simp) (by simp) ?_
  rintro _ rfl
  simp[yU_,h1,errR,noB,Bl.v,Bl.cs]
 have ht:0<=b.time/\b.time<=1073741824:=by
  unfold bOk at h1
  simp only[zzg_,zzp_]at h1
  exact⟨h1.1.1.1.2,h1.1.1.2⟩
 simp
 refine z1_ ?_
 simp
 refine zc_ k2 (by simp) (by simp) ?_
 rintro _ rfl
 by_cases h2:x∈q
 case neg =>
  simp[h2]
  refine z1_ ?_
  simp
  refine zc_ (y2_ 1) (by simp) (by simp) ?_
  rintro _ rfl
  simp[yU_,h1,h2,errR,noB,Bl.v,Bl.cs]
 by_cases h3:b.qu=0
 case neg =>
  have e3:(b.qu != 0)=true:=by simpa using h3
  simp[h2,e3]
  refine z1_ ?_
  simp
  refine zc_ (y2_ 14) (by simp) (by simp) ?_
  rintro _ rfl
  simp[yU_,h1,h2,h3,errR,noB,Bl.v,Bl.cs]
 have e3:(b.qu != 0)=false:=by simpa using h3
 by_cases h4:b.time=1073741824
 case pos =>
  have e4:(b.time==1073741824)=true:=by simpa using h4
  simp[h2,e3,e4]
  refine z1_ ?_
  simp
  refine zc_ (y2_ 16) (by simp) (by simp) ?_
  rintro _ rfl
  simp[yU_,h1,h2,h3,h4,errR,noB,Bl.v,Bl.cs]
 have e4:(b.time==1073741824)=false:=by simpa using h4
 have hw:IntKind.i64.wrap (b.time+1)=b.time+1:=wrap64 (by omega)
 have hR:yU_ n q site x b (askO b site (mbU x 9))=okR (vA_ b site x) (askO b site (mbU x 9)):=by
  unfold yU_
  rw[if_neg (by simp[h1]),if_neg (by simp[h2]),if_neg (by simp[h3]),if_neg h4]
 simp[h2,e3,e4]
 refine zy_ ?_
 simp
 refine ye_ (mask:=[]) (sel:=[]) k3 ⟨by simp[ren,renA,renL,fzs,Bl.v,Bl.cs],rfl,rfl,rfl,rfl,rfl,rfl⟩ ?_
 rintro _ _ ⟨rfl,rfl⟩
 simp[aftS,zz_,wB,xA_,Bl.cs,hw]
 refine z1_ ?_
 simp
 refine zc_ k4 (by simp) (by simp) ?_
 rintro _ rfl
 simp
 refine zi_ [8,74,75,76] [7] 5 (by simp) (wtI b n q site x) (mbU x 9).length ⟨by simp,0,by simp,by simp[Bl.v,Bl.cs,cP,vC,zB,xA_,wB,oV,askO,vA_]⟩ ?_
 rintro m S ⟨i,hi,rfl⟩
 have hlen:=wi_ x 9
 by_cases hm:i<(mbU x 9).length
 .have g1:(i:Int)<(mbU x 9).length:=by omega
  have g0:¬(i:Int)<0:=by omega
  have hwi:IntKind.i64.wrap ((i:Int)+1)=(i:Int)+1:=wrap64 (by omega)
  have hs:=ns_ (b:=b) (site:=site) hm
  have hol:(askO b site ((mbU x 9).take i)).length<=9:=by simp[askO];omega
  generalize askO b site ((mbU x 9).take i)=out at hs hol
  have b1:out.length+1<=maxLen/\(out.length+1)*32<=z5_:=by simp[maxLen,z5_];omega
  simp[g1,g0,zI_ hm,wB,oV,b1,hwi,vA_,Bl.v,Bl.cs,cP,vC,zB,xA_]
  exact⟨m-1,by omega,i+1,by omega,by rw[hs];simp[Bl.v,Bl.cs,cP,vC,zB,xA_,wB,oV,vA_,vl,Vt.v]⟩
 .have g1:i=(mbU x 9).length:=by omega
  have g2:(mbU x 9).take i=mbU x 9:=zzx_ (by omega)
  simp[g1,wB,oV,vA_,zB,Bl.v,Bl.cs,cP,vC,xA_]
  refine zx_ 7 8 (by kernel_rfl) ?_ ?_
  .refine zl_ [0,1,2,3,4,5,6,7,8,9,10] ⟨[],[4,5,6],[],[]⟩ (by kernel_rfl) (by kernel_rfl) ?_
   simp[zS_,hR,okR,vA_,Bl.v,Bl.cs]
  .refine zl_ [0,1,2,3,4,5,6,8,7,9,10] ⟨[],[4,5,6],[],[]⟩ (by kernel_rfl) (by kernel_rfl) ?_
   simp[zS_,hR,okR,vA_,Bl.v,Bl.cs]
def pf_(b:Bl):Bl:={ b with qu:=0,votes:=0,fail:=0,stamp:=⟨0,0⟩,using':=false }
def relO(l:List Int):List Vt:=l.map fun v=>⟨6,v,0,0⟩
noncomputable def xI_(n:Int)(q:List Int)(site:Int)(b:Bl)(out:List Vt):V :=
 if bOk n q site b=false then errR 2 else if b.using'=false then errR 14 else okR (pf_ b) out
theorem o5_{l:List Int}{i:Nat}(h:i<l.length):relO (l.take (i+1))=relO (l.take i)++[⟨6,l[i],0,0⟩]:=by
 unfold relO
 rw[yyw_,zzf_ h,List.map_append]
 rfl
def dnI(b:Bl)(n:Int)(q:List Int)(site:Int)(m:Nat)(S:St):Prop:=∃i:Nat,i+m=(mbU b.qu 9).length /\
 S = ⟨tmL [(6, .ptr 2 0), (35, .list 1 (iv (mbU b.qu 9))), (36, .s (.int .i64 (mbU b.qu 9).length)), (37, .s (.int .i64 i))],
   [b.v,cP n q,.s (.int .i64 site),.s (.slice none 0 0),.s (.int .i64 0),.ptr 4 0,.no],
   [b.cs,vC n q,zB,xA_ b,wB b (oV (relO ((mbU b.qu 9).take i)))],0⟩
theorem nB_(b:Bl)(n:Int)(q:List Int)(site:Int)(hq:q.length<=1000)(hb:b.sm):PC Try.prog 21 [b.v,cP n q,.s (.int .i64 site)] (fun r=>r=xI_ n q site b (relO (mbU b.qu 9))):=by
 have k1:=yV_ b n q site hq hb
 have k3:=tw_ b hb
 have k4:=v4_ b.qu
 refine zn_ c21b zp_ rfl ?_
 simp -implicitDefEqProofs [a21b,F21,Bl.v,Bl.cs,cP]
 refine z1_ ?_
 simp
 refine zc_ k1 (by simp[Bl.v,Bl.cs,cP]) (by simp[Bl.v,Bl.cs,cP]) ?_
 rintro _ rfl
 cases h1:bOk n q site b
 case' false =>
  simp
  refine z1_ ?_
  simp
  refine zc_ (y2_ 2) (by simp) (by simp) ?_
  rintro _ rfl
  simp[xI_,h1,errR,noB,Bl.v,Bl.cs]
 simp
 cases h2:b.using'
 case' false =>
  simp
  refine z1_ ?_
  simp
  refine zc_ (y2_ 14) (by simp) (by simp) ?_
  rintro _ rfl
  simp[xI_,h1,h2,errR,noB,Bl.v,Bl.cs]
 have hR:xI_ n q site b (relO (mbU b.qu 9))=okR (pf_ b) (relO (mbU b.qu 9)):=by
  unfold xI_
  rw[if_neg (by simp[h1]),if_neg (by simp[h2])]
 simp
 refine zy_ ?_
 simp
 refine ye_ (mask:=[]) (sel:=[]) k3 ⟨by simp[ren,renA,renL,fzs,Bl.v,Bl.cs,h2],rfl,rfl,rfl,rfl,rfl,rfl⟩ ?_
 rintro _ _ ⟨rfl,rfl⟩
 simp[aftS,zz_,wB,xA_,Bl.cs]
 refine z1_ ?_
 simp
 refine zc_ k4 (by simp) (by simp) ?_
 rintro _ rfl
 simp
 refine zi_ [6,35,36,37] [6] 5 (by simp) (dnI b n q site) (mbU b.qu 9).length ⟨by simp,0,by simp,by simp[Bl.v,Bl.cs,cP,vC,zB,xA_,wB,oV,relO,h2]⟩ ?_
 rintro m S ⟨i,hi,rfl⟩
 have hlen:=wi_ b.qu 9
 by_cases hm:i<(mbU b.qu 9).length
 .have g1:(i:Int)<(mbU b.qu 9).length:=by omega
  have g0:¬(i:Int)<0:=by omega
  have hwi:IntKind.i64.wrap ((i:Int)+1)=(i:Int)+1:=wrap64 (by omega)
  have hs:=o5_ hm
  have hol:(relO ((mbU b.qu 9).take i)).length<=9:=by simp[relO];omega
  generalize relO ((mbU b.qu 9).take i)=out at hs hol
  simp[g1,g0,zI_ hm,hwi,Bl.v,Bl.cs,cP,vC,zB,xA_]
  refine zy_ ?_
  simp
  refine ye_ (mask:=[]) (sel:=[4]) (xv_ b out 6 (mbU b.qu 9)[i] (by omega)) ⟨by simp[ren,renA,renL,fzs],rfl,rfl,rfl,rfl,rfl,rfl⟩ ?_
  rintro _ _ ⟨rfl,rfl⟩
  simp[aftS,zz_,hwi,g1,wB,oV]
  exact⟨m-1,by omega,i+1,by omega,by rw[hs];simp[Bl.v,Bl.cs,cP,vC,zB,xA_,wB,oV,vl,Vt.v]⟩
 .have g1:i=(mbU b.qu 9).length:=by omega
  have g2:(mbU b.qu 9).take i=mbU b.qu 9:=zzx_ (by omega)
  simp[g1,wB,oV,zB,Bl.v,Bl.cs,cP,vC,xA_]
  refine zx_ 7 8 (by kernel_rfl) ?_ ?_
  .refine zl_ [0,1,2,3,4,5,6,7,8,9,10] ⟨[],[4,5,6],[],[]⟩ (by kernel_rfl) (by kernel_rfl) ?_
   simp[zS_,hR,okR,pf_,Bl.v,Bl.cs]
  .refine zl_ [0,1,2,3,4,5,6,8,7,9,10] ⟨[],[4,5,6],[],[]⟩ (by kernel_rfl) (by kernel_rfl) ?_
   simp[zS_,hR,okR,pf_,Bl.v,Bl.cs]
def posQ(x:Sg):List Sg->Nat
 |[]=>0
 |y::r=>if cmpS y x<0 then posQ x r+1 else 0
theorem vO_(x:Sg):∀l,posQ x l<=l.length
 |[]=>zzl_ _
 | y :: r => by
   have:=vO_ x r
   simp only[posQ,List.length_cons]
   split<;>omega
theorem re_(x:Sg):∀(l:List Sg) (i:Nat),i<posQ x l->∃h:i<l.length,cmpS l[i] x<0
 |[],i,h=>by simp[posQ]at h
 | y :: r, i, h => by
   simp only[posQ]at h
   split at h
   .next hc =>
    cases i with
    |zero=>exact⟨by simp,hc⟩
    | succ i =>
      obtain⟨h1,h2⟩:=re_ x r i (by omega)
      exact⟨by simp;omega,by simpa using h2⟩
   .omega
theorem t8_(x:Sg):∀(l:List Sg) (h:posQ x l<l.length),¬cmpS l[posQ x l] x<0
 |[],h=>by simp at h
 | y :: r, h => by
   by_cases hc:cmpS y x<0
   .have e:posQ x (y::r)=posQ x r+1:=by simp[posQ,hc]
    have h':posQ x r<r.length:=by rw[e]at h;simpa using h
    have:=t8_ x r h'
    simp only[e,List.getElem_cons_succ]
    exact this
   .have e:posQ x (y::r)=0:=by simp[posQ,hc]
    simp only[e,List.getElem_cons_zero]
    exact hc
theorem k8_{l:List Sg}{i:Nat}(h:i<(sl l).length):(sl l)[i]=(l[i]'(by simpa[sl] using h)).v:=by simp[sl]
def Bl.enq(b:Bl)(x:Sg):Bl:={ b with queue:=insS b.queue (posQ x b.queue) x }
def enI(b:Bl)(o:V)(x:Sg)(m:Nat)(S:St):Prop:=∃i:Nat,i+m=posQ x b.queue/\S=⟨tmL [(3,.ptr 1 0)],[.ptr 0 0,x.v,.s (.int .i64 i)],[wB b o,[.s (.int .i64 x.t),.s (.int .i64 x.s)]],0⟩
theorem y1_(b:Bl)(l:List Vt)(x:Sg)(hb:b.queue.length<=1000):AC Try.prog 71 [.ptr 0 0,x.v] [wB b (oV l)] (fun r bs=>r=.tup []/\bs=[wB (b.enq x) (oV l)]):=by
 have hpl:=vO_ x b.queue
 refine sM_ c71b zp_ rfl ?_
 simp -implicitDefEqProofs [a71b,F71,wB,oV,Sg.v]
 refine zi_ [3] [] 2 (by simp) (enI b (oV l) x) (posQ x b.queue) ⟨by simp,0,by simp,by simp[wB,oV,Sg.v]⟩ ?_
 rintro m S ⟨i,hi,rfl⟩
 have g1:(i:Int)<b.queue.length\/¬(i:Int)<b.queue.length:=by omega
 have g0:¬(i:Int)<0:=by omega
 have hwi:IntKind.i64.wrap ((i:Int)+1)=(i:Int)+1:=wrap64 (by omega)
 by_cases hm:m=0
 .obtain rfl:i=posQ x b.queue:=by omega
  by_cases hq:posQ x b.queue<b.queue.length
  .have h1:=t8_ x b.queue hq
   have q1:(posQ x b.queue:Int)<b.queue.length:=by omega
   have k1:=uR_ b.queue[posQ x b.queue] x
   simp[q1,hq,g0,k8_,wB,oV,Sg.v]
   refine zB_ ?_
   simp
   refine y8_ k1 (by simp[Sg.v]) (by simp[Sg.v]) ?_
   simp[h1]
   refine rE_ ?_
   simp
   refine la_ (mask:=[]) (sel:=[]) (sN_ b.queue (posQ x b.queue) x (by omega) hpl) ⟨by simp[ren,renA,renL,fzs,Sg.v],rfl,rfl,rfl,rfl,rfl,rfl⟩ (by rfl) ?_
   simp[aftS]
   refine zJ_ 1 ?_
   simp[Bl.enq]
  .have q1:¬(posQ x b.queue:Int)<b.queue.length:=by omega
   simp[q1,hq,wB,oV,Sg.v]
   refine rE_ ?_
   simp
   refine la_ (mask:=[]) (sel:=[]) (sN_ b.queue (posQ x b.queue) x (by omega) hpl) ⟨by simp[ren,renA,renL,fzs,Sg.v],rfl,rfl,rfl,rfl,rfl,rfl⟩ (by rfl) ?_
   simp[aftS]
   refine zJ_ 1 ?_
   simp[Bl.enq]
 .obtain⟨hq,h1⟩:=re_ x b.queue i (by omega)
  have q1:(i:Int)<b.queue.length:=by omega
  have k1:=uR_ b.queue[i] x
  simp[q1,hq,g0,k8_,wB,oV,Sg.v]
  refine zB_ ?_
  simp
  refine y8_ k1 (by simp[Sg.v]) (by simp[Sg.v]) ?_
  simp[h1,hwi]
  exact⟨m-1,by omega,i+1,by omega,by simp[wB,oV,Sg.v]⟩
theorem qP_(w:World)(B:Nat)(t s s0:Int)(h:w.cell? ⟨B,1,none⟩=some (.int .i64 s0)) :
 Calls Try.prog 69 (#[.agg #[.int .i64 t,.int .i64 s]]++#[.pointer (some ⟨B,0,none⟩)]) w fun e w'=>e=.returned (.bool (s==s0))/\w'=w.alloc (.cells #[.int .i64 t,.int .i64 s] 36):=by
 have hB:B<w.heap.size:=World.block_lt_of_cell? w _ h
 have h1:(w.alloc (.cells #[.int .i64 t,.int .i64 s] 36)).cell? ⟨B,1,none⟩=some (.int .i64 s0):=by rw[World.cell?_alloc_past _ B 1 hB];exact h
 have mx:=zp_
 go_enter Try.func69,Try.ntmps69
 go_wp2
 all_goals go_ret
 all_goals exact⟨rfl,rfl⟩
theorem j6_:∀args w,(callFunc 69 args).run Try.prog w=.ok (.enter 69 args) w:=enters_of Try.func69 (by kernel_rfl) rfl
theorem oW_(w:World)(A:Option Addr)(cap B:Nat)(l:List Sg)(s0:Int)(hl:l.length<=1000000)(hB:w.cell? ⟨B,1,none⟩=some (.int .i64 s0))
 (hc:∀(i:Nat) (h:i<l.length),∃b q,A=some ⟨b,q,none⟩/\w.cell? ⟨b,q+i*2,none⟩=some (.int .i64 l[i].t)/\w.cell? ⟨b,q+i*2+1,none⟩=some (.int .i64 l[i].s)) :
 Calls Try.prog 79 #[.slice A l.length cap,.func (.func 69) #[] #[.pointer (some ⟨B,0,none⟩)]] w fun e w'=>∃n:Int,e=.returned (.int .i64 n)/\(0<=n↔∃x∈l,x.s=s0)/\Below w.heap.size w w':=by
 have HC:=Lib.hid hc
 have E69:=Lib.hid j6_
 have hBb:B<w.heap.size:=World.block_lt_of_cell? w _ hB
 have mx:=zp_
 clear hc
 go_enter Try.func79,Try.ntmps79
 go_wp2
 go_loopg [8] l.length (fun kx s8 wr=>∃i:Nat,s8=.int .i64 i/\i+kx=l.length/\(∀(j:Nat) (h:j<l.length),j<i->l[j].s≠s0)/\Below w.heap.size w wr)
 case atStart=>exact⟨0,rfl,by omega,fun j _ h=>by omega,Below.refl _ _⟩
 case round =>
  obtain⟨i,rfl,hi,hne,hbel⟩:=hrel
  have hBr:wr.cell? ⟨B,1,none⟩=some (.int .i64 s0):=(yyb_ (a:=⟨B,1,none⟩) (hbel.block B hBb)).trans hB
  by_cases hm:i<l.length
  .obtain⟨b,q,rfl,h1,h2⟩:=HC.out i hm
   have hb:b<w.heap.size:=World.block_lt_of_cell? w _ h1
   have c1:wr.cell? ⟨b,q+i*2,none⟩=some (.int .i64 l[i].t):=(yyb_ (a:=⟨b,q+i*2,none⟩) (hbel.block b hb)).trans h1
   have c2:wr.cell? ⟨b,q+i*2+1,none⟩=some (.int .i64 l[i].s):=(yyb_ (a:=⟨b,q+i*2+1,none⟩) (hbel.block b hb)).trans h2
   have hmem:l[i]∈l:=yyp_ hm
   have hlast:∀(j:Nat) (h:j<l.length),j=i->l[j]=l[i]:=fun j h e=>by subst e;rfl
   generalize l[i]=x at c1 c2 hmem hlast
   have hs:=qP_ wr B x.t x.s s0 hBr
   have hlt:(i:Int)<(l.length:Int):=by omega
   have hi0:¬(i:Int)<0:=by omega
   have hw:IntKind.i64.wrap ((i:Int)+1)=(i:Int)+1:=by rw[yye_];omega
   have hnew:Below w.heap.size w (wr.alloc (.cells #[.int .i64 x.t,.int .i64 x.s] 36)):=hbel.trans ((Below.refl _ wr).alloc hbel.size _)
   have eg:=E69.out
   have HN:=Lib.hid hne
   have HM:=Lib.hid (And.intro hmem hlast)
   have HW:=Lib.hid hnew
   clear h1 h2 hne hmem hlast hnew
   by_cases he:x.s=s0
   .have hb:(x.s==s0)=true:=by simpa using he
    rw[hb]at hs
    have HE:=Lib.hid he
    clear he hb
    go_wp2_with (go_at_fn 69;refine hs.mono ?_;rintro e w' ⟨rfl,rfl⟩)
    go_ret
    exact⟨i,rfl,⟨fun _=>⟨x,HM.out.1,HE.out⟩,fun _=>by omega⟩,HW.out⟩
   .have hb:(x.s==s0)=false:=by simpa using he
    rw[hb]at hs
    have HE:=Lib.hid he
    clear he hb
    go_wp2_with (go_at_fn 69;refine hs.mono ?_;rintro e w' ⟨rfl,rfl⟩)
    go_roundg (gk-1)
    case measure=>omega
    case rel=>exact⟨i+1,rfl,by omega,fun j h hj=>by rcases Nat.lt_succ_iff_lt_or_eq.1 hj with q|rfl;exact HN.out j h q;rw[HM.out.2 j h rfl];exact HE.out,HW.out⟩
  .have hlt:¬(i:Int)<(l.length:Int):=by omega
   go_wp2
   go_ret
   refine⟨-1,rfl,⟨fun h=>by omega,fun ⟨x,hx,hxs⟩=>?_⟩,hbel⟩
   obtain⟨j,hj,rfl⟩:=List.mem_iff_getElem.1 hx
   exact absurd hxs (hne j hj (by omega))
theorem oY_(w:World)(A:Option Addr)(cap B:Nat)(l:List Sg)(s0:Int)(hl:l.length<=1000000)(hB:w.cell? ⟨B,1,none⟩=some (.int .i64 s0))
 (hc:∀(i:Nat) (h:i<l.length),∃b q,A=some ⟨b,q,none⟩/\w.cell? ⟨b,q+i*2,none⟩=some (.int .i64 l[i].t)/\w.cell? ⟨b,q+i*2+1,none⟩=some (.int .i64 l[i].s)) :
 Calls Try.prog 70 #[.slice A l.length cap,.func (.func 69) #[] #[.pointer (some ⟨B,0,none⟩)]] w fun e w'=>e=.returned (.bool (l.any fun x=>x.s==s0))/\Below w.heap.size w w':=by
 have hs:=oW_ w A cap B l s0 hl hB hc
 have mx:=zp_
 clear hc hB
 go_enter Try.func70,Try.ntmps70
 go_wp2_with (go_at_call 79;refine hs.mono ?_;rintro e w' ⟨n,rfl,hn,hbel⟩;replace hn:=Lib.hid hn)
 go_ret
 refine⟨?_,hbel⟩
 have:(l.any fun x=>x.s==s0)=decide (0<=n):=by
  rw[yyt_]
  simp[hn.out]
 rw[this]
 rfl
section
section
variable{F:Fr}{g:Gh}{w w':World}{S:St}{a:Act}
theorem o4_(h:Rel F g w S a)(hb:Below w.heap.size w w'):Rel F g w' S a/\Fw F g w S a g w' S a:=by
 have hI:∀b o,o<g.I b->o<g.I b/\w'.cell? ⟨b,o,none⟩=w.cell? ⟨b,o,none⟩:=fun b o ho=>⟨ho,yyb_ (a:=⟨b,o,none⟩) (hb.block b (h.Ilt b (by omega)))⟩
 have hownw:∀r p k,Own F g w' S a r p k->Own F g w S a r p k:=by
  intro r p k ⟨x,u,hh,ho⟩
  refine⟨x,u,?_,ho⟩
  cases r with
  |t t=>exact hh
  |l l=>exact⟨hh.1,(zZ_ hh.1 (fun _ _=>rfl) (fun b hb'=>hb.block _ (zP_ h hb').1)) ▸ hh.2⟩
 refine⟨h.grow hI (fun _ _=>rfl) (fun b hb'=>⟨hb.block _ (zP_ h hb').1,(zP_ h hb').2⟩) (fun r p k ho=>?_) (fun l d e z xs u hl hu=>?_) hb.size (fun k hk=>zzk_ (h.Ilt k hk) hb.size),
  ⟨hb.os,hb.tape,hb.output,hb.size,fun k hk _=>⟨hb.block k hk,rfl⟩,fun k ho=>?_⟩⟩
 .obtain⟨q1,q2,_⟩:=h.ownI r p k ho
  exact⟨hb.block k q2,q1⟩
 .have hr:=(h.lentr l d e z xs u hl hu).1
  refine hr.keep hI (fun p k ⟨_,_,_,u',q1,q2,q3⟩=>?_) (fun _ _ _ _=>rfl)
  cases p with
  |cons i p=>simp[V.sub]at q1
  | nil =>
    simp[vsub]at q2
    subst q2
    exact hb.block k (yw_ hr q3)
 .rcases ho with ⟨r,p,ho⟩|ho
  .exact .inl (.inl ⟨r,p,hownw r p k ho⟩)
  .exact .inl (.inr ho)
theorem mH_(h:Rel F g w S a)(hb:Below w.heap.size w w'){d:Nat}(hd:d<F.N)(hdv:d∉F.sv){v:Value}(h1:v.oneCell'=true):Ends F g w S a { S with tm:=upd S.tm d (.s v) } (a.put (some d) v) w':=by
 obtain⟨h1',h2⟩:=o4_ h hb
 exact Ends.of h2 (fun _ _=>rfl) (zzl_ _) (zo_ h1' hd hdv (.s h1) rfl (fun b o e=>by cases e) (zzn_ _) trivial)
end
theorem iy_(l:List Sg):∀(i:Nat) (h:i<l.length),(fl l)[i*2]?=some (.int .i64 l[i].t)/\(fl l)[i*2+1]?=some (.int .i64 l[i].s):=by
 induction l with
 |nil=>intro i h;simp at h
 | cons x r ih =>
   intro i h
   cases i with
   |zero=>exact⟨rfl,rfl⟩
   | succ i =>
     have:=ih i (by simpa using h)
     simp only[fl,List.flatMap_cons,yyn_,Nat.one_mul]at this ⊢
     rw[show i*2+2=(i*2)+1+1 by omega]
     simpa using this
theorem ln_{S:St}{q0 q1:Opd}{l:List Sg}{b:Nat}{t0 s0:Int}(h0:cont S (z6_ S q0)=some (2,sl l))(h1:z6_ S q1=.ptr b (1000000000+69))(hb:S.bx[b]?=some [.s (.int .i64 t0),.s (.int .i64 s0)])(hl:l.length<=1000000) :
 MC Try.prog S 70 [q0,q1] (fun r=>r=.s (.bool (l.any fun x=>x.s==s0))):=by
 intro F g w a xs d h hx hd hdv
 obtain⟨xs⟩:=xs
 match xs,hx with
 | [x0, x1], hx =>
   simp only[opds,zza_]at hx
   obtain⟨p0,e0,_,⟨p1,e1,_,e2,e3⟩,e4⟩:=hx
   cases e2
   cases e3
   cases e4
   obtain⟨A,c,vals,q1',q2,q3,q4,q5,q6,q7,q8⟩:=yv_ h (y5_ h e0) h0
   have hv:∀(j:Nat) (u:Value),(fl l)[j]?=some u->∃b q,A=some ⟨b,q,none⟩/\w.cell? ⟨b,q+j,none⟩=some u:=by
    intro j u hu
    have hj:j<(flat (sl l)).length:=by rw[xV_,List.length_map];exact(zzc_.1 hu).1
    obtain⟨b,q,r1,r2⟩:=q7 j hj
    have:=(q8 j (.s u) (by rw[xV_,zzs_,hu];rfl)).of_s rfl
    exact⟨b,q,r1,by rw[r2,this]⟩
   have hf:=(y5_ h e1).rep
   rw[h1]at hf
   have hfv:a.eval x1=.func (.func 69) #[] #[.pointer (some ⟨g.φ b,0,none⟩)]:=by
    generalize a.eval x1=v at hf
    cases hf
    exact rd_
   have hat:S.at (.cell b 1)=some (.s (.int .i64 s0)):=by simp[St.at,hb]
   obtain⟨v,hv1,_⟩:=h.lookv _ _ hat
   have hvv:v=.int .i64 s0:=(h.rep (.l (.cell b 1)) _ v ⟨hat,hv1⟩).of_s rfl
   have hcell:w.cell? ⟨g.φ b,1,none⟩=some (.int .i64 s0):=by rw[<-hvv];exact hv1
   have hsl:(sl l).length=l.length:=by simp[sl]
   have hargs:(#[x0,x1]:Array Operand).map a.eval=#[.slice A l.length c,.func (.func 69) #[] #[.pointer (some ⟨g.φ b,0,none⟩)]]:=by
    simp[q1',hfv,hsl]
   rw[hargs]
   refine(oY_ w A c (g.φ b) l s0 hl hcell (fun i hi=>?_)).mono ?_
   .obtain⟨f1,f2⟩:=iy_ l i hi
    obtain⟨b1,o1,r1,r2⟩:=hv _ _ f1
    obtain⟨b2,o2,r3,r4⟩:=hv _ _ f2
    rw[r1]at r3
    cases r3
    exact⟨b1,o1,r1,r2,r4⟩
   .rintro e w' ⟨rfl,hbel⟩
    exact⟨_,_,rfl,rfl,mH_ h hbel hd hdv rfl⟩
 |[],hx=>simp[opds]at hx
 | [x0], hx =>
   simp only[opds,zza_]at hx
   obtain⟨p0,e0,_,e2,e4⟩:=hx
   cases e2
   cases e4
 | x0 :: x1 :: x2 :: r, hx =>
   simp only[opds,zza_]at hx
   obtain⟨p0,e0,_,⟨p1,e1,_,⟨p2,e5,_,e6,e7⟩,e3⟩,e4⟩:=hx
   cases e7
   cases e3
   cases e4
end
def wG(b:Bl)(G o:V):List V:=[.s (.int .i64 b.time),.s (.int .i64 b.qu),.s (.int .i64 b.votes),.s (.int .i64 b.fail),.s (.int .i64 b.inqd),.s (.int .i64 b.stamp.t),.s (.int .i64 b.stamp.s),.s (.bool b.using'),G,.own true 36 2 (sl b.queue),.s (.bool b.asked),o]
def gvOk(G:V)(l:List Sg):Prop:=G=.list 2 (sl l)\/G=.own true 36 2 (sl l)\/(l=[]/\G=.s (.slice none 0 0))
theorem t1_(b:Bl)(l:List Vt)(k to:Int)(hl:l.length<=1000):AC Try.prog 48 [.ptr 0 0,.s (.int .i64 k),.s (.int .i64 to)] [wG b (.own true 36 2 (sl b.given)) (oV l)] (fun r bs=>r=.tup []/\bs=[wG b (.own true 36 2 (sl b.given)) (oV (l++[⟨k,to,0,0⟩]))]):=by
 have b1:l.length+1<=maxLen/\(l.length+1)*32<=z5_:=by simp[maxLen,z5_];omega
 refine sM_ c48 zp_ rfl ?_
 simp -implicitDefEqProofs [a48,F48,wG,oV,b1]
 refine zJ_ 1 ?_
 simp[wG,oV,vl,Vt.v]
def askM(b:Bl)(x:Sg):List Vt :=
 match b.given with
 |[]=>[⟨2,x.s,0,0⟩]
 | g :: _ => if (match b.queue with | [] => true | q :: _ => decide (cmpS x q < 0)) && decide (cmpS x g < 0) then
     (match b.queue with|[]=>[]|q::_=>if cmpS q g<0 then [⟨3,q.s,0,0⟩] else [])++(if b.asked then [] else [⟨4,g.s,0,0⟩])
   else [⟨3,x.s,0,0⟩]
def askS(b:Bl)(x:Sg):Bl :=
 match b.given with
 |[]=>{ b with time:=(if b.time<x.t then x.t else b.time),given:=[x] }
 |g::_=>({ b with time:=(if b.time<x.t then x.t else b.time),asked:=b.asked||((match b.queue with|[]=>true|q::_=>decide (cmpS x q<0))&&decide (cmpS x g<0)) }:Bl).enq x
def askE(b:Bl)(x:Sg):Bool:=(b.given.any fun y=>y.s==x.s)||(b.queue.any fun y=>y.s==x.s)
theorem iO_(b:Bl)(x:Sg)(hg:b.given.length<=1000)(hq:b.queue.length<=1000):AC Try.prog 50 [.ptr 0 0,x.v] [wB b (oV [])] (fun r bs=>if askE b x then r=.s (.int .i64 11)/\bs=[wB b (oV [])] else r=.s (.int .i64 0)/\∃G,gvOk G (askS b x).given/\bs=[wG (askS b x) G (oV (askM b x))]):=by
 obtain⟨tm,qu,vo,fa,iq,st,us,gv,qq,ak⟩:=b
 simp only at hg hq
 refine sM_ c50 zp_ rfl ?_
 simp -implicitDefEqProofs [a50,F50,wB,oV,Sg.v]
 refine pz_ (ln_ (l:=gv) (b:=1) (t0:=x.t) (s0:=x.s) (by simp) (by simp) (by simp) (by omega)) ?_
 rintro _ rfl
 cases h1:gv.any fun y=>y.s==x.s
 case' true =>
  simp
  refine zJ_ 1 ?_
  simp[askE,h1,wB,oV]
 simp
 refine pz_ (ln_ (l:=qq) (b:=1) (t0:=x.t) (s0:=x.s) (by simp) (by simp) (by simp) (by omega)) ?_
 rintro _ rfl
 cases h2:qq.any fun y=>y.s==x.s
 case' true =>
  simp
  refine zJ_ 1 ?_
  simp[askE,h1,h2,wB,oV]
 have hE:∀a b c d e f g' h i,askE ⟨a,b,c,d,e,f,g',gv,qq,h⟩ x=i↔false=i:=fun a b c d e f g' h i=>by simp[askE,h1,h2]
 clear h1 h2
 simp
 cases gv with
 | nil =>
   simp[sl]
   refine zy_ ?_
   simp
   refine ye_ (mask:=[]) (sel:=[0]) (t1_ ⟨(if tm<x.t then x.t else tm),qu,vo,fa,iq,st,us,[x],qq,ak⟩ [] 2 x.s (by simp)) ⟨by simp[ren,renA,renL,fzs],rfl,rfl,rfl,rfl,rfl,rfl⟩ ?_
   rintro _ _ ⟨rfl,rfl⟩
   simp[aftS,zz_,wG,oV]
   refine zJ_ 1 ?_
   simp[hE,askS,askM]
   exact .inr (.inl rfl)
 | cons g gr =>
   have hlg:((gr.length:Int)+1==0)=false:=by simp;omega
   have k1:=uR_ x g
   cases qq with
   | nil =>
     simp[sl,hlg,Sg.v]
     refine z1_ ?_
     simp
     refine zc_ (k1) (by simp[Sg.v]) (by simp[Sg.v]) ?_
     rintro _ rfl
     by_cases c1:cmpS x g<0
     case neg =>
      simp[c1]
      refine zy_ ?_
      simp
      refine ye_ (mask:=[]) (sel:=[0]) (xv_ ⟨(if tm<x.t then x.t else tm),qu,vo,fa,iq,st,us,g::gr,[],ak⟩ [] 3 x.s (by simp)) ⟨by simp[ren,renA,renL,fzs],rfl,rfl,rfl,rfl,rfl,rfl⟩ ?_
      rintro _ _ ⟨rfl,rfl⟩
      simp[aftS,zz_,wB,oV]
      refine zy_ ?_
      simp
      refine ye_ (mask:=[]) (sel:=[0]) (y1_ ⟨(if tm<x.t then x.t else tm),qu,vo,fa,iq,st,us,g::gr,[],ak⟩ ([]++[⟨3,x.s,0,0⟩]) x hq) ⟨by simp[ren,renA,renL,fzs,Sg.v],rfl,rfl,rfl,rfl,rfl,rfl⟩ ?_
      rintro _ _ ⟨rfl,rfl⟩
      simp[aftS,zz_,wB,oV]
      refine zJ_ 1 ?_
      simp[hE,askS,askM,Bl.enq,c1]
      exact⟨_,.inl rfl,rfl⟩
     simp[c1]
     cases ak
     case' true =>
      simp
      refine zy_ ?_
      simp
      refine ye_ (mask:=[]) (sel:=[0]) (y1_ ⟨(if tm<x.t then x.t else tm),qu,vo,fa,iq,st,us,g::gr,[],true⟩ [] x hq) ⟨by simp[ren,renA,renL,fzs,Sg.v],rfl,rfl,rfl,rfl,rfl,rfl⟩ ?_
      rintro _ _ ⟨rfl,rfl⟩
      simp[aftS,zz_,wB,oV]
      refine zJ_ 1 ?_
      simp[hE,askS,askM,Bl.enq,c1]
      exact⟨_,.inl rfl,rfl⟩
     simp
     refine zy_ ?_
     simp
     refine ye_ (mask:=[]) (sel:=[0]) (xv_ ⟨(if tm<x.t then x.t else tm),qu,vo,fa,iq,st,us,g::gr,[],true⟩ [] 4 g.s (by simp)) ⟨by simp[ren,renA,renL,fzs],rfl,rfl,rfl,rfl,rfl,rfl⟩ ?_
     rintro _ _ ⟨rfl,rfl⟩
     simp[aftS,zz_,wB,oV]
     refine zy_ ?_
     simp
     refine ye_ (mask:=[]) (sel:=[0]) (y1_ ⟨(if tm<x.t then x.t else tm),qu,vo,fa,iq,st,us,g::gr,[],true⟩ ([]++[⟨4,g.s,0,0⟩]) x hq) ⟨by simp[ren,renA,renL,fzs,Sg.v],rfl,rfl,rfl,rfl,rfl,rfl⟩ ?_
     rintro _ _ ⟨rfl,rfl⟩
     simp[aftS,zz_,wB,oV]
     refine zJ_ 1 ?_
     simp[hE,askS,askM,Bl.enq,c1]
     exact⟨_,.inl rfl,rfl⟩
   | cons q qr =>
     have hlq:((qr.length:Int)+1==0)=false:=by simp;omega
     have hlq2:(0:Int)<(qr.length:Int)+1:=by omega
     have k2:=uR_ x q
     have k3:=uR_ q g
     simp[sl,hlg,hlq,Sg.v]
     refine zB_ ?_
     simp
     refine y8_ (k2) (by simp[Sg.v]) (by simp[Sg.v]) ?_
     by_cases c2:cmpS x q<0
     case neg =>
      simp[c2]
      refine zy_ ?_
      simp
      refine ye_ (mask:=[]) (sel:=[0]) (xv_ ⟨(if tm<x.t then x.t else tm),qu,vo,fa,iq,st,us,g::gr,q::qr,ak⟩ [] 3 x.s (by simp)) ⟨by simp[ren,renA,renL,fzs],rfl,rfl,rfl,rfl,rfl,rfl⟩ ?_
      rintro _ _ ⟨rfl,rfl⟩
      simp[aftS,zz_,wB,oV]
      refine zy_ ?_
      simp
      refine ye_ (mask:=[]) (sel:=[0]) (y1_ ⟨(if tm<x.t then x.t else tm),qu,vo,fa,iq,st,us,g::gr,q::qr,ak⟩ ([]++[⟨3,x.s,0,0⟩]) x hq) ⟨by simp[ren,renA,renL,fzs,Sg.v],rfl,rfl,rfl,rfl,rfl,rfl⟩ ?_
      rintro _ _ ⟨rfl,rfl⟩
      simp[aftS,zz_,wB,oV]
      refine zJ_ 1 ?_
      simp[hE,askS,askM,Bl.enq,c2]
      exact⟨_,.inl rfl,rfl⟩
     simp[c2]
     refine z1_ ?_
     simp
     refine zc_ (k1) (by simp[Sg.v]) (by simp[Sg.v]) ?_
     rintro _ rfl
     by_cases c1:cmpS x g<0
     case neg =>
      simp[c1]
      refine zy_ ?_
      simp
      refine ye_ (mask:=[]) (sel:=[0]) (xv_ ⟨(if tm<x.t then x.t else tm),qu,vo,fa,iq,st,us,g::gr,q::qr,ak⟩ [] 3 x.s (by simp)) ⟨by simp[ren,renA,renL,fzs],rfl,rfl,rfl,rfl,rfl,rfl⟩ ?_
      rintro _ _ ⟨rfl,rfl⟩
      simp[aftS,zz_,wB,oV]
      refine zy_ ?_
      simp
      refine ye_ (mask:=[]) (sel:=[0]) (y1_ ⟨(if tm<x.t then x.t else tm),qu,vo,fa,iq,st,us,g::gr,q::qr,ak⟩ ([]++[⟨3,x.s,0,0⟩]) x hq) ⟨by simp[ren,renA,renL,fzs,Sg.v],rfl,rfl,rfl,rfl,rfl,rfl⟩ ?_
      rintro _ _ ⟨rfl,rfl⟩
      simp[aftS,zz_,wB,oV]
      refine zJ_ 1 ?_
      simp[hE,askS,askM,Bl.enq,c1,c2]
      exact⟨_,.inl rfl,rfl⟩
     simp[c1,hlq2]
     refine zB_ ?_
     simp
     refine y8_ (k3) (by simp[Sg.v]) (by simp[Sg.v]) ?_
     by_cases c3:cmpS q g<0
     case neg =>
      simp[c3]
      cases ak
      case' true =>
       simp
       refine zy_ ?_
       simp
       refine ye_ (mask:=[]) (sel:=[0]) (y1_ ⟨(if tm<x.t then x.t else tm),qu,vo,fa,iq,st,us,g::gr,q::qr,true⟩ [] x hq) ⟨by simp[ren,renA,renL,fzs,Sg.v],rfl,rfl,rfl,rfl,rfl,rfl⟩ ?_
       rintro _ _ ⟨rfl,rfl⟩
       simp[aftS,zz_,wB,oV]
       refine zJ_ 1 ?_
       simp[hE,askS,askM,Bl.enq,c1,c2,c3]
       exact⟨_,.inl rfl,rfl⟩
      simp
      refine zy_ ?_
      simp
      refine ye_ (mask:=[]) (sel:=[0]) (xv_ ⟨(if tm<x.t then x.t else tm),qu,vo,fa,iq,st,us,g::gr,q::qr,true⟩ [] 4 g.s (by simp)) ⟨by simp[ren,renA,renL,fzs],rfl,rfl,rfl,rfl,rfl,rfl⟩ ?_
      rintro _ _ ⟨rfl,rfl⟩
      simp[aftS,zz_,wB,oV]
      refine zy_ ?_
      simp
      refine ye_ (mask:=[]) (sel:=[0]) (y1_ ⟨(if tm<x.t then x.t else tm),qu,vo,fa,iq,st,us,g::gr,q::qr,true⟩ ([]++[⟨4,g.s,0,0⟩]) x hq) ⟨by simp[ren,renA,renL,fzs,Sg.v],rfl,rfl,rfl,rfl,rfl,rfl⟩ ?_
      rintro _ _ ⟨rfl,rfl⟩
      simp[aftS,zz_,wB,oV]
      refine zJ_ 1 ?_
      simp[hE,askS,askM,Bl.enq,c1,c2,c3]
      exact⟨_,.inl rfl,rfl⟩
     simp[c3]
     refine zy_ ?_
     simp
     refine ye_ (mask:=[]) (sel:=[0]) (xv_ ⟨(if tm<x.t then x.t else tm),qu,vo,fa,iq,st,us,g::gr,q::qr,ak⟩ [] 3 q.s (by simp)) ⟨by simp[ren,renA,renL,fzs],rfl,rfl,rfl,rfl,rfl,rfl⟩ ?_
     rintro _ _ ⟨rfl,rfl⟩
     simp[aftS,zz_,wB,oV]
     cases ak
     case' true =>
      simp
      refine zy_ ?_
      simp
      refine ye_ (mask:=[]) (sel:=[0]) (y1_ ⟨(if tm<x.t then x.t else tm),qu,vo,fa,iq,st,us,g::gr,q::qr,true⟩ ([]++[⟨3,q.s,0,0⟩]) x hq) ⟨by simp[ren,renA,renL,fzs,Sg.v],rfl,rfl,rfl,rfl,rfl,rfl⟩ ?_
      rintro _ _ ⟨rfl,rfl⟩
      simp[aftS,zz_,wB,oV]
      refine zJ_ 1 ?_
      simp[hE,askS,askM,Bl.enq,c1,c2,c3]
      exact⟨_,.inl rfl,rfl⟩
     simp
     refine zy_ ?_
     simp
     refine ye_ (mask:=[]) (sel:=[0]) (xv_ ⟨(if tm<x.t then x.t else tm),qu,vo,fa,iq,st,us,g::gr,q::qr,true⟩ ([]++[⟨3,q.s,0,0⟩]) 4 g.s (by simp)) ⟨by simp[ren,renA,renL,fzs],rfl,rfl,rfl,rfl,rfl,rfl⟩ ?_
     rintro _ _ ⟨rfl,rfl⟩
     simp[aftS,zz_,wB,oV]
     refine zy_ ?_
     simp
     refine ye_ (mask:=[]) (sel:=[0]) (y1_ ⟨(if tm<x.t then x.t else tm),qu,vo,fa,iq,st,us,g::gr,q::qr,true⟩ (([]++[⟨3,q.s,0,0⟩])++[⟨4,g.s,0,0⟩]) x hq) ⟨by simp[ren,renA,renL,fzs,Sg.v],rfl,rfl,rfl,rfl,rfl,rfl⟩ ?_
     rintro _ _ ⟨rfl,rfl⟩
     simp[aftS,zz_,wB,oV]
     refine zJ_ 1 ?_
     simp[hE,askS,askM,Bl.enq,c1,c2,c3]
     exact⟨_,.inl rfl,rfl⟩
def Bl.next(b:Bl):Bl:=match b.queue with
 |[]=>{ b with given:=[],asked:=false }
 |q::r=>{ b with given:=[q],queue:=r,asked:=false }
def yk_(l:List Sg):List Vt:=match l with
 |[]=>[]
 |q::_=>[⟨2,q.s,0,0⟩]
def zY_(b:Bl)(again:Bool):Bl:=match b.given with
 |[]=>b
 |g::_=>if again then b.enq g else b
def yZ_(b:Bl)(from':Int):Bool:=match b.given with
 |[]=>true
 |g::_=>g.s != from'
theorem nq_(b:Bl)(from':Int)(again:Bool)(hg:b.given.length<=1000)(hq:b.queue.length<=1000):AC Try.prog 51 [.ptr 0 0,.s (.int .i64 from'),.s (.bool again)] [wB b (oV [])] (fun r bs=>if yZ_ b from' then r=.s (.int .i64 14)/\bs=[wB b (oV [])] else r=.s (.int .i64 0)/\∃G,gvOk G (zY_ b again).next.given/\bs=[wG (zY_ b again).next G (oV (yk_ (zY_ b again).queue))]):=by
 obtain⟨tm,qu,vo,fa,iq,st,us,gv,qq,ak⟩:=b
 simp only at hg hq
 refine sM_ c51b zp_ rfl ?_
 simp -implicitDefEqProofs [a51b,F51,wB,oV]
 cases gv with
 | nil =>
   simp[sl]
   refine zJ_ 1 ?_
   simp[yZ_,wB,oV,sl]
 | cons g gr =>
   have hlg:((gr.length:Int)+1==0)=false:=by simp;omega
   by_cases hs:g.s=from'
   case neg =>
    have e1:(g.s != from')=true:=by simpa using hs
    simp[sl,hlg,Sg.v,e1]
    refine zJ_ 1 ?_
    simp[yZ_,hs,wB,oV,sl,Sg.v]
   subst hs
   simp[sl,hlg,Sg.v]
   cases again
   case false =>
    simp
    cases qq with
    | nil =>
      try simp -implicitDefEqProofs [sl]
      refine zJ_ 1 ?_
      simp[yZ_,zY_,Bl.next,yk_]
      exact⟨_,.inr (.inr ⟨rfl,rfl⟩),rfl⟩
    | cons q qr =>
      have hlq:(0:Int)<(qr.length:Int)+1:=by omega
      simp[hlq,sl,Sg.v]
      refine zy_ ?_
      simp
      refine ye_ (mask:=[]) (sel:=[]) (sO_ q qr) ⟨by simp[ren,renA,renL,fzs,sl,Sg.v],rfl,rfl,rfl,rfl,rfl,rfl⟩ ?_
      rintro _ _ ⟨rfl,rfl⟩
      simp[aftS,zz_]
      refine zy_ ?_
      simp
      refine ye_ (mask:=[]) (sel:=[0]) (t1_ ⟨tm,qu,vo,fa,iq,st,us,[q],qr,false⟩ [] 2 q.s (by simp)) ⟨by simp[ren,renA,renL,fzs],rfl,rfl,rfl,rfl,rfl,rfl⟩ ?_
      rintro _ _ ⟨rfl,rfl⟩
      simp[aftS,zz_,wG,oV]
      refine zJ_ 1 ?_
      simp[yZ_,zY_,Bl.next,yk_]
      exact .inr (.inl rfl)
   case true =>
    simp
    refine zy_ ?_
    simp
    refine ye_ (mask:=[]) (sel:=[0]) (y1_ ⟨tm,qu,vo,fa,iq,st,us,g::gr,qq,ak⟩ [] g hq) ⟨by simp[ren,renA,renL,fzs,Sg.v],rfl,rfl,rfl,rfl,rfl,rfl⟩ ?_
    rintro _ _ ⟨rfl,rfl⟩
    have hE:∀a b c d e f g' h,(⟨a,b,c,d,e,f,g',g::gr,qq,h⟩:Bl).enq g=⟨a,b,c,d,e,f,g',g::gr,insS qq (posQ g qq) g,h⟩:=fun a b c d e f g' h=>rfl
    generalize insS qq (posQ g qq) g=q2 at hE
    cases q2 with
    | nil =>
      simp[aftS,zz_,hE,wB,oV]
      try simp -implicitDefEqProofs [sl]
      refine zJ_ 1 ?_
      simp[yZ_,zY_,Bl.next,yk_,hE]
      exact⟨_,.inr (.inr ⟨rfl,rfl⟩),rfl⟩
    | cons q qr =>
      simp[aftS,zz_,hE,wB,oV]
      have hlq:(0:Int)<(qr.length:Int)+1:=by omega
      simp[hlq,sl,Sg.v]
      refine zy_ ?_
      simp
      refine ye_ (mask:=[]) (sel:=[]) (sO_ q qr) ⟨by simp[ren,renA,renL,fzs,sl,Sg.v],rfl,rfl,rfl,rfl,rfl,rfl⟩ ?_
      rintro _ _ ⟨rfl,rfl⟩
      simp[aftS,zz_]
      refine zy_ ?_
      simp
      refine ye_ (mask:=[]) (sel:=[0]) (t1_ ⟨tm,qu,vo,fa,iq,st,us,[q],qr,false⟩ [] 2 q.s (by simp)) ⟨by simp[ren,renA,renL,fzs],rfl,rfl,rfl,rfl,rfl,rfl⟩ ?_
      rintro _ _ ⟨rfl,rfl⟩
      simp[aftS,zz_,wG,oV]
      refine zJ_ 1 ?_
      simp[yZ_,zY_,Bl.next,yk_,hE]
      exact .inr (.inl rfl)
section
def ACD(P:Program)(f:FuncId)(args:List V)(bs:List (List V))(Q:V->List (List V)->Prop):Prop :=
 ∀g w vals u,Bd g w args vals bs->CallsD P f vals u w fun e u' w'=>u'=u/\∃v r bs' g',e=.returned v/\Q r bs'/\okV r=true/\Bd g' w' [r] #[v] bs'/\Ext g w (OwnB g w args vals bs) g' w' (OwnB g' w' [r] #[v] bs') bs.length
section
variable{P:Program}{F:Fr}{g:Gh}{w:World}{S:St}{a:Act}
theorem iV_{f:FuncId}{fn:Func}{c:Code}(hf:P.funcs[f]?=some fn)(hb:fn.body=some c)(hm:P.follows .mixedOrders=true)(hF:F.ok)(hdf:F.df=[])(hN:F.N=fn.ntmps){ac:ACode}(hc:comp P F c=some (zh_ ac))(hla:z9_ ac=true){rvs:List RV}(hr:ww_ P F fn.results.toList=some rvs)(hr6:fn.results.size<=6)
 {args:List V} {bs:List (List V)} (hle:args.length<=F.N) (hsv:F.sv.take args.length=List.range args.length) {Q:V->List (List V)->Prop}
 (hw:W P F bs.length ac (St0 F args bs) fun x S=>x.isEnd=true/\vn_ bs.length rvs Q S):ACD P f args bs Q:=by
 intro g w vals u hbd
 obtain⟨h0,ho0⟩:=wI_ (F:=F) hbd hdf hle hsv
 refine callsD_of_wp hf hb ?_
 rw[<-hN]
 have hrch:Rch F bs.length g w (St0 F args bs) ⟨vals++Array.replicate (F.N-vals.size) undef,[]⟩ g w (St0 F args bs) ⟨vals++Array.replicate (F.N-vals.size) undef,[]⟩:=⟨h0,Fw.refl _ _ _ _ _,zzl_ _,fun _ _=>rfl⟩
 refine w_ok hF hm ac c hc hla hrch hw fun x S' g' w' a' ⟨hx,hq⟩ hr'=>?_
 have main:a'.defers=[]/\∃v,(results fn a'.tmps).run P w'=.ok v w'/\∃v' r bs' g'',Ending.returned v=.returned v'/\Q r bs'/\okV r=true/\Bd g'' w' [r] #[v'] bs'/\Ext g w (OwnB g w args vals bs) g'' w' (OwnB g'' w' [r] #[v'] bs') bs.length:=by
  refine⟨hr'.rel.dfr.trans hdf,?_⟩
  unfold vn_ at hq
  split at hq
  .next ys ls hrv =>
   obtain⟨m,hnm,hex,hQ⟩:=hq
   obtain⟨vs,lss,e1,e2,e3,rfl,e5,e6⟩:=gots hr'.rel hr hrv
   obtain⟨k1,k2,k3⟩:=tr_ hr'.rel (by omega) (by omega) hex e6
   refine⟨packV vs.toArray,xx_ (rs:=fn.results.toList) (by simp) (by simpa using hr6) e1 e5,_,pack ys,S'.bx.take m,g',rfl,hQ,k1,k2,?_⟩
   have hfw:=hr'.fw
   refine⟨hfw.os,hfw.tape,hfw.output,hfw.size,fun k hk ho=>hfw.same k hk (fun h=>ho (ho0 k h)),fun k ho=>?_,hr'.phi⟩
   rcases hfw.owned k (k3 k ho) with q|q
   .exact .inl (ho0 k q)
   .exact .inr q
  .exact hq.elim
 cases x with
 |normal=>exact main
 |ret=>exact main
 |exit id=>simp[AX.isEnd]at hx
 |goto l=>simp[AX.isEnd]at hx
theorem iW_{f np:Nat}{ac:ACode}{rvs:List RV}(h:ze_ P f F=some (np,zh_ ac,rvs)/\z9_ ac=true)(hm:P.follows .mixedOrders=true){args:List V}(hl:args.length=np){bs:List (List V)}{Q:V->List (List V)->Prop}
 (hw:W P F bs.length ac (St0 F args bs) fun x S=>x.isEnd=true/\vn_ bs.length rvs Q S):ACD P f args bs Q:=by
 obtain⟨h,hla⟩:=h
 unfold ze_ at h
 split at h
 .next fn hf =>
  split at h
  .next c hb =>
   split at h
   .next hcond =>
    simp only[zzg_,zzp_,beq_iff_eq]at hcond
    obtain⟨⟨⟨⟨h1,h2⟩,h3⟩,h4⟩,h5⟩:=hcond
    have h2':fn.ntmps=F.N:=yyq_ h2
    simp only[zza_]at h
    obtain⟨a,hc,r,hr,h⟩:=h
    simp only[yya_,yyc_]at h
    obtain⟨rfl,rfl,rfl⟩:=h
    exact iV_ hf hb hm (q9_ h1) (ov_ h1) h2'.symm hc hla hr h5 (by omega) (by rw[hl];exact h4) hw
   .cases h
  .cases h
 .cases h
theorem jm_{f np:Nat}{ac:ACode}{rvs:List RV}(h:ze_ P f F=some (np,zh_ ac,rvs)/\z9_ ac=true)(hm:P.follows .mixedOrders=true){args:List V}(hl:args.length=np){bs:List (List V)}{Q:V->List (List V)->Prop}
 (hw:W P F bs.length ac (St0 F args bs) (endA bs.length rvs Q)):ACD P f args bs Q:=iW_ h hm hl hw
theorem qi_{ds:List Deferred}{r:Root}{x:V}{v:Value}:Has { F with df:=ds } g w S { a with defers:=ds } r x v↔Has F g w S a r x v:=by
 cases r with
 |t t=>exact Iff.rfl
 |l l=>cases l<;>exact Iff.rfl
theorem rH_{ds:List Deferred}{l:Loc}:z7_ { F with df:=ds } g w { a with defers:=ds } l=z7_ F g w a l:=by cases l<;>rfl
theorem q8_{ds:List Deferred}{r:Root}{p:List Nat}{k:Nat}:Own { F with df:=ds } g w S { a with defers:=ds } r p k↔Own F g w S a r p k:=by
 unfold Own
 simp only[qi_]
theorem kx_{ds:List Deferred}{r:Root}{p:List Nat}{k m:Nat}:OwnX { F with df:=ds } g w S { a with defers:=ds } r p k m↔OwnX F g w S a r p k m:=by
 unfold OwnX
 simp only[qi_]
theorem mb_{ds:List Deferred}{k:Nat}:x2_ { F with df:=ds } g w S { a with defers:=ds } k↔x2_ F g w S a k:=by
 unfold x2_
 simp only[q8_]
theorem jU_(h:Rel F g w S a)(ds:List Deferred):Rel { F with df:=ds } g w S { a with defers:=ds }:=by
 refine⟨h.sz,rfl,fun r x v hh=>h.rep r x v (qi_.1 hh),fun l x hx=>?_,fun l d e z xs v hl hv=>?_,h.box,h.inj,fun r x v p b o hh=>h.ptr r x v p b o (qi_.1 hh),fun r p k ho=>h.ownI r p k (q8_.1 ho),fun r p r' p' k h1 h2=>h.uniq r p r' p' k (q8_.1 h1) (q8_.1 h2),fun t p x v hx hv=>?_,h.novw,h.notl,h.Ilt,h.tmv,h.ept,h.epl,fun l d e z xs v k hl hv hk r p m ho=>?_⟩
 .rw[rH_];exact h.lookv l x hx
 .rw[rH_]at hv;exact h.lentr l d e z xs v hl hv
 .have:=h.link t p x v hx hv
  cases x<;>simp only[Link,rH_]at this ⊢<;>exact this
 .rw[rH_]at hv;exact h.lentl l d e z xs v k hl hv hk r p m (kx_.1 ho)
end
end
section
section
variable{P:Program}{F:Fr}{g:Gh}{w:World}{S:St}{a:Act}
theorem iL_(h:Rel F g w S a){t1 t2 b1 b2:Nat}(e1:S.tm t1=.ptr b1 0)(e2:S.tm t2=.ptr b2 0)(l1:b1<S.bx.length)(l2:b2<S.bx.length)(hok:∀cs∈S.bx,∀x∈cs,okL x=true) :
 Bd g w [.ptr b1 0,.ptr b2 0] #[Act.tv a t1,Act.tv a t2] S.bx/\∀k,OwnB g w [.ptr b1 0,.ptr b2 0] #[Act.tv a t1,Act.tv a t2] S.bx k->x2_ F g w S a k:=by
 have hr1:Rep g w (.ptr b1 0) (Act.tv a t1):=h.rep (.t t1) _ _ ⟨e1.symm,rfl⟩
 have hr2:Rep g w (.ptr b2 0) (Act.tv a t2):=h.rep (.t t2) _ _ ⟨e2.symm,rfl⟩
 have hat:∀l x,(Stn [.ptr b1 0,.ptr b2 0] S.bx).at l=some x->(∃v,x=.ptr b1 0/\v=Act.tv a t1/\l=.var 0/\z7_ (Frn 2) g w ⟨#[Act.tv a t1,Act.tv a t2],[]⟩ l=some v/\Rep g w x v)\/(∃v,x=.ptr b2 0/\v=Act.tv a t2/\l=.var 1/\z7_ (Frn 2) g w ⟨#[Act.tv a t1,Act.tv a t2],[]⟩ l=some v/\Rep g w x v) \/
  ∃b o,l=.cell b o/\S.at l=some x/\okL x=true/\z7_ (Frn 2) g w ⟨#[Act.tv a t1,Act.tv a t2],[]⟩ l=z7_ F g w a l:=by
  intro l x hx
  cases l with
  | var i =>
    match i,hx with
    |0,hx=>cases hx;exact .inl ⟨_,rfl,rfl,rfl,rfl,hr1⟩
    |1,hx=>cases hx;exact .inr (.inl ⟨_,rfl,rfl,rfl,rfl,hr2⟩)
    |i+2,hx=>simp[Stn,St.at]at hx
  | cell b o =>
    have hx':S.at (.cell b o)=some x:=hx
    refine .inr (.inr ⟨b,o,rfl,hx',?_,rfl⟩)
    simp only[St.at]at hx'
    cases hb:S.bx[b]? with
    |none=>rw[hb]at hx';cases hx'
    | some cs =>
      rw[hb]at hx'
      exact hok cs (zzd_ hb) x (zzd_ hx')
 have hhas:∀l x v,Has (Frn 2) g w (Stn [.ptr b1 0,.ptr b2 0] S.bx) ⟨#[Act.tv a t1,Act.tv a t2],[]⟩ (.l l) x v->((∃b,x=.ptr b 0/\b<S.bx.length)/\Rep g w x v)\/(Has F g w S a (.l l) x v/\okL x=true/\∃b o,l=.cell b o):=by
  intro l x v hh
  rcases hat l x hh.1 with ⟨v',rfl,rfl,rfl,hv,hr⟩|⟨v',rfl,rfl,rfl,hv,hr⟩|⟨b,o,rfl,hx,hk,hv⟩
  .have:=hh.2.symm.trans hv;cases this;exact .inl ⟨⟨b1,rfl,l1⟩,hr⟩
  .have:=hh.2.symm.trans hv;cases this;exact .inl ⟨⟨b2,rfl,l2⟩,hr⟩
  .exact .inr ⟨⟨hx,by rw[<-hv];exact hh.2⟩,hk,b,o,rfl⟩
 have hno:∀ {t p x},((Stn [.ptr b1 0,.ptr b2 0] S.bx).tm t).sub p=some x->x=.no:=by
  intro t p x hs
  cases p<;>simp[Stn,V.sub]at hs
  exact hs.symm
 have hown:∀r p k,Own (Frn 2) g w (Stn [.ptr b1 0,.ptr b2 0] S.bx) ⟨#[Act.tv a t1,Act.tv a t2],[]⟩ r p k->Own F g w S a r p k/\∃l,r=.l l:=by
  intro r p k ⟨x,u,hh,ho⟩
  cases r with
  | t t =>
    obtain⟨rfl,rfl⟩:=hh
    rcases ho with ⟨_,_,_,_,q,_⟩|⟨_,q,_⟩
    .cases hno q
    .simp[Stn,zk_]at q
  | l l =>
    rcases hhas l x u hh with ⟨⟨b,rfl,_⟩,_⟩|⟨h1,h2,_⟩
    .rcases ho with ⟨_,_,_,_,q,_⟩|⟨_,q,_⟩
     .cases p<;>simp[V.sub]at q
     .simp[zk_]at q
    .rcases ho with ho|⟨_,q,_⟩
     .exact⟨⟨x,u,h1,.inl ho⟩,l,rfl⟩
     .obtain⟨d,e,z,xs,q1,_⟩:=z3_ q
      subst q1
      simp[okL]at h2
 refine⟨⟨rfl,rfl,?_,?_,?_,h.box,h.inj,?_,?_,?_,?_,?_,?_,h.Ilt,?_,?_,?_,?_⟩,fun k ho=>?_⟩
 .intro r x v hh
  cases r with
  |t t=>obtain⟨rfl,rfl⟩:=hh;exact .no
  | l l =>
    rcases hhas l x v hh with ⟨_,hr⟩|⟨h1,_⟩
    .exact hr
    .exact h.rep _ _ _ h1
 .intro l x hx
  rcases hat l x hx with ⟨v',_,_,rfl,hv,_⟩|⟨v',_,_,rfl,hv,_⟩|⟨b,o,rfl,hx',hk,hv⟩
  .exact⟨v',hv,fun ⟨b,o,e⟩=>by cases e⟩
  .exact⟨v',hv,fun ⟨b,o,e⟩=>by cases e⟩
  .obtain⟨v,q1,q2⟩:=h.lookv _ _ hx';exact⟨v,hv.trans q1,q2⟩
 .intro l d e z xs v hx _
  rcases hat l _ hx with ⟨v',q,_⟩|⟨v',q,_⟩|⟨b,o,_,_,hk,_⟩
  .cases q
  .cases q
  .simp[okL]at hk
 .intro r x v p b o hh hs
  cases r with
  |t t=>obtain⟨rfl,rfl⟩:=hh;cases hno hs
  | l l =>
    rcases hhas l x v hh with ⟨⟨b',rfl,hl⟩,_⟩|⟨h1,_⟩
    .cases p<;>simp[V.sub]at hs
     rw[<-hs.1];exact hl
    .exact h.ptr _ _ _ _ _ _ h1 hs
 .intro r p k ho;exact h.ownI r p k (hown r p k ho).1
 .intro r p r' p' k h1 h2;exact h.uniq r p r' p' k (hown r p k h1).1 (hown r' p' k h2).1
 .intro t p x v hx hv
  cases hno hx
  trivial
 .intro l x hx p
  rcases hat l x hx with ⟨v',rfl,_⟩|⟨v',rfl,_⟩|⟨b,o,rfl,hx',_,_⟩
  .refine⟨?_,?_,?_,?_⟩<;>intros<;>intro hs<;>cases p<;>simp[V.sub]at hs
  .refine⟨?_,?_,?_,?_⟩<;>intros<;>intro hs<;>cases p<;>simp[V.sub]at hs
  .exact h.novw _ x hx' p
 .intro t p d e0 e z xs hs
  cases hno hs
 .intro t _;rfl
 .intro t p x hx
  cases hno hx
  exact zzn_ _
 .intro l x hx
  rcases hat l x hx with ⟨v',rfl,_⟩|⟨v',rfl,_⟩|⟨b,o,rfl,hx',hk,_⟩
  .exact zzn_ _
  .exact zzn_ _
  .cases x<;>simp[okL]at hk<;>exact zzn_ _
 .intro l d e z xs v k hx
  rcases hat l _ hx with ⟨v',q,_⟩|⟨v',q,_⟩|⟨b,o,_,_,hk,_⟩
  .cases q
  .cases q
  .simp[okL]at hk
 .rcases ho with ⟨r,p,ho⟩|⟨b,hb,e⟩
  .exact .inl ⟨r,p,(hown r p k ho).1⟩
  .exact .inr ⟨b,hb,e⟩
end
section
variable{P:Program}{F:Fr}
theorem jo_{f fd:FuncId}{fn:Func}{c0 c1 c2 c3:Code}(hf:P.funcs[f]?=some fn)(hb:fn.body=some (.seq c0 (.seq c1 (.seq c2 c3))))(hm:P.follows .mixedOrders=true)(hF:F.ok)(hdf:F.df=[])(hN:F.N=fn.ntmps)
 {a0 a1 a3:ACode} (hc0:comp P F c0=some (zh_ a0)) (hl0:z9_ a0=true) (hc1:comp P F c1=some (zh_ a1)) (hl1:z9_ a1=true) {rvs:List RV} (hr:∀ds,ww_ P { F with df:=ds } fn.results.toList=some rvs) (hr6:fn.results.size<=6)
 {args:List V} {bs:List (List V)} (hle:args.length<=F.N) (hsv:F.sv.take args.length=List.range args.length) {Q:V->List (List V)->Prop}
 {td p q bp bq:Nat} (hops:∀ds,opds { F with df:=ds } [.tmp p,.tmp q]=some [.t p,.t q]) (hrt:∀r∈fn.results.toList,∃t,r=.tmp t/\t≠td) (htd:td<F.N) (htv:td∉F.sv) (hp:p<F.N) (hpv:p∉F.sv) (hq':q<F.N) (hqv:q∉F.sv)
 (h2:∀(a:Act) (w:World) (R:Exit->Act->World->Prop),a.tmps.size=F.N->a.defers=[]->R .normal { tmps:=(a.put (some td) (.func (.func fd) #[] #[(Act.tv a p),(Act.tv a q)])).tmps,defers:=[{ target:=.fn (.func fd) #[(Act.tv a p),(Act.tv a q)],args:=#[] }] } w->c2.wp P R a w)
 (hi2:∀(x y:Value) w,(invoke (.fn (.func fd) #[x,y]) #[]).run P w=.ok (.enter fd #[x,y]) w)
 {S1:St} (hw0:W P F bs.length a0 (St0 F args bs) fun x S=>x=.normal/\W P F bs.length a1 S fun x S=>x=.normal/\S=S1)
 (hS1:S1.tm p=.ptr bp 0/\S1.tm q=.ptr bq 0/\bp<S1.bx.length/\bq<S1.bx.length)
 (hc3:∀ds,comp P { F with df:=ds } c3=some (zh_ a3)) (hl3:z9_ a3=true)
 (hw3:∀ds,W P { F with df:=ds } S1.bx.length a3 { S1 with tm:=upd S1.tm td .gone } fun x S=>x.isEnd=true/\S.tm p=.ptr bp 0/\S.tm q=.ptr bq 0 /\
  (∀cs∈S.bx,∀x∈cs,okL x=true)/\∃e,e.oneCell'=true/\(∃ls,rvVs S rvs=some ([.s e],ls))/\∃Qd,ACD P fd [.ptr bp 0,.ptr bq 0] S.bx Qd/\∀r bs'',Qd r bs''->r=.tup []/\∃m,bs.length<=m/\m<=bs''.length/\(bs''.take m).all (·.all (zV_ m))=true/\Q (.s e) (bs''.take m)):AC P f args bs Q:=by
 intro g w vals hbd
 obtain⟨h0,ho0⟩:=wI_ (F:=F) hbd hdf hle hsv
 refine calls_of_wp_defers hf hb ?_
 rw[<-hN]
 generalize hA0:(⟨vals++Array.replicate (F.N-vals.size) undef,[]⟩:Act)=A0 at h0 ho0 ⊢
 have hrch:Rch F bs.length g w (St0 F args bs) A0 g w (St0 F args bs) A0:=⟨h0,Fw.refl _ _ _ _ _,zzl_ _,fun _ _=>rfl⟩
 refine wp_seq (w_ok hF hm a0 c0 hc0 hl0 hrch hw0 ?_)
 rintro x S w1g w1 w1a ⟨rfl,hwS⟩ hr1
 refine wp_seq (w_ok hF hm a1 c1 hc1 hl1 hr1 hwS ?_)
 rintro x S g1 w1 b1 ⟨rfl,rfl⟩ hr2
 refine wp_seq (h2 b1 w1 _ hr2.rel.sz (hr2.rel.dfr.trans hdf) ?_)
 obtain⟨s1,s2,s3,s4⟩:=hS1
 -- the closure's slot, the list of what is deferred
 have hput:=hr2.rel.put (tm1:=S.tm) (fun t=>Less.refl _) (fun _ _=>rfl) htd htv (y:=.gone) (v:=.func (.func fd) #[] #[(Act.tv b1 p),(Act.tv b1 q)]) .gone (by intro h;cases h)
  (fun p b o hs=>by cases p<;>simp[V.sub]at hs) (fun p d e0 e z xs hs=>by cases p<;>simp[V.sub]at hs) (fun p x hs=>by cases p<;>simp[V.sub]at hs;subst hs;exact zzn_ _)
  (fun p x u hs _=>by cases p<;>simp[V.sub]at hs;subst hs;trivial) (fun p k ⟨e,z,xs,u,q1,_⟩=>by cases p<;>simp[V.sub]at q1) (fun p p' k ⟨e,z,xs,u,q1,_⟩=>by cases p<;>simp[V.sub]at q1)
  (fun p k m ⟨e,z,xs,u,q1,_⟩=>by cases p<;>simp[V.sub]at q1)
 generalize hds:([{ target:=.fn (.func fd) #[(Act.tv b1 p),(Act.tv b1 q)],args:=#[] }]:List Deferred)=ds at *
 have hrel3:=jU_ hput ds
 have hbp:(Act.tv b1 p)=.pointer (some ⟨g1.φ bp,0,none⟩):=by
  have:=hr2.rel.rep (.t p) (.ptr bp 0) ((Act.tv b1 p)) ⟨s1.symm,rfl⟩
  exact this.ptrv (by omega)
 have hbq:(Act.tv b1 q)=.pointer (some ⟨g1.φ bq,0,none⟩):=by
  have:=hr2.rel.rep (.t q) (.ptr bq 0) ((Act.tv b1 q)) ⟨s2.symm,rfl⟩
  exact this.ptrv (by omega)
 have hrch3:Rch { F with df:=ds } S.bx.length g1 w1 { S with tm:=upd S.tm td .gone } { tmps:=(b1.put (some td) (.func (.func fd) #[] #[(Act.tv b1 p),(Act.tv b1 q)])).tmps,defers:=ds } g1 w1 { S with tm:=upd S.tm td .gone } { tmps:=(b1.put (some td) (.func (.func fd) #[] #[(Act.tv b1 p),(Act.tv b1 q)])).tmps,defers:=ds } :=
  ⟨hrel3,Fw.refl _ _ _ _ _,zzl_ _,fun _ _=>rfl⟩
 refine w_ok (F:={ F with df:=ds }) ⟨hF.inj,hF.lt⟩ hm a3 c3 (hc3 ds) hl3 hrch3 (hw3 ds) ?_
 rintro x S' g' w' a' ⟨hx,t1,t2,hokb,e,he1,⟨ls,hrv⟩,Qd,hacd,hQd⟩ hr'
 have hlen3:S.bx.length<=S'.bx.length:=hr'.len
 have hap:(Act.tv a' p)=(Act.tv b1 p):=by
  have:=hr'.rel.rep (.t p) (.ptr bp 0) ((Act.tv a' p)) ⟨t1.symm,rfl⟩
  rw[this.ptrv (by omega),hbp,hr'.phi bp s3]
 have haq:(Act.tv a' q)=(Act.tv b1 q):=by
  have:=hr'.rel.rep (.t q) (.ptr bq 0) ((Act.tv a' q)) ⟨t2.symm,rfl⟩
  rw[this.ptrv (by omega),hbq,hr'.phi bq s4]
 have own3:∀k,x2_ { F with df:=ds } g1 w1 { S with tm:=upd S.tm td .gone } { tmps:=(b1.put (some td) (.func (.func fd) #[] #[(Act.tv b1 p),(Act.tv b1 q)])).tmps,defers:=ds } k->x2_ F g1 w1 S b1 k:=by
  intro k ho
  have ho:=mb_.1 ho
  rcases ho with ⟨r,p',ho⟩|ho
  .rcases xb_ hr2.rel (fun t=>Less.refl _) htd htv (by intro h;cases h) (fun p d e0 e z xs hs=>by cases p<;>simp[V.sub]at hs) ho with ⟨_,e,z,xs,_,q1,_⟩|q
   .cases p'<;>simp[V.sub]at q1
   .exact .inl ⟨r,p',q⟩
  .exact .inr ho
 obtain⟨hbd2,hown2⟩:=iL_ hr'.rel (t1:=p) (t2:=q) t1 t2 (by omega) (by omega) hokb
 have hdf':a'.defers=ds:=hr'.rel.dfr
 have hleave:Leaves P fn a'.tmps (fun e w'=>∃v r bs' g',e=.returned v/\Q r bs'/\okV r=true/\Bd g' w' [r] #[v] bs'/\Ext g w (OwnB g w args vals bs) g' w' (OwnB g' w' [r] #[v] bs') bs.length) a'.defers .returning w':=by
  rw[hdf',<-hds]
  refine leaves_cons (by simp) (hi2 _ _ _) ?_
  rw[hap,haq]at hbd2 hown2
  refine(hacd g' w' _ .returning hbd2).mono ?_
  rintro e' u' w2 ⟨rfl,v,r,bs2,g2,rfl,hQr,hok2,hb2,hx2⟩
  obtain⟨rfl,m,hm1,hm2,hm3,hQ⟩:=hQd r bs2 hQr
  show Leaves P fn a'.tmps _ [] _ w2
  obtain⟨vs,lss,e1,e2,e3,e4,e5,e6⟩:=gots hr'.rel (hr ds) hrv
  have hvs:vs=[e]:=by
   have hl:vs.length=1:=by rw[e1,<-e2];rfl
   match vs,hl with
   | [x], _ =>
     have hl3:lss.length=1:=by rw[e3,<-e2];rfl
     obtain⟨l0,hl0⟩:∃l0,lss[0]?=some l0:=⟨lss[0]'(by omega),by simp⟩
     have:=(e6 0 (.s e) x l0 rfl rfl hl0).rep.of_s rfl
     rw[this]
  subst hvs
  have hres:(results fn a'.tmps).run P w2=.ok e w2:=by
   have:=xx_ (P:=P) (w:=w2) (tmps:=a'.tmps) (rs:=fn.results.toList) (fn:=fn) (vs:=[e]) (by simp) (by simpa using hr6) e1 (fun i r x hr1 hv1=>by
    obtain⟨t,rfl,_⟩:=hrt r (zzd_ hr1)
    have:=e5 i _ x hr1 hv1
    simp only[runR,Sem.run_pure,Result.ok.injEq]at this ⊢
    exact⟨this.1,trivial⟩)
   simpa[packV] using this
  obtain⟨k1,k2,k3⟩:=tr_ (F:=Frn 1) (n:=m) (ys:=[.s e]) (vs:=[e]) (lss:=[[]]) hb2 rfl rfl (by simp[wb_,dupF,ptrA,Stn];exact⟨by simpa using hm3,decide_eq_true hm2⟩) (fun i y v l hy hv hl=>by
   match i,hy,hv,hl with
   | 0, hy, hv, hl =>
     cases hy
     cases hv
     cases hl
     refine⟨.s he1,rfl,⟨fun _=>[],fun p k ⟨e0,z,xs,u,q1,_⟩=>?_⟩,fun p b o hs=>?_⟩
     .cases p<;>simp[V.sub]at q1
     .cases p<;>simp[V.sub]at hs)
  have hfw3:=hr'.fw
  have hfw1:=hr2.fw
  have hsub:∀k,OwnB g' w' [.ptr bp 0,.ptr bq 0] #[(Act.tv b1 p),(Act.tv b1 q)] S'.bx k->x2_ F g1 w1 S b1 k\/w1.heap.size<=k:=fun k ho=>by
   rcases hfw3.owned k (hown2 k ho) with h|h
   .exact .inl (own3 k h)
   .exact .inr h
  refine⟨e,hres,e,.s e,_,g2,rfl,hQ,rfl,k2,(hx2.os.trans hfw3.os).trans hfw1.os,(hx2.tape.trans hfw3.tape).trans hfw1.tape,(hx2.output.trans hfw3.output).trans hfw1.output,yyd_ hfw1.size (yyd_ hfw3.size hx2.size),fun k hk ho=>?_,fun k ho=>?_,fun b hb=>?_⟩
  .have ho':¬x2_ F g w (St0 F args bs) A0 k:=fun h=>ho (ho0 k h)
   have ho1:¬x2_ F g1 w1 S b1 k:=fun h=>by
    rcases hfw1.owned k h with q|q
    .exact ho' q
    .omega
   have hk1:=zzk_ hk hfw1.size
   obtain⟨m1,m2⟩:=hfw1.same k hk ho'
   obtain⟨m3,m4⟩:=hfw3.same k hk1 (fun h=>ho1 (own3 k h))
   obtain⟨m5,m6⟩:=hx2.same k (zzk_ hk1 hfw3.size) (fun h=>by
    rcases hsub k h with q|q
    .exact ho1 q
    .omega)
   exact⟨m5.trans (m3.trans m1),m6.trans (m4.trans m2)⟩
  .rcases hx2.owned k (k3 k ho) with q|q
   .rcases hsub k q with q|q
    .rcases hfw1.owned k q with q|q
     .exact .inl (ho0 k q)
     .exact .inr q
    .exact .inr (yyd_ hfw1.size q)
   .exact .inr (yyd_ hfw1.size (yyd_ hfw3.size q))
  .have hb1:b<S.bx.length:=zzk_ hb hr2.len
   rw[hx2.phi b (by omega),hr'.phi b hb1,hr2.phi b hb]
 cases x with
 |normal=>exact hleave
 |ret=>exact hleave
 |exit id=>simp[AX.isEnd]at hx
 |goto l=>simp[AX.isEnd]at hx
end
end
def F52:Fr:=⟨120,[0,1,2,6,8],[]⟩
def a52x:ACode :=
 (qP 0 [
 qN 3 (.box 1 (.v 0)),
 qV 3 (qI 0)])
def a52y:ACode :=
 (qP 1 [
 qN 7 (.allo [(.int .i64 0)]),
 qS 1 (T 7) (qI 0)])
def a52z:ACode :=
 (.seq (qP 3 [
 qN 10 (qm 1),
 qN 11 (.bin .shl (qI 1) (T 10)),
 qV 4 (T 11)])
 (.seq (.seq (qP 4 [
 qN 12 (qm 2),
 qN 13 (qi .eql 12 4)])
 (.cond (T 13)
 (.seq (.seq (qP 5 [
 qN 14 (ql 1 3),
 qN 15 (.nilck (T 14)),
 qN 16 (qf 0 15),
 qN 17 (qf 2 16),
 qN 18 (ql 1 17),
 qN 19 (qm 4),
 qN 20 (qb .and 18 19),
 qN 21 (qi .eql 20 0),
 qN 22 (qt 21),
 qG 23 22 false (ql 1 3),
 qG 24 22 false (.nilck (T 23)),
 qG 25 22 false (qf 0 24),
 qG 26 22 false (qf 7 25),
 qG 27 22 false (ql 1 26),
 qN 28 (qo 22 27)])
 (.cond (T 28)
 (.seq (qP 6 [
 qV 3 (qI 0)])
 .ret)
 .skip))
 (.seq (.seq (qP 7 [
 qN 29 (ql 1 3),
 qN 30 (.nilck (T 29)),
 qN 31 (qf 0 30),
 qN 32 (qf 3 31),
 qN 33 (ql 1 32),
 qN 34 (qi .eql 33 0)])
 (.cond (T 34)
 (qP 8 [
 qN 35 (ql 1 3),
 qN 36 (.nilck (T 35)),
 qN 37 (qf 0 36),
 qN 38 (qf 4 37),
 qN 39 (ql 1 38),
 qN 40 (qm 4),
 qN 41 (qb .or 39 40),
 qN 42 (.nilck (T 35)),
 qN 43 (qf 0 42),
 qN 44 (qf 4 43),
 qS 1 (T 44) (T 41)])
 (qP 9 [
 qN 45 (qm 4),
 qS 1 (T 7) (T 45)])))
 (.seq (qP 10 [
 qV 3 (qI 0)])
 .ret)))
 .skip))
 (.seq (.seq (qP 11 [
 qN 46 (ql 1 3),
 qN 47 (.nilck (T 46)),
 qN 48 (qf 0 47),
 qN 49 (qf 1 48),
 qN 50 (ql 1 49),
 qN 51 (qm 4),
 qN 52 (qb .and 50 51),
 qN 53 (qi .eql 52 0),
 qN 54 (qt 53),
 qG 55 54 false (ql 1 3),
 qG 56 54 false (.nilck (T 55)),
 qG 57 54 false (qf 0 56),
 qG 58 54 false (qf 2 57),
 qG 59 54 false (ql 1 58),
 qG 60 54 false (qm 4),
 qG 61 54 false (qb .and 59 60),
 qG 62 54 false (qi .neq 61 0),
 qN 63 (qo 54 62)])
 (.cond (T 63)
 (.seq (qP 12 [
 qV 3 (qI 14)])
 .ret)
 .skip))
 (.seq (.seq (qP 13 [
 qN 64 (qm 2),
 qN 65 (qi .eql 64 3)])
 (.cond (T 65)
 (.seq (qP 14 [
 qN 66 (ql 1 3),
 qN 67 (.nilck (T 66)),
 qN 68 (qf 0 67),
 qN 69 (qf 3 68),
 qN 70 (ql 1 69),
 qN 71 (qm 4),
 qN 72 (qb .or 70 71),
 qN 73 (.nilck (T 66)),
 qN 74 (qf 0 73),
 qN 75 (qf 3 74),
 qS 1 (T 75) (T 72)])
 (.seq (qP 15 [
 qN 76 (ql 1 3),
 qN 77 (.nilck (T 76)),
 qN 78 (qf 0 77),
 qN 79 (qf 4 78),
 qN 80 (ql 1 79),
 qS 1 (T 7) (T 80)])
 (.seq (qP 16 [
 qV 3 (qI 0)])
 .ret)))
 .skip))
 (.seq (qP 17 [
 qN 81 (ql 1 3),
 qN 82 (.nilck (T 81)),
 qN 83 (qf 0 82),
 qN 84 (qf 2 83),
 qN 85 (ql 1 84),
 qN 86 (qm 4),
 qN 87 (qb .or 85 86),
 qN 88 (.nilck (T 81)),
 qN 89 (qf 0 88),
 qN 90 (qf 2 89),
 qS 1 (T 90) (T 87)])
 (.seq (qP 18 [
 qN 91 (ql 1 3),
 qN 92 (.nilck (T 91)),
 qN 93 (qf 0 92),
 qN 94 (qf 3 93),
 qN 95 (ql 1 94),
 qN 96 (qm 4),
 qN 97 (qb .andNot 95 96),
 qN 98 (.nilck (T 91)),
 qN 99 (qf 0 98),
 qN 100 (qf 3 99),
 qS 1 (T 100) (T 97)])
 (.seq (.seq (.reg 19 [] [
 qN 101 (ql 1 3),
 qN 102 (.nilck (T 101)),
 qN 103 (qf 0 102),
 qN 104 (qf 2 103),
 qN 105 (ql 1 104),
 qN 106 (ql 1 3),
 qN 107 (.nilck (T 106)),
 qN 108 (qf 0 107),
 qN 109 (qf 1 108),
 qN 110 (ql 1 109),
 qN 111 (qb .eql 105 110)] (some [[],[0],[1],[2],[3],[],[5],[6],[7],[8],[4,9]]) ⟨[3],[],[],[]⟩)
 (.cond (T 111)
 (.seq (qP 20 [
 qN 112 (ql 1 3),
 qN 113 (.nilck (T 112)),
 qN 114 (qf 0 113),
 qN 115 (qf 7 114),
 ⟨.none,.st 1 (T 115) (.c (.bool true)),none⟩])
 (qP 21 [
 qN 116 (ql 1 3),
 qN 117 (.nilck (T 116)),
 qN 118 (qf 0 117),
 qN 119 (qf 4 118),
 qS 1 (T 119) (qI 0)]))
 .skip))
 (.seq (qP 22 [
 qV 3 (qI 0)])
 .ret))))))))
theorem iJ_:∃c0 c1 c2 c3,Try.f52.body=some (.seq c0 (.seq c1 (.seq c2 c3)))/\comp Try.prog F52 c0=some (zh_ a52x)/\comp Try.prog F52 c1=some (zh_ a52y)/\(∀ds,comp Try.prog ⟨120,[0,1,2,6,8],ds⟩ c3=some (zh_ a52z)) /\
 ∀(a:Act) (w:World) (R:Exit->Act->World->Prop),a.tmps.size=120->a.defers=[]->R .normal { tmps:=(a.put (some 9) (.func (.func 73) #[] #[(Act.tv a 7),(Act.tv a 3)])).tmps,defers:=[{ target:=.fn (.func 73) #[(Act.tv a 7),(Act.tv a 3)],args:=#[] }] } w->c2.wp Try.prog R a w:=by
 refine⟨_,_,_,_,rfl,by kernel_rfl,by kernel_rfl,fun ds=>by kernel_rfl,fun a w R hs hd hR=>?_⟩
 obtain⟨tmps,defers⟩:=a
 simp only at hs hd
 subst hd
 have h9:tmps.size>9:=by omega
 have hx:∀v,(tmps.setIfInBounds 9 v).getD 9 undef=v:=fun v=>by simp[Array.getD_eq_getD_getElem?,h9]
 refine wp_region ?_
 show wpOps _ _ _ [0,1] _ _
 simp only[wpOps]
 simp[Oper.wp,execOp,Oper.upon,Act.eval,Act.put,resolve,hx,Region.wanted,Instr.makeFunc,Deferred.ofValue]
 refine .inl (.inl ?_)
 simpa[Act.put,Act.tv,Array.getD_eq_getD_getElem?] using hR
theorem kL_:z9_ a52x=true/\z9_ a52y=true/\z9_ a52z=true:=⟨by kernel_rfl,by kernel_rfl,by kernel_rfl⟩
def Bl.gave(b:Bl)(k:Int):Bl:={ b with votes:=bits .andNot .i64 b.votes k,fail:=bits .or .i64 b.fail k,inqd:=bits .andNot .i64 b.inqd k }
def yldO(l:List Int):List Vt:=l.map fun v=>⟨5,v,0,0⟩
theorem po_{l:List Int}{i:Nat}(h:i<l.length):yldO (l.take (i+1))=yldO (l.take i)++[⟨5,l[i],0,0⟩]:=by
 unfold yldO
 rw[yyw_,zzf_ h,List.map_append]
 rfl
def ylI(b:Bl)(l:List Vt)(k:Int)(m:Nat)(S:St):Prop:=∃i:Nat,i+m=(mbU k 9).length /\
 S=⟨tmL [(5,.list 1 (iv (mbU k 9))),(6,.s (.int .i64 (mbU k 9).length)),(7,.s (.int .i64 i))],[.ptr 2 0,.ptr 1 0,.no],[wB b (oV (l++yldO ((mbU k 9).take i))),[.ptr 0 0],[.s (.int .i64 k)]],0⟩
theorem yn_(b:Bl)(l:List Vt)(k:Int)(hl:l.length<=900):ACD Try.prog 73 [.ptr 2 0,.ptr 1 0] [wB b (oV l),[.ptr 0 0],[.s (.int .i64 k)]] (fun r bs=>r=.tup []/\∃r2 r3,bs=[wB (b.gave k) (oV (l++yldO (mbU k 9))),r2,r3]):=by
 have k4:=v4_ k
 have hlen:=wi_ k 9
 refine jm_ c73 zp_ rfl ?_
 simp -implicitDefEqProofs [a73,F73,wB,oV]
 refine z1_ ?_
 simp
 refine zc_ k4 (by simp) (by simp) ?_
 rintro _ rfl
 simp
 refine zi_ [5,6,7] [2] 3 (by simp) (ylI b l k) (mbU k 9).length ⟨by simp,0,by simp,by simp[wB,oV,yldO]⟩ ?_
 rintro m S ⟨i,hi,rfl⟩
 by_cases hm:i<(mbU k 9).length
 .have g1:(i:Int)<(mbU k 9).length:=by omega
  have g0:¬(i:Int)<0:=by omega
  have hwi:IntKind.i64.wrap ((i:Int)+1)=(i:Int)+1:=wrap64 (by omega)
  have hs:=po_ hm
  have hol:(l++yldO ((mbU k 9).take i)).length<=909:=by simp[yldO];omega
  have hs2:l++yldO ((mbU k 9).take (i+1))=(l++yldO ((mbU k 9).take i))++[⟨5,(mbU k 9)[i],0,0⟩]:=by rw[hs,zzq_]
  generalize l++yldO ((mbU k 9).take i)=out at hs2 hol
  simp[g1,g0,zI_ hm,hwi]
  refine zy_ ?_
  simp
  refine ye_ (mask:=[]) (sel:=[0]) (xv_ b out 5 (mbU k 9)[i] (by omega)) ⟨by simp[ren,renA,renL,fzs],rfl,rfl,rfl,rfl,rfl,rfl⟩ ?_
  rintro _ _ ⟨rfl,rfl⟩
  simp[aftS,zz_,hwi,wB,oV]
  exact⟨m-1,by omega,i+1,by omega,by rw[hs2];simp[wB,oV]⟩
 .have g1:i=(mbU k 9).length:=by omega
  have g2:(mbU k 9).take i=mbU k 9:=zzx_ (by omega)
  simp[g1,wB,oV,↓zb_,↓z2_]
  refine zJ_ 3 ?_
  simp[Bl.gave]
def ansR(b:Bl)(bit kind:Int):Int×Bl×Int :=
 if kind=4 then
  if bits .and .i64 b.votes bit=0\/b.using'=true then (0,b,0)
  else if b.fail=0 then (0,{ b with inqd:=bits .or .i64 b.inqd bit },0) else (0,b,bit)
 else if bits .and .i64 b.qu bit=0\/bits .and .i64 b.votes bit≠0 then (14,b,0)
 else if kind=3 then (0,{ b with fail:=bits .or .i64 b.fail bit },b.inqd)
 else if bits .or .i64 b.votes bit=b.qu then (0,{ b with votes:=bits .or .i64 b.votes bit,fail:=bits .andNot .i64 b.fail bit,using':=true,inqd:=0 },0)
 else (0,{ b with votes:=bits .or .i64 b.votes bit,fail:=bits .andNot .i64 b.fail bit },0)
theorem nv_(b:Bl)(f:Nat)(kind:Int)(hf:f<=9):AC Try.prog 52 [.ptr 0 0,.s (.int .i64 f),.s (.int .i64 kind)] [wB b (oV [])]
 (fun r bs=>r=.s (.int .i64 (ansR b ((2^f:Nat):Int) kind).1)/\bs=[wB ((ansR b ((2^f:Nat):Int) kind).2.1.gave (ansR b ((2^f:Nat):Int) kind).2.2) (oV (yldO (mbU (ansR b ((2^f:Nat):Int) kind).2.2 9)))]):=by
 obtain⟨c0,c1,c2,c3,hb,hc0,hc1,hc3,h2⟩:=iJ_
 have es:=shl1 (n:=f) (by omega)
 have hf0:¬(f:Int)<0:=by omega
 obtain⟨bit,hbit⟩:∃bit:Int,bit=((2^f:Nat):Int):=⟨_,rfl⟩
 rw[<-hbit]at es ⊢
 clear hbit
 obtain⟨tm,qu,vo,fa,iq,st,us,gv,qq,ak⟩:=b
 refine jo_ (F:=F52) (fn:=Try.f52) (fd:=73) (a0:=a52x) (a1:=a52y) (a3:=a52z) (rvs:=[.v 3]) (td:=9) (p:=7) (q:=3) (bp:=2) (bq:=1)
  (S1:=⟨upd (upd (fun _=>.no) 3 (.ptr 1 0)) 7 (.ptr 2 0),[.ptr 0 0,.s (.int .i64 f),.s (.int .i64 kind),.s (.int .i64 0),.no],[wB ⟨tm,qu,vo,fa,iq,st,us,gv,qq,ak⟩ (oV []),[.ptr 0 0],[.s (.int .i64 0)]],0⟩)
  Try.func52 hb zp_ (q9_ (F:=F52) (by rfl)) rfl rfl hc0 kL_.1 hc1 kL_.2.1 (fun ds=>by kernel_rfl) (by decide) (by show 3<=120;omega) rfl (fun ds=>by kernel_rfl) ?_ (by decide) (by decide) (by decide) (by decide) (by decide) (by decide) h2 ?_ ?_ ⟨rfl,rfl,by simp,by simp⟩ hc3 kL_.2.2 ?_
 .intro r hr
  have:Try.f52.results.toList=[.tmp 6]:=by kernel_rfl
  rw[this]at hr
  simp at hr
  exact⟨6,hr,by decide⟩
 .intro x y w
  exact enters_of Try.func73 (by kernel_rfl) rfl _ _
 .simp[a52x,a52y,F52,wB,oV]
 .intro ds
  by_cases h4:kind=4
  .subst h4
   by_cases c1:bits .and .i64 vo bit=0
   .have e1:(bits .and .i64 vo bit==0)=true:=by simpa using c1
    have hR:ansR ⟨tm,qu,vo,fa,iq,st,us,gv,qq,ak⟩ bit 4=(0,⟨tm,qu,vo,fa,iq,st,us,gv,qq,ak⟩,0):=by simp[ansR,c1]
    simp only[hR]
    simp[a52z,F52,wB,oV,hf0,es,↓z4_,↓zb_,↓z2_,e1]
    refine⟨by simp[okL],_,rfl,rfl,_,yn_ ⟨tm,qu,vo,fa,iq,st,us,gv,qq,ak⟩ [] 0 (by simp),?_⟩
    rintro r bs2 ⟨rfl,r2,r3,rfl⟩
    exact⟨rfl,1,by omega,by simp,by simp[zV_,wB,oV],rfl,by simp[wB,oV]⟩
   have e1:(bits .and .i64 vo bit==0)=false:=by simpa using c1
   cases us
   case' true =>
    have hR:ansR ⟨tm,qu,vo,fa,iq,st,true,gv,qq,ak⟩ bit 4=(0,⟨tm,qu,vo,fa,iq,st,true,gv,qq,ak⟩,0):=by simp[ansR,c1]
    simp only[hR]
    simp[a52z,F52,wB,oV,hf0,es,↓z4_,↓zb_,↓z2_,e1]
    refine⟨by simp[okL],_,rfl,rfl,_,yn_ ⟨tm,qu,vo,fa,iq,st,true,gv,qq,ak⟩ [] 0 (by simp),?_⟩
    rintro r bs2 ⟨rfl,r2,r3,rfl⟩
    exact⟨rfl,1,by omega,by simp,by simp[zV_,wB,oV],rfl,by simp[wB,oV]⟩
   by_cases c2:fa=0
   .have e2:(fa==0)=true:=by simpa using c2
    have hR:ansR ⟨tm,qu,vo,fa,iq,st,false,gv,qq,ak⟩ bit 4=(0,⟨tm,qu,vo,fa,bits .or .i64 iq bit,st,false,gv,qq,ak⟩,0):=by simp[ansR,c1,c2]
    simp only[hR]
    simp[a52z,F52,wB,oV,hf0,es,↓z4_,↓zb_,↓z2_,e1,e2]
    refine⟨by simp[okL],_,rfl,rfl,_,yn_ ⟨tm,qu,vo,fa,bits .or .i64 iq bit,st,false,gv,qq,ak⟩ [] 0 (by simp),?_⟩
    rintro r bs2 ⟨rfl,r2,r3,rfl⟩
    exact⟨rfl,1,by omega,by simp,by simp[zV_,wB,oV],rfl,by simp[wB,oV]⟩
   .have e2:(fa==0)=false:=by simpa using c2
    have hR:ansR ⟨tm,qu,vo,fa,iq,st,false,gv,qq,ak⟩ bit 4=(0,⟨tm,qu,vo,fa,iq,st,false,gv,qq,ak⟩,bit):=by simp[ansR,c1,c2]
    simp only[hR]
    simp[a52z,F52,wB,oV,hf0,es,↓z4_,↓zb_,↓z2_,e1,e2]
    refine⟨by simp[okL],_,rfl,rfl,_,yn_ ⟨tm,qu,vo,fa,iq,st,false,gv,qq,ak⟩ [] bit (by simp),?_⟩
    rintro r bs2 ⟨rfl,r2,r3,rfl⟩
    exact⟨rfl,1,by omega,by simp,by simp[zV_,wB,oV],rfl,by simp[wB,oV]⟩
  have e4:(kind==4)=false:=by simpa using h4
  by_cases c1:bits .and .i64 qu bit=0
  .have e1:(bits .and .i64 qu bit==0)=true:=by simpa using c1
   have hR:ansR ⟨tm,qu,vo,fa,iq,st,us,gv,qq,ak⟩ bit kind=(14,⟨tm,qu,vo,fa,iq,st,us,gv,qq,ak⟩,0):=by simp[ansR,h4,c1]
   simp only[hR]
   simp[a52z,F52,wB,oV,hf0,es,↓z4_,↓zb_,↓z2_,e4,e1]
   refine⟨by simp[okL],_,rfl,rfl,_,yn_ ⟨tm,qu,vo,fa,iq,st,us,gv,qq,ak⟩ [] 0 (by simp),?_⟩
   rintro r bs2 ⟨rfl,r2,r3,rfl⟩
   exact⟨rfl,1,by omega,by simp,by simp[zV_,wB,oV],rfl,by simp[wB,oV]⟩
  have e1:(bits .and .i64 qu bit==0)=false:=by simpa using c1
  by_cases c2:bits .and .i64 vo bit=0
  case neg =>
   have e2:(bits .and .i64 vo bit != 0)=true:=by simpa using c2
   have hR:ansR ⟨tm,qu,vo,fa,iq,st,us,gv,qq,ak⟩ bit kind=(14,⟨tm,qu,vo,fa,iq,st,us,gv,qq,ak⟩,0):=by simp[ansR,h4,c1,c2]
   simp only[hR]
   simp[a52z,F52,wB,oV,hf0,es,↓z4_,↓zb_,↓z2_,e4,e1,e2]
   refine⟨by simp[okL],_,rfl,rfl,_,yn_ ⟨tm,qu,vo,fa,iq,st,us,gv,qq,ak⟩ [] 0 (by simp),?_⟩
   rintro r bs2 ⟨rfl,r2,r3,rfl⟩
   exact⟨rfl,1,by omega,by simp,by simp[zV_,wB,oV],rfl,by simp[wB,oV]⟩
  have e2:(bits .and .i64 vo bit != 0)=false:=by simpa using c2
  by_cases c3:kind=3
  .have e3:(kind==3)=true:=by simpa using c3
   have hR:ansR ⟨tm,qu,vo,fa,iq,st,us,gv,qq,ak⟩ bit kind=(0,⟨tm,qu,vo,bits .or .i64 fa bit,iq,st,us,gv,qq,ak⟩,iq):=by simp[ansR,h4,c1,c2,c3]
   simp only[hR]
   simp[a52z,F52,wB,oV,hf0,es,↓z4_,↓zb_,↓z2_,e4,e1,e2,e3]
   refine⟨by simp[okL],_,rfl,rfl,_,yn_ ⟨tm,qu,vo,bits .or .i64 fa bit,iq,st,us,gv,qq,ak⟩ [] iq (by simp),?_⟩
   rintro r bs2 ⟨rfl,r2,r3,rfl⟩
   exact⟨rfl,1,by omega,by simp,by simp[zV_,wB,oV],rfl,by simp[wB,oV]⟩
  have e3:(kind==3)=false:=by simpa using c3
  by_cases c4:bits .or .i64 vo bit=qu
  .have e5:(bits .or .i64 vo bit==qu)=true:=by simpa using c4
   have hR:ansR ⟨tm,qu,vo,fa,iq,st,us,gv,qq,ak⟩ bit kind=(0,⟨tm,qu,bits .or .i64 vo bit,bits .andNot .i64 fa bit,0,st,true,gv,qq,ak⟩,0):=by simp[ansR,h4,c1,c2,c3,c4]
   simp only[hR]
   simp[a52z,F52,wB,oV,hf0,es,↓z4_,↓zb_,↓z2_,e4,e1,e2,e3,e5]
   refine⟨by simp[okL],_,rfl,rfl,_,yn_ ⟨tm,qu,bits .or .i64 vo bit,bits .andNot .i64 fa bit,0,st,true,gv,qq,ak⟩ [] 0 (by simp),?_⟩
   rintro r bs2 ⟨rfl,r2,r3,rfl⟩
   exact⟨rfl,1,by omega,by simp,by simp[zV_,wB,oV],rfl,by simp[wB,oV]⟩
  .have e5:(bits .or .i64 vo bit==qu)=false:=by simpa using c4
   have hR:ansR ⟨tm,qu,vo,fa,iq,st,us,gv,qq,ak⟩ bit kind=(0,⟨tm,qu,bits .or .i64 vo bit,bits .andNot .i64 fa bit,iq,st,us,gv,qq,ak⟩,0):=by simp[ansR,h4,c1,c2,c3,c4]
   simp only[hR]
   simp[a52z,F52,wB,oV,hf0,es,↓z4_,↓zb_,↓z2_,e4,e1,e2,e3,e5]
   refine⟨by simp[okL],_,rfl,rfl,_,yn_ ⟨tm,qu,bits .or .i64 vo bit,bits .andNot .i64 fa bit,iq,st,us,gv,qq,ak⟩ [] 0 (by simp),?_⟩
   rintro r bs2 ⟨rfl,r2,r3,rfl⟩
   exact⟨rfl,1,by omega,by simp,by simp[zV_,wB,oV],rfl,by simp[wB,oV]⟩
def Vt.sg(m:Vt):Sg:=⟨m.st,m.ss⟩
noncomputable def zt_(n:Int)(q:List Int)(site from':Int)(m:Vt)(b:Bl):V :=
 if bOk n q site b=false then errR 2 else if vtr n from'=false then errR 1
 else if m.k=1 then
  if prp n m.sg=false\/m.ss≠from' then errR 1 else if askE b m.sg then errR 11 else okR (askS b m.sg) (askM b m.sg)
 else if m.k<1\/6<m.k\/m.st≠0\/m.ss≠0 then errR 1
 else if m.k=5\/m.k=6 then
  if yZ_ b from' then errR 14 else okR (zY_ b (m.k==5)).next (yk_ (zY_ b (m.k==5)).queue)
 else if (ansR b ((2^from'.toNat:Nat):Int) m.k).1≠0 then errR (ansR b ((2^from'.toNat:Nat):Int) m.k).1
 else okR ((ansR b ((2^from'.toNat:Nat):Int) m.k).2.1.gave (ansR b ((2^from'.toNat:Nat):Int) m.k).2.2) (yldO (mbU (ansR b ((2^from'.toNat:Nat):Int) m.k).2.2 9))
theorem qh_(n:Int)(q:List Int)(site from':Int)(m:Vt)(b:Bl):okV (zt_ n q site from' m b)=true/\immT (zt_ n q site from' m b)=true:=by
 unfold zt_
 repeat' split
 all_goals exact⟨rfl,rfl⟩
theorem tB_(b:Bl)(n:Int)(q:List Int)(site from':Int)(m:Vt)(hq:q.length<=1000)(hg:b.given.length<=1000)(hqq:b.queue.length<=1000):PC Try.prog 23 [b.v,cP n q,.s (.int .i64 site),.s (.int .i64 from'),m.v] (fun r=>r=zt_ n q site from' m b):=by
 have hb:b.sm:=⟨by omega,by omega⟩
 have k1:=yV_ b n q site hq hb
 have k2:=v7_ n q from'
 have k5:=s9_ n q m.sg
 have k3:=tw_ b hb
 refine y9_ (q:=fun r=>frT r (zt_ n q site from' m b)) ?_ fun x hx _=>⟨_,hx,(qh_ n q site from' m b).1,rfl⟩
 refine zn_ c23b zp_ rfl ?_
 simp -implicitDefEqProofs [a23b,F23,Bl.v,Bl.cs,cP,Vt.v]
 refine z1_ ?_
 simp
 refine zc_ k1 (by simp[Bl.v,Bl.cs,cP]) (by simp[Bl.v,Bl.cs,cP]) ?_
 rintro _ rfl
 cases h1:bOk n q site b
 case' false =>
  try simp -implicitDefEqProofs
  refine z1_ ?_
  simp
  refine zc_ (y2_ 2) (by simp) (by simp) ?_
  rintro _ rfl
  have hR:zt_ n q site from' m b=errR 2:=by unfold zt_;simp[h1]
  simp[hR,errR,noB,Bl.v,Bl.cs,frT,frAs,frA,frLs,frL,immC]
 have h9:n<=9:=by
  unfold bOk at h1
  simp only[zzg_]at h1
  exact(ta_.1 h1.1.1.1.1.1).n1.2
 simp
 refine z1_ ?_
 simp
 refine zc_ k2 (by simp[cP]) (by simp[cP]) ?_
 rintro _ rfl
 cases h2:vtr n from'
 case' false =>
  try simp -implicitDefEqProofs
  refine z1_ ?_
  simp
  refine zc_ (y2_ 1) (by simp) (by simp) ?_
  rintro _ rfl
  have hR:zt_ n q site from' m b=errR 1:=by unfold zt_;simp[h1,h2]
  simp[hR,errR,noB,Bl.v,Bl.cs,frT,frAs,frA,frLs,frL,immC]
 have hfr:0<=from'/\from'<n:=by simpa[vtr] using h2
 obtain⟨f,rfl⟩:∃f:Nat,from'=f:=⟨from'.toNat,by omega⟩
 have hf9:f<=9:=by omega
 have hK:∀a b c d,(⟨a,b,c,d⟩:Vt).v=.agg [.s (.int .i64 a),.s (.int .i64 b),.s (.int .i64 c),.s (.int .i64 d)]:=fun _ _ _ _=>rfl
 by_cases hk:m.k=1
 case pos =>
  have ek:(m.k==1)=true:=by simpa using hk
  simp[ek]
  refine z1_ ?_
  simp
  refine zc_ k5 (by simp[cP,Sg.v,Vt.sg]) (by simp[cP,Sg.v,Vt.sg]) ?_
  rintro _ rfl
  cases h3:prp n m.sg
  case' false =>
   try simp -implicitDefEqProofs
   refine z1_ ?_
   simp
   refine zc_ (y2_ 1) (by simp) (by simp) ?_
   rintro _ rfl
   have hR:zt_ n q site (f:Int) m b=errR 1:=by unfold zt_;simp[h1,h2,hk,h3]
   simp[hR,errR,noB,Bl.v,Bl.cs,frT,frAs,frA,frLs,frL,immC]
  by_cases h4:m.ss=f
  case neg =>
   have e4:(m.ss != (f:Int))=true:=by simpa using h4
   simp[e4]
   try simp -implicitDefEqProofs
   refine z1_ ?_
   simp
   refine zc_ (y2_ 1) (by simp) (by simp) ?_
   rintro _ rfl
   have hR:zt_ n q site (f:Int) m b=errR 1:=by unfold zt_;simp[h1,h2,hk,h3,h4]
   simp[hR,errR,noB,Bl.v,Bl.cs,frT,frAs,frA,frLs,frL,immC]
  have e4:(m.ss != (f:Int))=false:=by simpa using h4
  simp[e4]
  try simp -implicitDefEqProofs
  refine zy_ ?_
  simp
  refine ye_ (mask:=[]) (sel:=[]) k3 ⟨by simp[ren,renA,renL,fzs,Bl.v,Bl.cs],rfl,rfl,rfl,rfl,rfl,rfl⟩ ?_
  rintro _ _ ⟨rfl,rfl⟩
  simp[aftS,zz_,wB,xA_,Bl.cs,ek]
  refine zy_ ?_
  simp
  refine ye_ (mask:=[]) (sel:=[5]) (iO_ b m.sg hg hqq) ⟨by simp[ren,renA,renL,fzs,Sg.v,Vt.sg],rfl,rfl,rfl,rfl,rfl,rfl⟩ ?_
  rintro r bs hrb
  cases hE:askE b m.sg
  case' true =>
   simp only[hE,if_true]at hrb
   obtain⟨rfl,rfl⟩:=hrb
   simp[aftS,zz_,wB,oV]
   try simp -implicitDefEqProofs
   refine z1_ ?_
   simp
   refine zc_ (y2_ 11) (by simp) (by simp) ?_
   rintro _ rfl
   have hR:zt_ n q site (f:Int) m b=errR 11:=by unfold zt_;simp[h1,h2,hk,h3,h4,hE]
   simp[hR,errR,noB,Bl.v,Bl.cs,frT,frAs,frA,frLs,frL,immC]
  simp only[hE,yyi_,if_false]at hrb
  obtain⟨rfl,G,hG,rfl⟩:=hrb
  rcases hG with rfl|rfl|⟨hn,rfl⟩
  .simp[aftS,zz_,wG,oV]
   have hR:zt_ n q site (f:Int) m b=okR (askS b m.sg) (askM b m.sg):=by unfold zt_;simp[h1,h2,hk,h3,h4,hE]
   refine zx_ 7 8 (by kernel_rfl) ?_ ?_
   .refine zl_ [0,1,2,3,4,5,6,7,8,9,10] ⟨[],[4,5,6],[],[]⟩ (by kernel_rfl) (by kernel_rfl) ?_
    simp[zS_,hR,okR,Bl.v,Bl.cs,frT,frAs,frA,frLs,frL,immC]
   .refine zl_ [0,1,2,3,4,5,6,8,7,9,10] ⟨[],[4,5,6],[],[]⟩ (by kernel_rfl) (by kernel_rfl) ?_
    simp[zS_,hR,okR,Bl.v,Bl.cs,frT,frAs,frA,frLs,frL,immC]
  .simp[aftS,zz_,wG,oV]
   have hR:zt_ n q site (f:Int) m b=okR (askS b m.sg) (askM b m.sg):=by unfold zt_;simp[h1,h2,hk,h3,h4,hE]
   refine zx_ 7 8 (by kernel_rfl) ?_ ?_
   .refine zl_ [0,1,2,3,4,5,6,7,8,9,10] ⟨[],[4,5,6],[],[]⟩ (by kernel_rfl) (by kernel_rfl) ?_
    simp[zS_,hR,okR,Bl.v,Bl.cs,frT,frAs,frA,frLs,frL,immC]
   .refine zl_ [0,1,2,3,4,5,6,8,7,9,10] ⟨[],[4,5,6],[],[]⟩ (by kernel_rfl) (by kernel_rfl) ?_
    simp[zS_,hR,okR,Bl.v,Bl.cs,frT,frAs,frA,frLs,frL,immC]
  .simp[aftS,zz_,wG,oV]
   have hR:zt_ n q site (f:Int) m b=okR (askS b m.sg) (askM b m.sg):=by unfold zt_;simp[h1,h2,hk,h3,h4,hE]
   refine zx_ 7 8 (by kernel_rfl) ?_ ?_
   .refine zl_ [0,1,2,3,4,5,6,7,8,9,10] ⟨[],[4,5,6],[],[]⟩ (by kernel_rfl) (by kernel_rfl) ?_
    simp[zS_,hR,okR,Bl.v,Bl.cs,frT,frAs,frA,frLs,frL,immC,hn]
   .refine zl_ [0,1,2,3,4,5,6,8,7,9,10] ⟨[],[4,5,6],[],[]⟩ (by kernel_rfl) (by kernel_rfl) ?_
    simp[zS_,hR,okR,Bl.v,Bl.cs,frT,frAs,frA,frLs,frL,immC,hn]
 have ek:(m.k==1)=false:=by simpa using hk
 by_cases c1:m.k<1
 case pos =>
  simp[ek,c1]
  try simp -implicitDefEqProofs
  refine z1_ ?_
  simp
  refine zc_ (y2_ 1) (by simp) (by simp) ?_
  rintro _ rfl
  have hR:zt_ n q site (f:Int) m b=errR 1:=by unfold zt_;simp[h1,h2,hk,c1]
  simp[hR,errR,noB,Bl.v,Bl.cs,frT,frAs,frA,frLs,frL,immC]
 by_cases c2:6<m.k
 case pos =>
  simp[ek,c1,c2]
  try simp -implicitDefEqProofs
  refine z1_ ?_
  simp
  refine zc_ (y2_ 1) (by simp) (by simp) ?_
  rintro _ rfl
  have hR:zt_ n q site (f:Int) m b=errR 1:=by unfold zt_;simp[h1,h2,hk,c1,c2]
  simp[hR,errR,noB,Bl.v,Bl.cs,frT,frAs,frA,frLs,frL,immC]
 by_cases c3:m.st=0
 case neg =>
  have e3:(m.st==0)=false:=by simpa using c3
  simp[ek,c1,c2,e3]
  try simp -implicitDefEqProofs
  refine z1_ ?_
  simp
  refine zc_ (y2_ 1) (by simp) (by simp) ?_
  rintro _ rfl
  have hR:zt_ n q site (f:Int) m b=errR 1:=by unfold zt_;simp[h1,h2,hk,c1,c2,c3]
  simp[hR,errR,noB,Bl.v,Bl.cs,frT,frAs,frA,frLs,frL,immC]
 have e3:(m.st==0)=true:=by simpa using c3
 by_cases c4:m.ss=0
 case neg =>
  have e4:(m.ss==0)=false:=by simpa using c4
  simp[ek,c1,c2,e3,e4]
  try simp -implicitDefEqProofs
  refine z1_ ?_
  simp
  refine zc_ (y2_ 1) (by simp) (by simp) ?_
  rintro _ rfl
  have hR:zt_ n q site (f:Int) m b=errR 1:=by unfold zt_;simp[h1,h2,hk,c1,c2,c3,c4]
  simp[hR,errR,noB,Bl.v,Bl.cs,frT,frAs,frA,frLs,frL,immC]
 have e4:(m.ss==0)=true:=by simpa using c4
 simp[ek,c1,c2,e3,e4]
 try simp -implicitDefEqProofs
 refine zy_ ?_
 simp
 refine ye_ (mask:=[]) (sel:=[]) k3 ⟨by simp[ren,renA,renL,fzs,Bl.v,Bl.cs],rfl,rfl,rfl,rfl,rfl,rfl⟩ ?_
 rintro _ _ ⟨rfl,rfl⟩
 by_cases c5:m.k=5
 case pos =>
  have e5:(m.k==5)=true:=by simpa using c5
  simp[aftS,zz_,wB,xA_,Bl.cs,ek,e5]
  refine zy_ ?_
  simp
  refine ye_ (mask:=[]) (sel:=[5]) (nq_ b (f:Int) true hg hqq) ⟨by simp[ren,renA,renL,fzs],rfl,rfl,rfl,rfl,rfl,rfl⟩ ?_
  rintro r bs hrb
  cases hE:yZ_ b f
  case' true =>
   simp only[hE,if_true]at hrb
   obtain⟨rfl,rfl⟩:=hrb
   simp[aftS,zz_,wB,oV]
   try simp -implicitDefEqProofs
   refine z1_ ?_
   simp
   refine zc_ (y2_ 14) (by simp) (by simp) ?_
   rintro _ rfl
   have hR:zt_ n q site (f:Int) m b=errR 14:=by unfold zt_;simp[h1,h2,hk,c1,c2,c3,c4,c5,hE]
   simp[hR,errR,noB,Bl.v,Bl.cs,frT,frAs,frA,frLs,frL,immC]
  simp only[hE,yyi_,if_false]at hrb
  obtain⟨rfl,G,hG,rfl⟩:=hrb
  rcases hG with rfl|rfl|⟨hn,rfl⟩
  .simp[aftS,zz_,wG,oV]
   have hR:zt_ n q site (f:Int) m b=okR (zY_ b true).next (yk_ (zY_ b true).queue):=by unfold zt_;simp[h1,h2,hk,c1,c2,c3,c4,c5,hE]
   refine zx_ 7 8 (by kernel_rfl) ?_ ?_
   .refine zl_ [0,1,2,3,4,5,6,7,8,9,10] ⟨[],[4,5,6],[],[]⟩ (by kernel_rfl) (by kernel_rfl) ?_
    simp[zS_,hR,okR,Bl.v,Bl.cs,frT,frAs,frA,frLs,frL,immC]
   .refine zl_ [0,1,2,3,4,5,6,8,7,9,10] ⟨[],[4,5,6],[],[]⟩ (by kernel_rfl) (by kernel_rfl) ?_
    simp[zS_,hR,okR,Bl.v,Bl.cs,frT,frAs,frA,frLs,frL,immC]
  .simp[aftS,zz_,wG,oV]
   have hR:zt_ n q site (f:Int) m b=okR (zY_ b true).next (yk_ (zY_ b true).queue):=by unfold zt_;simp[h1,h2,hk,c1,c2,c3,c4,c5,hE]
   refine zx_ 7 8 (by kernel_rfl) ?_ ?_
   .refine zl_ [0,1,2,3,4,5,6,7,8,9,10] ⟨[],[4,5,6],[],[]⟩ (by kernel_rfl) (by kernel_rfl) ?_
    simp[zS_,hR,okR,Bl.v,Bl.cs,frT,frAs,frA,frLs,frL,immC]
   .refine zl_ [0,1,2,3,4,5,6,8,7,9,10] ⟨[],[4,5,6],[],[]⟩ (by kernel_rfl) (by kernel_rfl) ?_
    simp[zS_,hR,okR,Bl.v,Bl.cs,frT,frAs,frA,frLs,frL,immC]
  .simp[aftS,zz_,wG,oV]
   have hR:zt_ n q site (f:Int) m b=okR (zY_ b true).next (yk_ (zY_ b true).queue):=by unfold zt_;simp[h1,h2,hk,c1,c2,c3,c4,c5,hE]
   refine zx_ 7 8 (by kernel_rfl) ?_ ?_
   .refine zl_ [0,1,2,3,4,5,6,7,8,9,10] ⟨[],[4,5,6],[],[]⟩ (by kernel_rfl) (by kernel_rfl) ?_
    simp[zS_,hR,okR,Bl.v,Bl.cs,frT,frAs,frA,frLs,frL,immC,hn]
   .refine zl_ [0,1,2,3,4,5,6,8,7,9,10] ⟨[],[4,5,6],[],[]⟩ (by kernel_rfl) (by kernel_rfl) ?_
    simp[zS_,hR,okR,Bl.v,Bl.cs,frT,frAs,frA,frLs,frL,immC,hn]
 have e5:(m.k==5)=false:=by simpa using c5
 by_cases c6:m.k=6
 case pos =>
  have e6:(m.k==6)=true:=by simpa using c6
  simp[aftS,zz_,wB,xA_,Bl.cs,ek,e5,e6]
  refine zy_ ?_
  simp
  refine ye_ (mask:=[]) (sel:=[5]) (nq_ b (f:Int) false hg hqq) ⟨by simp[ren,renA,renL,fzs],rfl,rfl,rfl,rfl,rfl,rfl⟩ ?_
  rintro r bs hrb
  cases hE:yZ_ b f
  case' true =>
   simp only[hE,if_true]at hrb
   obtain⟨rfl,rfl⟩:=hrb
   simp[aftS,zz_,wB,oV]
   try simp -implicitDefEqProofs
   refine z1_ ?_
   simp
   refine zc_ (y2_ 14) (by simp) (by simp) ?_
   rintro _ rfl
   have hR:zt_ n q site (f:Int) m b=errR 14:=by unfold zt_;simp[h1,h2,hk,c1,c2,c3,c4,c6,hE]
   simp[hR,errR,noB,Bl.v,Bl.cs,frT,frAs,frA,frLs,frL,immC]
  simp only[hE,yyi_,if_false]at hrb
  obtain⟨rfl,G,hG,rfl⟩:=hrb
  rcases hG with rfl|rfl|⟨hn,rfl⟩
  .simp[aftS,zz_,wG,oV]
   have hR:zt_ n q site (f:Int) m b=okR (zY_ b false).next (yk_ (zY_ b false).queue):=by unfold zt_;simp[h1,h2,hk,c1,c2,c3,c4,c6,hE]
   refine zx_ 7 8 (by kernel_rfl) ?_ ?_
   .refine zl_ [0,1,2,3,4,5,6,7,8,9,10] ⟨[],[4,5,6],[],[]⟩ (by kernel_rfl) (by kernel_rfl) ?_
    simp[zS_,hR,okR,Bl.v,Bl.cs,frT,frAs,frA,frLs,frL,immC]
   .refine zl_ [0,1,2,3,4,5,6,8,7,9,10] ⟨[],[4,5,6],[],[]⟩ (by kernel_rfl) (by kernel_rfl) ?_
    simp[zS_,hR,okR,Bl.v,Bl.cs,frT,frAs,frA,frLs,frL,immC]
  .simp[aftS,zz_,wG,oV]
   have hR:zt_ n q site (f:Int) m b=okR (zY_ b false).next (yk_ (zY_ b false).queue):=by unfold zt_;simp[h1,h2,hk,c1,c2,c3,c4,c6,hE]
   refine zx_ 7 8 (by kernel_rfl) ?_ ?_
   .refine zl_ [0,1,2,3,4,5,6,7,8,9,10] ⟨[],[4,5,6],[],[]⟩ (by kernel_rfl) (by kernel_rfl) ?_
    simp[zS_,hR,okR,Bl.v,Bl.cs,frT,frAs,frA,frLs,frL,immC]
   .refine zl_ [0,1,2,3,4,5,6,8,7,9,10] ⟨[],[4,5,6],[],[]⟩ (by kernel_rfl) (by kernel_rfl) ?_
    simp[zS_,hR,okR,Bl.v,Bl.cs,frT,frAs,frA,frLs,frL,immC]
  .simp[aftS,zz_,wG,oV]
   have hR:zt_ n q site (f:Int) m b=okR (zY_ b false).next (yk_ (zY_ b false).queue):=by unfold zt_;simp[h1,h2,hk,c1,c2,c3,c4,c6,hE]
   refine zx_ 7 8 (by kernel_rfl) ?_ ?_
   .refine zl_ [0,1,2,3,4,5,6,7,8,9,10] ⟨[],[4,5,6],[],[]⟩ (by kernel_rfl) (by kernel_rfl) ?_
    simp[zS_,hR,okR,Bl.v,Bl.cs,frT,frAs,frA,frLs,frL,immC,hn]
   .refine zl_ [0,1,2,3,4,5,6,8,7,9,10] ⟨[],[4,5,6],[],[]⟩ (by kernel_rfl) (by kernel_rfl) ?_
    simp[zS_,hR,okR,Bl.v,Bl.cs,frT,frAs,frA,frLs,frL,immC,hn]
 have e6:(m.k==6)=false:=by simpa using c6
 simp[aftS,zz_,wB,xA_,Bl.cs,ek,e5,e6]
 refine zy_ ?_
 simp
 refine ye_ (mask:=[]) (sel:=[5]) (nv_ b f m.k hf9) ⟨by simp[ren,renA,renL,fzs],rfl,rfl,rfl,rfl,rfl,rfl⟩ ?_
 rintro r bs hrb
 obtain⟨rfl,rfl⟩:=hrb
 have hft:(f:Int).toNat=f:=by simp
 by_cases hA:(ansR b ((2^f:Nat):Int) m.k).1=0
 case neg =>
  have eA:((ansR b ((2^f:Nat):Int) m.k).1 != 0)=true:=by simpa using hA
  have hR:zt_ n q site (f:Int) m b=errR (ansR b ((2^f:Nat):Int) m.k).1:=by
   unfold zt_
   rw[hft,if_neg (by simp[h1]),if_neg (by simp[h2]),if_neg hk,if_neg (by omega),if_neg (by omega),if_pos hA]
  generalize hans:ansR b ((2^f:Nat):Int) m.k=an at *
  simp[aftS,zz_,wB,oV,eA]
  refine z1_ ?_
  simp
  refine zc_ (y2_ an.1) (by simp) (by simp) ?_
  rintro _ rfl
  simp[hR,errR,noB,Bl.v,Bl.cs,frT,frAs,frA,frLs,frL,immC]
 have hR:zt_ n q site (f:Int) m b=okR ((ansR b ((2^f:Nat):Int) m.k).2.1.gave (ansR b ((2^f:Nat):Int) m.k).2.2) (yldO (mbU (ansR b ((2^f:Nat):Int) m.k).2.2 9)):=by
  unfold zt_
  rw[hft,if_neg (by simp[h1]),if_neg (by simp[h2]),if_neg hk,if_neg (by omega),if_neg (by omega),if_neg (by simpa using hA)]
 generalize hans:ansR b ((2^f:Nat):Int) m.k=an at *
 simp[aftS,zz_,wB,oV,hA]
 refine zx_ 7 8 (by kernel_rfl) ?_ ?_
 .refine zl_ [0,1,2,3,4,5,6,7,8,9,10] ⟨[],[4,5,6],[],[]⟩ (by kernel_rfl) (by kernel_rfl) ?_
  simp[zS_,hR,okR,Bl.v,Bl.cs,frT,frAs,frA,frLs,frL,immC]
 .refine zl_ [0,1,2,3,4,5,6,8,7,9,10] ⟨[],[4,5,6],[],[]⟩ (by kernel_rfl) (by kernel_rfl) ?_
  simp[zS_,hR,okR,Bl.v,Bl.cs,frT,frAs,frA,frLs,frL,immC]
def toSg(x:QP.Sp):Sg:=⟨x.t,x.s⟩
def toBl(b:QP.Bt):Bl:=⟨b.time,b.qu,b.votes,b.fail,b.inqd,toSg b.stamp,b.using',b.given.map toSg,b.queue.map toSg,b.asked⟩
def kdI:QP.Kd->Int
 |.ask=>1|.yes=>2|.fal=>3|.inq=>4|.yld=>5|.rel=>6
def vl_(o:QP.Kd×Nat):Vt:=⟨kdI o.1,o.2,0,0⟩
theorem u8_(a b:QP.Sp):cmpS (toSg a) (toSg b)<0↔a.lt b=true:=by
 obtain⟨at_,as_⟩:=a
 obtain⟨bt,bs⟩:=b
 simp only[cmpS,ordI,toSg,QP.Sp.lt,zzp_]
 by_cases h1:at_<bt
 .simp[h1]
 .by_cases h2:bt<at_
  .have h3:¬at_=bt:=by omega
   simp[h1,h2,h3]
  .have h3:at_=bt:=by omega
   subst h3
   by_cases h4:as_<bs
   .simp[h4]
   .by_cases h5:bs<as_
    .simp[h4,h5]
    .simp[h4,h5]
theorem lq_(x:QP.Sp):∀l:List QP.Sp,insS (l.map toSg) (posQ (toSg x) (l.map toSg)) (toSg x)=(QP.ins x l).map toSg
 |[]=>rfl
 | y :: r => by
   have ih:=lq_ x r
   simp only[List.map_cons,posQ,QP.ins]
   by_cases h:y.lt x=true
   .rw[if_pos ((u8_ y x).2 h),if_pos h]
    simp only[insS,List.take_succ_cons,List.drop_succ_cons,List.cons_append,List.map_cons]at ih ⊢
    rw[ih]
   .rw[if_neg (fun q=>h ((u8_ y x).1 q)),if_neg h]
    rfl
theorem nd_(b:QP.Bt)(x:QP.Sp):(toBl b).enq (toSg x)=toBl { b with queue:=QP.ins x b.queue }:=by
 unfold Bl.enq toBl
 simp only[lq_]
def fstQ(x:Sg)(l:List Sg):Bool:=match l with|[]=>true|q::_=>decide (cmpS x q<0)
theorem nr_(b:Bl)(x g:Sg)(r:List Sg)(hg:b.given=g::r):askS b x=({ b with time:=if b.time<x.t then x.t else b.time,asked:=b.asked||(fstQ x b.queue&&decide (cmpS x g<0)) }:Bl).enq x:=by
 unfold askS fstQ
 rw[hg]<;>cases b.queue<;>rfl
theorem nt_(b:Bl)(x g:Sg)(r:List Sg)(hg:b.given=g::r):askM b x=if (fstQ x b.queue&&decide (cmpS x g<0))=true then (match b.queue with|[]=>[]|q::_=>if cmpS q g<0 then [⟨3,q.s,0,0⟩] else [])++(if b.asked then [] else [⟨4,g.s,0,0⟩]) else [⟨3,x.s,0,0⟩]:=by
 unfold askM fstQ
 rw[hg]<;>cases b.queue<;>rfl
theorem ix_(x:QP.Sp)(l:List QP.Sp):fstQ (toSg x) (l.map toSg)=QP.isFst x l:=by
 cases l with
 |nil=>rfl
 | cons q r =>
   show decide (cmpS (toSg x) (toSg q)<0)=x.lt q
   rw[yyt_,zzp_]
   exact u8_ x q
theorem iN_(b:QP.Bt)(x:QP.Sp):askS (toBl b) (toSg x)=toBl (QP.askV b x).1/\askM (toBl b) (toSg x)=(QP.askV b x).2.map vl_:=by
 obtain⟨tm,qu,vo,fa,iq,st,us,ak,gv,qq⟩:=b
 have hmax:(if (tm:Int)<(x.t:Int) then (x.t:Int) else (tm:Int))=((max tm x.t:Nat):Int):=by
  split<;>omega
 cases gv with
 | nil =>
   refine⟨?_,rfl⟩
   show ({ toBl ⟨tm,qu,vo,fa,iq,st,us,ak,[],qq⟩ with time:=if (tm:Int)<(x.t:Int) then (x.t:Int) else (tm:Int),given:=[toSg x] }:Bl)=_
   rw[hmax]
   rfl
 | cons g gr =>
   have hlt:decide (cmpS (toSg x) (toSg g)<0)=x.lt g:=by
    rw[yyt_,zzp_]
    exact u8_ x g
   have h1:=nr_ (toBl ⟨tm,qu,vo,fa,iq,st,us,ak,g::gr,qq⟩) (toSg x) (toSg g) (gr.map toSg) rfl
   have h2:=nt_ (toBl ⟨tm,qu,vo,fa,iq,st,us,ak,g::gr,qq⟩) (toSg x) (toSg g) (gr.map toSg) rfl
   have hf:fstQ (toSg x) (toBl ⟨tm,qu,vo,fa,iq,st,us,ak,g::gr,qq⟩).queue=QP.isFst x qq:=ix_ x qq
   rw[hf,hlt]at h1 h2
   have hm:(if (toBl ⟨tm,qu,vo,fa,iq,st,us,ak,g::gr,qq⟩).time<(toSg x).t then (toSg x).t else (toBl ⟨tm,qu,vo,fa,iq,st,us,ak,g::gr,qq⟩).time)=((max tm x.t:Nat):Int):=hmax
   rw[hm]at h1
   rw[h1,h2]
   unfold QP.askV
   simp only
   cases hc:(QP.isFst x qq&&x.lt g)
   .refine⟨?_,rfl⟩
    have:=nd_ ⟨max tm x.t,qu,vo,fa,iq,st,us,ak,g::gr,qq⟩ x
    simp only[yyi_,if_false]
    rw[<-this]
    simp[toBl]
   .constructor
    .have:=nd_ ⟨max tm x.t,qu,vo,fa,iq,st,us,true,g::gr,qq⟩ x
     simp only[if_true]
     rw[<-this]
     simp[toBl]
    .simp only[if_true,List.map_append]
     congr 1
     .cases qq with
      |nil=>rfl
      | cons q r =>
        show (if cmpS (toSg q) (toSg g)<0 then _ else _)=(if q.lt g=true then _ else _:QP.Out).map vl_
        by_cases h:q.lt g=true
        .rw[if_pos ((u8_ q g).2 h),if_pos h];rfl
        .rw[if_neg (fun z=>h ((u8_ q g).1 z)),if_neg h];rfl
     .cases ak<;>rfl
theorem np_(b:QP.Bt)(g:QP.Sp)(gr:List QP.Sp)(hg:b.given=g::gr)(again:Bool):(zY_ (toBl b) again).next=toBl (QP.backV b g again).1/\yk_ (zY_ (toBl b) again).queue=(QP.backV b g again).2.map vl_:=by
 obtain⟨tm,qu,vo,fa,iq,st,us,ak,gv,qq⟩:=b
 simp only at hg
 subst hg
 have hb:zY_ (toBl ⟨tm,qu,vo,fa,iq,st,us,ak,g::gr,qq⟩) again=toBl ⟨tm,qu,vo,fa,iq,st,us,ak,g::gr,if again then QP.ins g qq else qq⟩:=by
  cases again
  .rfl
  .exact nd_ ⟨tm,qu,vo,fa,iq,st,us,ak,g::gr,qq⟩ g
 rw[hb]
 unfold QP.backV
 simp only
 generalize (if again=true then QP.ins g qq else qq)=L
 cases L with
 |nil=>exact⟨rfl,rfl⟩
 |cons x r=>exact⟨rfl,rfl⟩
section
structure Sml(n:Nat)(b:QP.Bt):Prop where
 n9:n<=9
 qu:b.qu<2^n
 votes:b.votes<2^n
 fail:b.fail<2^n
 inqd:b.inqd<2^n
theorem p9{n x:Nat}(h:n<=9)(hx:x<2^n):x<512:=zzk_ hx (yyf_ (by omega) h)
theorem wo_z(a:Nat):QP.wo a 0=a:=by simp[QP.wo]
section
variable{n:Nat}{b:QP.Bt}
theorem ro_(h:Sml n b){k:Nat}(hk:k<2^n):(toBl b).gave (k:Int)=toBl (QP.give n b k).1/\yldO (mbU (k:Int) 9)=(QP.give n b k).2.map vl_:=by
 have h1:=p9 h.n9 h.votes
 have h2:=p9 h.n9 h.fail
 have h3:=p9 h.n9 h.inqd
 have h4:=p9 h.n9 hk
 constructor
 .unfold Bl.gave QP.give toBl
  simp only
  rw[yh_ _ _ (by omega) (by omega),y0_ _ _ (by omega) (by omega),yh_ _ _ (by omega) (by omega)]
 .rw[td_ h.n9 hk]
  unfold yldO QP.give
  simp only[List.map_map]
  rfl
theorem ql_(h:Sml n b):(toBl b).gave 0=toBl b/\yldO (mbU 0 9)=[]:=by
 obtain⟨h1,h2⟩:=ro_ h (k:=0) (Nat.pos_of_ne_zero (by simp))
 refine⟨?_,?_⟩
 .have e:(QP.give n b 0).1=b:=by unfold QP.give;simp[wo_z]
  rw[e]at h1
  exact h1
 .have e:(QP.give n b 0).2=[]:=by unfold QP.give;simp[QP.mem]
  rw[e]at h2
  exact h2
theorem qB_{i n:Nat}(h:i<n):2^i<2^n:=Nat.pow_lt_pow_right (by omega) h
theorem wq_{s i:Nat}(hs:s<512)(hi:i<=9):(bits .and .i64 (s:Int) ((2^i:Nat):Int)=0)↔s.testBit i=false:=by
 have h2:2^i<=2^9:=yyf_ (by omega) hi
 rw[yl_ s (2^i) (by omega) (by omega)]
 have:=nw_ s i
 cases e:s.testBit i
 .simp only[iff_true]
  rw[e]at this
  have h3:s&&&2^i=0:=by
   by_cases h0:s&&&2^i=0
   .exact h0
   .exact absurd (this.1 h0) (by simp)
  omega
 .simp only[Bool.true_eq_false,iff_false]
  have:=this.2 e
  omega
theorem io_(h:Sml n b){i:Nat}(hi:i<n):let a:=ansR (toBl b) ((2^i:Nat):Int) 4
 a.1=0/\a.2.1.gave a.2.2=toBl (QP.inqA n b i).1/\yldO (mbU a.2.2 9)=(QP.inqA n b i).2.map vl_:=by
 have hv:=wq_ (p9 h.n9 h.votes) (i:=i) (by have:=h.n9;omega)
 obtain⟨z1,z2⟩:=ql_ h
 have hb:=qB_ hi
 intro a
 have ha:a=ansR (toBl b) ((2^i:Nat):Int) 4:=rfl
 clear_value a
 unfold ansR QP.inqA at *
 rw[if_pos rfl]at ha
 have hvt:(bits .and .i64 (toBl b).votes ((2^i:Nat):Int)=0\/(toBl b).using'=true)↔(b.votes.testBit i=false\/b.using'=true):=or_congr hv Iff.rfl
 by_cases c1:b.votes.testBit i=false\/b.using'=true
 .rw[if_pos (hvt.2 c1)]at ha
  rw[if_pos c1]
  subst ha
  exact⟨rfl,z1,z2⟩
 .rw[if_neg (fun q=>c1 (hvt.1 q))]at ha
  rw[if_neg c1]
  have hft:((toBl b).fail=0)↔b.fail=0:=by show ((b.fail:Int)=0)↔_;omega
  by_cases c2:b.fail=0
  .rw[if_pos (hft.2 c2)]at ha
   rw[if_pos c2]
   subst ha
   have hs:Sml n { b with inqd:=b.inqd|||2^i }:=⟨h.n9,h.qu,h.votes,h.fail,Nat.or_lt_two_pow h.inqd hb⟩
   obtain⟨y1,y2⟩:=ql_ hs
   have e:({ toBl b with inqd:=bits .or .i64 (toBl b).inqd ((2^i:Nat):Int) }:Bl)=toBl { b with inqd:=b.inqd|||2^i }:=by
    have:=p9 h.n9 h.inqd
    have:=p9 h.n9 hb
    unfold toBl
    simp only
    rw[y0_ _ _ (by omega) (by omega)]
   refine⟨rfl,?_,y2⟩
   show Bl.gave _ 0=_
   rw[e]
   exact y1
  .rw[if_neg (fun q=>c2 (hft.1 q))]at ha
   rw[if_neg c2]
   subst ha
   exact⟨rfl,ro_ h hb⟩
theorem iA_(h:Sml n b){i:Nat}(hi:i<n)(hq:b.qu.testBit i=true)(hv:b.votes.testBit i=false):let a:=ansR (toBl b) ((2^i:Nat):Int) 3
 a.1=0/\a.2.1.gave a.2.2=toBl (QP.failA n b i).1/\yldO (mbU a.2.2 9)=(QP.failA n b i).2.map vl_:=by
 have hqt:=wq_ (p9 h.n9 h.qu) (i:=i) (by have:=h.n9;omega)
 have hvt:=wq_ (p9 h.n9 h.votes) (i:=i) (by have:=h.n9;omega)
 have hb:=qB_ hi
 have hs:Sml n { b with fail:=b.fail|||2^i }:=⟨h.n9,h.qu,h.votes,Nat.or_lt_two_pow h.fail hb,h.inqd⟩
 have e:({ toBl b with fail:=bits .or .i64 (toBl b).fail ((2^i:Nat):Int) }:Bl)=toBl { b with fail:=b.fail|||2^i }:=by
  have:=p9 h.n9 h.fail
  have:=p9 h.n9 hb
  unfold toBl
  simp only
  rw[y0_ _ _ (by omega) (by omega)]
 have key:ansR (toBl b) ((2^i:Nat):Int) 3=(0,toBl { b with fail:=b.fail|||2^i },(b.inqd:Int)):=by
  unfold ansR
  rw[if_neg (by omega),if_neg (by
   rintro(q|q)
   .have:=hqt.1 q;rw[hq]at this;cases this
   .exact q (hvt.2 hv)),if_pos rfl,e]
  rfl
 intro a
 show a.1=0/\_
 simp only[a,key]
 exact⟨trivial,ro_ hs h.inqd⟩
theorem jr_(h:Sml n b){i:Nat}(hi:i<n)(hq:b.qu.testBit i=true)(hv:b.votes.testBit i=false):let a:=ansR (toBl b) ((2^i:Nat):Int) 2
 a.1=0/\a.2.1.gave a.2.2=toBl (QP.yesA b i)/\yldO (mbU a.2.2 9)=[]:=by
 have hqt:=wq_ (p9 h.n9 h.qu) (i:=i) (by have:=h.n9;omega)
 have hvt:=wq_ (p9 h.n9 h.votes) (i:=i) (by have:=h.n9;omega)
 have hb:=qB_ hi
 have b1:=p9 h.n9 h.votes
 have b2:=p9 h.n9 h.fail
 have b3:=p9 h.n9 hb
 have hvo:b.votes|||2^i<2^n:=Nat.or_lt_two_pow h.votes hb
 have hfa:QP.wo b.fail (2^i)<2^n:=by
  unfold QP.wo
  exact Nat.xor_lt_two_pow h.fail (Nat.lt_of_le_of_lt Nat.and_le_left h.fail)
 have e1:bits .or .i64 (toBl b).votes ((2^i:Nat):Int)=((b.votes|||2^i:Nat):Int):=y0_ _ _ (by omega) (by omega)
 have e2:bits .andNot .i64 (toBl b).fail ((2^i:Nat):Int)=((QP.wo b.fail (2^i):Nat):Int):=yh_ _ _ (by omega) (by omega)
 have hne:¬(bits .and .i64 (toBl b).qu ((2^i:Nat):Int)=0\/bits .and .i64 (toBl b).votes ((2^i:Nat):Int)≠0):=by
  rintro(q|q)
  .have:=hqt.1 q;rw[hq]at this;cases this
  .exact q (hvt.2 hv)
 by_cases c:b.votes|||2^i=b.qu
 .have hs:Sml n { b with votes:=b.votes|||2^i,fail:=QP.wo b.fail (2^i),using':=true,inqd:=0 }:=⟨h.n9,h.qu,hvo,hfa,Nat.pos_of_ne_zero (by simp)⟩
  have key:ansR (toBl b) ((2^i:Nat):Int) 2=(0,toBl { b with votes:=b.votes|||2^i,fail:=QP.wo b.fail (2^i),using':=true,inqd:=0 },0):=by
   unfold ansR
   rw[if_neg (by omega),if_neg hne,if_neg (by omega),e1,e2,if_pos (by show ((b.votes|||2^i:Nat):Int)=(b.qu:Int);rw[c])]
   rfl
  have ey:QP.yesA b i={ b with votes:=b.votes|||2^i,fail:=QP.wo b.fail (2^i),using':=true,inqd:=0 }:=by unfold QP.yesA;rw[if_pos c]
  intro a
  show a.1=0/\_
  simp only[a,key,ey]
  exact⟨trivial,ql_ hs⟩
 .have hs:Sml n { b with votes:=b.votes|||2^i,fail:=QP.wo b.fail (2^i) }:=⟨h.n9,h.qu,hvo,hfa,h.inqd⟩
  have key:ansR (toBl b) ((2^i:Nat):Int) 2=(0,toBl { b with votes:=b.votes|||2^i,fail:=QP.wo b.fail (2^i) },0):=by
   unfold ansR
   rw[if_neg (by omega),if_neg hne,if_neg (by omega),e1,e2,if_neg (by show ¬((b.votes|||2^i:Nat):Int)=(b.qu:Int);omega)]
   rfl
  have ey:QP.yesA b i={ b with votes:=b.votes|||2^i,fail:=QP.wo b.fail (2^i) }:=by unfold QP.yesA;rw[if_neg c]
  intro a
  show a.1=0/\_
  simp only[a,key,ey]
  exact⟨trivial,ql_ hs⟩
end
end
theorem pP_{a q n:Nat}(h:∀v,a.testBit v=true->q.testBit v=true)(hq:q<2^n):a<2^n:=by
 refine Nat.lt_pow_two_of_testBit a fun i hi=>?_
 cases e:a.testBit i
 .rfl
 .have:=h i e
  rw[Nat.testBit_lt_two_pow (zzk_ hq (yyf_ (by omega) hi))]at this
  cases this
theorem rP_{n:Nat}{Q:List Nat}{i:Nat}{b:QP.Bt}(hm:Md n Q)(h:QP.AOk Q i b):Sml n b:=by
 have hq:b.qu<2^n:=by
  rcases h.qu with e|e
  .rw[e];exact Nat.pos_of_ne_zero (by simp)
  .exact(hm.cot.rng _ e).2
 exact⟨hm.k1.2,hq,pP_ h.vq hq,pP_ h.fq hq,pP_ (fun v hv=>h.vq v (h.iv v hv)) hq⟩
theorem pt_{a b:Nat}(h:∀v,a.testBit v=true->b.testBit v=true):QP.wo a b=0:=by
 refine QP.eq_of_bits fun v=>?_
 rw[QP.wo_bit,Nat.zero_testBit]
 cases e:a.testBit v
 .rfl
 .rw[h v e];rfl
theorem mZ_{a b:Nat}(h:∀v,a.testBit v=true->b.testBit v=false):a&&&b=0:=by
 refine QP.eq_of_bits fun v=>?_
 rw[Nat.testBit_and,Nat.zero_testBit]
 cases e:a.testBit v
 .rfl
 .rw[h v e];rfl
theorem jl_{n:Nat}{Q:List Nat}{i:Nat}{b:QP.Bt}(hm:Md n Q)(h:QP.AOk Q i b):aokB (toBl b)=true:=by
 have hs:=rP_ hm h
 have b1:=p9 hs.n9 hs.qu
 have b2:=p9 hs.n9 hs.votes
 have b3:=p9 hs.n9 hs.fail
 have b4:=p9 hs.n9 hs.inqd
 have o1:b.votes|||b.fail<2^9:=Nat.or_lt_two_pow (by omega) (by omega)
 have o2:b.votes|||b.fail|||b.inqd<2^9:=Nat.or_lt_two_pow o1 (by omega)
 unfold aokB toBl
 simp only
 rw[y0_ _ _ (by omega) (by omega),y0_ _ _ (by omega) (by omega),yh_ _ _ (by omega) (by omega),yl_ _ _ (by omega) (by omega),yh_ _ _ (by omega) (by omega)]
 rw[pt_ (a:=b.votes|||b.fail|||b.inqd) (b:=b.qu) (fun v hv=>by
  rw[Nat.testBit_or,Nat.testBit_or,zzy_,zzy_]at hv
  rcases hv with (hv|hv)|hv
  .exact h.vq v hv
  .exact h.fq v hv
  .exact h.vq v (h.iv v hv)),mZ_ (a:=b.fail) (b:=b.votes) h.fv,pt_ h.iv]
 rfl
theorem iR_{n:Nat}{Q:List Nat}{i:Nat}{b:QP.Bt}(hm:Md n Q)(h:QP.AOk Q i b):aok (zi Q) i (toBl b)=true:=by
 have hB:=jl_ hm h
 unfold aok
 rw[hB]
 by_cases h0:b.qu=0
 .obtain⟨e1,e2⟩:=h.s0 h0
  have hq:(toBl b).qu=0:=by show (b.qu:Int)=0;omega
  rw[if_pos hq]
  simp[toBl,e1,e2,toSg]
 .have hq:¬(toBl b).qu=0:=by show ¬(b.qu:Int)=0;omega
  rw[if_neg hq]
  obtain⟨e1,e2,e3⟩:=h.s1 h0
  have hmem:(toBl b).qu∈zi Q:=by
   rcases h.qu with e|e
   .exact absurd e h0
   .exact List.mem_map.2 ⟨b.qu,e,rfl⟩
  have hus:b.using'=(((b.votes:Int))==((b.qu:Int))):=by
   rw[yyt_,h.us,beq_iff_eq]
   constructor
   .rintro⟨_,e⟩;rw[e]
   .intro e;exact⟨h0,by omega⟩
  have hui:(!b.using'||((b.inqd:Int)==0))=true:=by
   cases e:b.using'
   .rfl
   .rw[h.ui e];rfl
  simp only[zzg_,zzp_]
  refine⟨⟨⟨⟨⟨⟨hmem,trivial⟩,?_⟩,?_⟩,?_⟩,?_⟩,hui⟩
  .simp[toBl,toSg,e1]
  .show (1:Int)<=(b.stamp.t:Int);omega
  .show (b.stamp.t:Int)<=(b.time:Int);omega
  .show (b.using'==((b.votes:Int)==(b.qu:Int)))=true
   rw[<-hus]
   simp
theorem lb_{n:Nat}(hn:n<=9):∀(L:List QP.Sp) (z:Nat),z<512->(∀x∈L,x.s<n/\x.t<=1073741824)->QP.Ds L->(∀x∈L,z.testBit x.s=false)->(sck n z (L.map toSg)).isSome=true
 |[],z,_,_,_,_=>rfl
 | x :: r, z, hz, hr, hd, hb => by
   obtain⟨h1,h2⟩:=hr x (by simp)
   obtain⟨d1,d2⟩:=List.pairwise_cons.1 hd
   have h3:(2:Nat)^x.s<512:=p9 hn (qB_ h1)
   have hp:prp n (toSg x)=true:=by simp[prp,vtr,toSg];omega
   have hsb:sb (toSg x)=((2^x.s:Nat):Int):=by simp[sb,toSg]
   have ha:=(wq_ hz (i:=x.s) (by omega)).2 (hb x (by simp))
   have ho:z|||2^x.s<2^9:=Nat.or_lt_two_pow (by omega) (by omega)
   simp only[List.map_cons,sck]
   rw[hp,hsb,ha,y0_ _ _ (by omega) (by omega)]
   simp only[bne_self_eq_false,Bool.not_false,Bool.and_self,if_true]
   refine lb_ hn r _ (by omega) (fun y hy=>hr y (by simp[hy])) d2 fun y hy=>?_
   rw[Nat.testBit_or,hb y (by simp[hy]),QP.pow_bit,Bool.false_or]
   simpa using d1 y hy
theorem lJ_:∀(L:List QP.Sp),QP.Asc L->ascS (L.map toSg)=true
 |[],_=>rfl
 |[a],_=>rfl
 | a :: b :: r, h => by
   obtain⟨h1,h2⟩:=List.pairwise_cons.1 h
   have:=lJ_ (b::r) h2
   simp only[List.map_cons]at this ⊢
   unfold ascS
   rw[this,Bool.and_true,zzp_]
   exact(u8_ a b).2 (h1 b (by simp))
theorem jB_{n T:Nat}{b:QP.Bt}(hn:n<=9)(hT:T<=1073741824)(h:QP.VOk n T b):vok n (toBl b)=true:=by
 have h1:(sck n 0 ((toBl b).given++(toBl b).queue)).isSome=true:=by
  have:=lb_ hn (b.given++b.queue) 0 (by omega) (fun x hx=>⟨(h.rng x hx).1,by have:=(h.rng x hx).2;omega⟩) h.ds (fun x _=>by simp)
  rw[List.map_append]at this
  exact this
 have h2:ascS (toBl b).queue=true:=lJ_ _ h.asc
 unfold vok
 rw[h1,h2]
 have g1:(toBl b).given.length<=1:=by simpa[toBl] using h.g1
 have g2:((toBl b).given.isEmpty&&!(toBl b).queue.isEmpty)=false:=by
  cases e:b.given with
  |nil=>have:=h.gq e;simp[toBl,e,this]
  |cons x r=>simp[toBl,e]
 have g3:((toBl b).asked&&(toBl b).queue.isEmpty)=false:=by
  cases e:b.asked
  .simp[toBl,e]
  .have:=h.aq e
   simp[toBl,e,this]
 rw[g2,g3]
 simp[g1]
theorem uQ_{n:Nat}{Q:List Nat}{i T:Nat}{b:QP.Bt}(hm:Md n Q)(hi:i<n)(hT:T<=1073741824)(ha:QP.AOk Q i b)(hv:QP.VOk n T b):bOk n (zi Q) i (toBl b)=true:=by
 unfold bOk
 rw[hm.ok,iR_ hm ha,jB_ hm.k1.2 hT hv]
 have h1:vtr (n:Int) (i:Int)=true:=by simp[vtr];omega
 have h2:(0:Int)<=(toBl b).time:=Int.natCast_nonneg _
 have h3:(toBl b).time<=1073741824:=by have:=hv.tm;show ((b.time:Nat):Int)<=_;omega
 simp[h1,h2,h3]
def xb(x:Int)(i:Nat):Bool:=(BitVec.ofInt 64 x).getLsbD i
theorem iZ_{x:Int}{i:Nat}(h:xb x i=true):i<64:=BitVec.lt_of_getLsbD h
theorem js_(b:BitVec 64):IntKind.i64.wrap (b.toNat:Int)=0↔∀i,b.getLsbD i=false:=by
 have hb:=b.isLt
 have e:IntKind.i64.wrap (b.toNat:Int)=0↔b.toNat=0:=by
  rw[yye_];omega
 rw[e]
 constructor
 .intro h i
  rw[BitVec.getLsbD,h,Nat.zero_testBit]
 .intro h
  refine Nat.eq_of_testBit_eq fun i=>?_
  rw[Nat.zero_testBit]
  exact h i
theorem nx_(x y:Int):bits .andNot .i64 x y=0↔∀i,xb x i=true->xb y i=true:=by
 show IntKind.i64.wrap ((BitVec.ofInt 64 x&&&~~~BitVec.ofInt 64 y).toNat:Int)=0↔_
 rw[js_]
 refine forall_congr' fun i=>?_
 rw[BitVec.getLsbD_and,BitVec.getLsbD_not]
 constructor
 .intro h hx
  have h64:=iZ_ hx
  unfold xb at hx ⊢
  rw[hx]at h
  simpa[h64] using h
 .intro h
  cases hx:(BitVec.ofInt 64 x).getLsbD i with
  |false=>rfl
  | true =>
    have hy:(BitVec.ofInt 64 y).getLsbD i=true:=h hx
    rw[hy];simp
theorem and0(x y:Int):bits .and .i64 x y=0↔∀i,xb x i=true->xb y i=false:=by
 show IntKind.i64.wrap ((BitVec.ofInt 64 x&&&BitVec.ofInt 64 y).toNat:Int)=0↔_
 rw[js_]
 refine forall_congr' fun i=>?_
 rw[BitVec.getLsbD_and]
 show (xb x i&&xb y i)=false↔_
 cases xb x i<;>simp
theorem hq_(x y:Int)(i:Nat):xb (bits .or .i64 x y) i=(xb x i||xb y i):=by
 have e:BitVec.ofInt 64 (bits .or .i64 x y)=BitVec.ofInt 64 x|||BitVec.ofInt 64 y:=by
  show BitVec.ofInt 64 (IntKind.i64.wrap ((BitVec.ofInt 64 x|||BitVec.ofInt 64 y).toNat:Int))=_
  generalize BitVec.ofInt 64 x|||BitVec.ofInt 64 y=b
  have hb:=b.isLt
  apply BitVec.eq_of_toNat_eq
  rw[BitVec.toNat_ofInt,yye_]
  omega
 unfold xb
 rw[e,BitVec.getLsbD_or]
theorem qc_{x:Int}(h:-9223372036854775808<=x/\x<9223372036854775808):x<0↔xb x 63=true:=by
 unfold xb
 rw[BitVec.getLsbD,BitVec.toNat_ofInt,Nat.testBit_eq_decide_div_mod_eq]
 simp only[zzp_]
 omega
def i64(x:Int):Prop:=-9223372036854775808<=x/\x<9223372036854775808
def r2B(b:Bl):Bool:=!decide (b.votes<0)&&!decide (b.fail<0)&&!decide (b.inqd<0)&&!(bits .andNot .i64 b.votes b.qu != 0)&&!(bits .andNot .i64 b.fail b.qu != 0)&&!(bits .and .i64 b.fail b.votes != 0)&&!(bits .andNot .i64 b.inqd b.votes != 0)
theorem ko_{b:Bl}(h1:i64 b.votes)(h2:i64 b.fail)(h3:i64 b.inqd)(hq:0<=b.qu/\b.qu<512):r2B b=aokB b:=by
 have h63:xb b.qu 63=false:=by
  cases e:xb b.qu 63 with
  |false=>rfl
  |true=>have:=(qc_ (x:=b.qu) (by omega)).2 e;omega
 have n1:=qc_ h1
 have n2:=qc_ h2
 have n3:=qc_ h3
 rw[yyt_]
 unfold r2B aokB
 simp only[zzg_,yyh_,decide_eq_false_iff_not,bne_eq_false_iff_eq,nx_,and0,hq_,zzy_]
 constructor
 .rintro⟨⟨⟨⟨⟨⟨_,_⟩,_⟩,a⟩,c⟩,d⟩,e⟩
  exact⟨⟨fun i h=>h.elim (fun h=>h.elim (a i) (c i)) (fun h=>a i (e i h)),d⟩,e⟩
 .rintro⟨⟨a,d⟩,e⟩
  have a1:∀i,xb b.votes i=true->xb b.qu i=true:=fun i h=>a i (.inl (.inl h))
  have a2:∀i,xb b.fail i=true->xb b.qu i=true:=fun i h=>a i (.inl (.inr h))
  refine⟨⟨⟨⟨⟨⟨fun h=>?_,fun h=>?_⟩,fun h=>?_⟩,a1⟩,a2⟩,d⟩,e⟩
  .have:=a1 63 (n1.1 h);rw[h63]at this;cases this
  .have:=a2 63 (n2.1 h);rw[h63]at this;cases this
  .have:=a1 63 (e 63 (n3.1 h));rw[h63]at this;cases this
theorem pX_{n:Int}(hn:n<=9):∀(L:List Sg) (z:Nat),z<512->((sck n z L).isSome=true↔(∀x∈L,prp n x=true)/\L.Pairwise (fun x y=>x.s≠y.s)/\∀x∈L,z.testBit x.s.toNat=false)
 |[],z,_=>by simp[sck]
 | x :: r, z, hz => by
   simp only[sck]
   cases hp:prp n x with
   |false=>simp[hp]
   | true =>
     have hr:0<=x.s/\x.s<9:=by
      unfold prp vtr at hp
      simp only[zzg_,zzp_]at hp
      omega
     have hl:x.s.toNat<9:=by omega
     have h3:(2:Nat)^x.s.toNat<512:=zzk_ (Nat.pow_lt_pow_right (by omega) hl) (by decide)
     have ho:z|||2^x.s.toNat<2^9:=Nat.or_lt_two_pow (by omega) (by omega)
     have ha:=wq_ hz (i:=x.s.toNat) (by omega)
     have hsb:sb x=((2^x.s.toNat:Nat):Int):=rfl
     rw[hsb,y0_ _ _ (by omega) (by omega)]
     cases hb:z.testBit x.s.toNat with
     | true =>
       have:¬bits .and .i64 (z:Int) ((2^x.s.toNat:Nat):Int)=0:=fun e=>by rw[ha.1 e]at hb;cases hb
       have e:(bits .and .i64 (z:Int) ((2^x.s.toNat:Nat):Int) != 0)=true:=by simpa using this
       rw[e]
       simp[hb]
     | false =>
       rw[ha.2 hb]
       simp only[bne_self_eq_false,Bool.not_false,Bool.and_self,if_true]
       rw[pX_ hn r _ (by omega)]
       simp only[List.mem_cons,forall_eq_or_imp,hp,true_and,List.pairwise_cons,hb]
       constructor
       .rintro⟨a,b,c⟩
        refine⟨a,⟨fun y hy e=>?_,b⟩,fun y hy=>?_⟩
        .have:=c y hy
         rw[Nat.testBit_or,QP.pow_bit,e]at this
         simp at this
        .have:=c y hy
         rw[Nat.testBit_or,Bool.or_eq_false_iff]at this
         exact this.1
       .rintro⟨a,⟨b1,b⟩,c⟩
        refine⟨a,b,fun y hy=>?_⟩
        rw[Nat.testBit_or,c y hy,QP.pow_bit,Bool.false_or,decide_eq_false_iff_not]
        intro e
        have hy2:0<=y.s:=by
         have:=a y hy
         unfold prp vtr at this
         simp only[zzg_,zzp_]at this
         omega
        exact b1 y hy (by omega)
def a20t:ACode :=
 (.seq (.reg 9 [] [
 qN 178 (qf 8 3),
 qN 179 (ql 1 178),
 qN 180 (.app 36 2 16 (.c (.slice none 0 0)) (T 179)),
 qN 181 (qf 9 3),
 qN 182 (ql 1 181),
 qN 183 (.app 36 2 16 (T 180) (T 182)),
 qV 8 (T 183)] (some [[],[0],[1],[],[3],[2,4,2],[5,5,0,1,2,3,4,5]]) ⟨[3],[],[],[]⟩)
 (.seq (.seq (qR 10 [.freeze (.var 8)] [
 qN 184 (qm 8),
 qN 185 (.len (T 184)),
 qN 186 (.mv (qI 0))])
 (.block 1
 (.loop
 (.seq (qP 11 [
 qN 187 (qb .lss 186 185)])
 (.seq (.cond (T 187)
 .skip
 (.exit 1))
 (.seq (.block 2
 (.seq (qP 12 [
 qN 188 (qt 186),
 qN 189 (.ia 2 (T 184) (T 186)),
 qN 190 (qL 2 189),
 qN 9 (.allo [(.int .i64 0),(.int .i64 0)]),
 qV 9 (T 188),
 qS 2 (T 9) (T 190)])
 (.seq (.seq (qP 13 [
 qN 191 (qL 2 4),
 qN 192 (qL 2 9),
 qN 193 (.call 46 [(T 191),(T 192)]),
 qN 194 (.un .not (T 193))])
 (.cond (T 194)
 (.seq (qP 14 [
 qV 3 (.c (.bool false))])
 .ret)
 .skip))
 (.seq (qP 15 [
 qN 195 (qm 8),
 qN 196 (qm 9),
 qN 197 (.sl 36 2 (T 195) none (some (T 196)) none),
 qN 198 (.len (T 197)),
 qN 199 (.mv (qI 0))])
 (.block 3
 (.loop
 (.seq (qP 16 [
 qN 200 (qb .lss 199 198)])
 (.seq (.cond (T 200)
 .skip
 (.exit 3))
 (.seq (.block 4
 (.seq (qP 17 [
 qN 201 (.ia 2 (T 197) (T 199)),
 qN 202 (qL 2 201),
 qN 11 (.allo [(.int .i64 0),(.int .i64 0)]),
 qS 2 (T 11) (T 202)])
 (.seq (qP 18 [
 qN 203 (qf 1 11),
 qN 204 (ql 1 203),
 qN 205 (qf 1 9),
 qN 206 (ql 1 205),
 qN 207 (qb .eql 204 206)])
 (.cond (T 207)
 (.seq (qP 19 [
 qV 3 (.c (.bool false))])
 .ret)
 .skip))))
 (qP 20 [
 qN 208 (qi .add 199 1),
 qN 199 (qt 208)]))))))))))
 (qP 21 [
 qN 209 (qi .add 186 1),
 qN 186 (qt 209)])))))))
 (.seq (.seq (qP 22 [
 qV 10 (qI 1)])
 (.block 5
 (.loop
 (.seq (.seq (qP 23 [
 qN 210 (qm 10),
 qN 211 (qf 9 3),
 qN 212 (ql 1 211),
 qN 213 (.len (T 212)),
 qN 214 (qb .lss 210 213)])
 (.cond (T 214)
 .skip
 (.exit 5)))
 (.seq (.block 6
 (.seq (.reg 25 [] [
 qN 217 (qf 9 3),
 qN 218 (ql 1 217),
 qN 219 (qm 10),
 qN 220 (qi .sub 219 1),
 qN 221 (.ia 2 (T 218) (T 220)),
 qN 222 (qL 2 221),
 qN 223 (qf 9 3),
 qN 224 (ql 1 223),
 qN 225 (qm 10),
 qN 226 (.ia 2 (T 224) (T 225)),
 qN 227 (qL 2 226),
 qN 228 (.call 47 [(T 222),(T 227)]),
 qN 229 (qi .geq 228 0)] (some [[],[0],[],[2],[1,3],[4],[],[6],[],[7,8],[9],[5,10],[11]]) ⟨[3],[],[],[]⟩)
 (.cond (T 229)
 (.seq (qP 26 [
 qV 3 (.c (.bool false))])
 .ret)
 .skip)))
 (qP 24 [
 qN 215 (qm 10),
 qN 216 (qi .add 215 1),
 qV 10 (T 216)]))))))
 (.seq (qP 27 [
 qV 3 (.c (.bool true))])
 .ret))))
def a20b:ACode :=
 (.seq (qP 0 [
 qN 3 (.box 11 (.v 0)),
 qN 4 (.box 2 (.v 1)),
 qV 3 (.c (.bool false))])
 (.seq (.block 0
 (.seq (qP 1 [
 qN 14 (qL 2 4),
 qN 15 (.call 44 [(T 14)]),
 qN 16 (.un .not (T 15)),
 qN 17 (qt 16),
 qG 18 17 false (qL 2 4),
 qG 19 17 false (qm 2),
 qG 20 17 false (.call 45 [(T 18),(T 19)]),
 qG 21 17 false (.un .not (T 20)),
 qN 22 (qo 17 21),
 qN 23 (qt 22),
 qG 24 23 false (qf 0 3),
 qG 25 23 false (ql 1 24),
 qG 26 23 false (qi .lss 25 0),
 qN 27 (qo 23 26),
 qN 28 (qt 27),
 qG 29 28 false (qf 0 3),
 qG 30 28 false (ql 1 29),
 qG 31 28 false (qi .gtr 30 1073741824),
 qN 32 (qo 28 31),
 qN 33 (qt 32),
 qG 34 33 false (qf 1 3),
 qG 35 33 false (ql 1 34),
 qG 36 33 false (qi .neq 35 0),
 qG 37 33 false (qt 36),
 qG 38 37 true (qL 2 4),
 qG 39 37 true (qf 1 3),
 qG 40 37 true (ql 1 39),
 qG 41 37 true (.call 36 [(T 38),(T 40)]),
 qG 42 37 true (.un .not (T 41)),
 qG 43 33 false (qa 37 42),
 qN 44 (qo 33 43),
 qV 4 (T 44)])
 (.cond (.v 4)
 (.seq (qP 2 [
 qV 3 (.c (.bool false))])
 .ret)
 (.seq (qP 3 [
 qN 46 (qf 2 3),
 qN 47 (ql 1 46),
 qN 48 (qi .lss 47 0),
 qN 49 (qt 48),
 qG 50 49 false (qf 3 3),
 qG 51 49 false (ql 1 50),
 qG 52 49 false (qi .lss 51 0),
 qN 53 (qo 49 52),
 qN 54 (qt 53),
 qG 55 54 false (qf 4 3),
 qG 56 54 false (ql 1 55),
 qG 57 54 false (qi .lss 56 0),
 qN 58 (qo 54 57),
 qN 59 (qt 58),
 qG 60 59 false (qf 2 3),
 qG 61 59 false (ql 1 60),
 qG 62 59 false (qf 1 3),
 qG 63 59 false (ql 1 62),
 qG 64 59 false (qb .andNot 61 63),
 qG 65 59 false (qi .neq 64 0),
 qN 66 (qo 59 65),
 qN 67 (qt 66),
 qG 68 67 false (qf 3 3),
 qG 69 67 false (ql 1 68),
 qG 70 67 false (qf 1 3),
 qG 71 67 false (ql 1 70),
 qG 72 67 false (qb .andNot 69 71),
 qG 73 67 false (qi .neq 72 0),
 qN 74 (qo 67 73),
 qN 75 (qt 74),
 qG 76 75 false (qf 3 3),
 qG 77 75 false (ql 1 76),
 qG 78 75 false (qf 2 3),
 qG 79 75 false (ql 1 78),
 qG 80 75 false (qb .and 77 79),
 qG 81 75 false (qi .neq 80 0),
 qN 82 (qo 75 81),
 qN 83 (qt 82),
 qG 84 83 false (qf 4 3),
 qG 85 83 false (ql 1 84),
 qG 86 83 false (qf 2 3),
 qG 87 83 false (ql 1 86),
 qG 88 83 false (qb .andNot 85 87),
 qG 89 83 false (qi .neq 88 0),
 qN 90 (qo 83 89),
 qV 5 (T 90)])
 (.cond (.v 5)
 (.seq (qP 4 [
 qV 3 (.c (.bool false))])
 .ret)
 (.seq (qP 5 [
 qN 92 (qf 1 3),
 qN 93 (ql 1 92),
 qN 94 (qi .eql 93 0),
 qN 95 (qt 94),
 qG 96 95 true (qf 5 3),
 qG 97 95 true (qL 2 96),
 qG 98 95 true (.bld [(.int .i64 0),(.int .i64 0)] []),
 qG 99 95 true (.ex (.eqA true [.int,.int]) (T 97) (T 98)),
 qN 100 (qa 95 99),
 qN 101 (qt 100),
 qG 102 101 false (qf 1 3),
 qG 103 101 false (ql 1 102),
 qG 104 101 false (qi .neq 103 0),
 qG 105 101 false (qt 104),
 qG 106 105 true (qf 5 3),
 qG 107 105 true (qf 1 106),
 qG 108 105 true (ql 1 107),
 qG 109 105 true (qm 2),
 qG 110 105 true (qb .neq 108 109),
 qG 111 105 true (qt 110),
 qG 112 111 false (qf 5 3),
 qG 113 111 false (qf 0 112),
 qG 114 111 false (ql 1 113),
 qG 115 111 false (qi .lss 114 1),
 qG 116 105 true (qo 111 115),
 qG 117 105 true (qt 116),
 qG 118 117 false (qf 5 3),
 qG 119 117 false (qf 0 118),
 qG 120 117 false (ql 1 119),
 qG 121 117 false (qf 0 3),
 qG 122 117 false (ql 1 121),
 qG 123 117 false (qb .gtr 120 122),
 qG 124 105 true (qo 117 123),
 qG 125 101 false (qa 105 124),
 qN 126 (qo 101 125),
 qV 6 (T 126)])
 (.cond (.v 6)
 (.seq (qP 6 [
 qV 3 (.c (.bool false))])
 .ret)
 (.seq (qP 7 [
 qN 128 (qf 7 3),
 qN 129 (ql 1 128),
 qN 130 (qf 1 3),
 qN 131 (ql 1 130),
 qN 132 (qi .neq 131 0),
 qN 133 (qt 132),
 qG 134 133 true (qf 2 3),
 qG 135 133 true (ql 1 134),
 qG 136 133 true (qf 1 3),
 qG 137 133 true (ql 1 136),
 qG 138 133 true (qb .eql 135 137),
 qN 139 (qa 133 138),
 qN 140 (.bib .neq (T 129) (T 139)),
 qN 141 (qt 140),
 qG 142 141 false (qf 7 3),
 qG 143 141 false (ql 1 142),
 qG 144 141 false (qt 143),
 qG 145 144 true (qf 4 3),
 qG 146 144 true (ql 1 145),
 qG 147 144 true (qi .neq 146 0),
 qG 148 141 false (qa 144 147),
 qN 149 (qo 141 148),
 qN 150 (qt 149),
 qG 151 150 false (qf 8 3),
 qG 152 150 false (ql 1 151),
 qG 153 150 false (.len (T 152)),
 qG 154 150 false (qi .gtr 153 1),
 qN 155 (qo 150 154),
 qN 156 (qt 155),
 qG 157 156 false (qf 8 3),
 qG 158 156 false (ql 1 157),
 qG 159 156 false (.len (T 158)),
 qG 160 156 false (qi .eql 159 0),
 qG 161 156 false (qt 160),
 qG 162 161 true (qf 9 3),
 qG 163 161 true (ql 1 162),
 qG 164 161 true (.len (T 163)),
 qG 165 161 true (qi .gtr 164 0),
 qG 166 156 false (qa 161 165),
 qN 167 (qo 156 166),
 qN 168 (qt 167),
 qG 169 168 false (qf 10 3),
 qG 170 168 false (ql 1 169),
 qG 171 168 false (qt 170),
 qG 172 171 true (qf 9 3),
 qG 173 171 true (ql 1 172),
 qG 174 171 true (.len (T 173)),
 qG 175 171 true (qi .eql 174 0),
 qG 176 168 false (qa 171 175),
 qN 177 (qo 168 176),
 qV 7 (T 177)])
 (.cond (.v 7)
 (.seq (qP 8 [
 qV 3 (.c (.bool false))])
 .ret)
 .skip)))))))))
 a20t))
theorem c20b:ze_ Try.prog 20 F20=some (3,zh_ a20b,[.v 3])/\z9_ a20b=true:=⟨by kernel_rfl,by kernel_rfl⟩
structure MidR(b:Bl)(n:Int)(q:List Int)(site:Int)(S:St):Prop where
 t3:S.tm 3=.ptr 0 0
 t4:S.tm 4=.ptr 1 0
 vs:S.vs=[b.v,cP n q,.s (.int .i64 site),.s (.bool false),.s (.bool false),.s (.bool false),.s (.bool false),.s (.bool false),.no,.no,.no]
 bx:S.bx=[b.cs,vC n q]
def dsP(n:Int)(L:List Sg)(i:Nat):Prop:=∀(a:Nat) (h:a<L.length),a<i->prp n L[a]=true/\∀(c:Nat) (hc:c<L.length),c<a->L[c].s≠L[a].s
theorem lC_{n:Int}(hn:n<=9){L:List Sg}:(sck n 0 L).isSome=true↔dsP n L L.length:=by
 have h0:=pX_ hn L 0 (by omega)
 rw[show ((0:Nat):Int)=0 from rfl]at h0
 rw[h0]
 constructor
 .rintro⟨h1,h2,_⟩ a ha _
  refine⟨h1 _ (yyp_ ha),fun c hc hca=>?_⟩
  exact List.pairwise_iff_getElem.1 h2 c a hc ha hca
 .intro h
  refine⟨fun x hx=>?_,List.pairwise_iff_getElem.2 fun c a hc ha hca=>(h a ha ha).2 c hc hca,fun x _=>by simp⟩
  obtain⟨a,ha,rfl⟩:=List.getElem_of_mem hx
  exact(h a ha ha).1
theorem hu_{n:Int}(hn:n<=9){L:List Sg}(h:¬dsP n L L.length):(sck n 0 L).isSome=false:=by
 cases e:(sck n 0 L).isSome with
 |false=>rfl
 |true=>exact absurd ((lC_ hn).1 e) h
def rvO(b:Bl)(n:Int)(q:List Int)(site:Int)(L:List Sg)(m:Nat)(S:St):Prop:=∃(i:Nat),i+m=L.length/\dsP n L i /\
 S=⟨tmL [(3,.ptr 0 0),(4,.ptr 1 0),(184,.list 2 (sl L)),(185,.s (.int .i64 L.length)),(186,.s (.int .i64 i))],[b.v,cP n q,.s (.int .i64 site),.s (.bool false),.s (.bool false),.s (.bool false),.s (.bool false),.s (.bool false),.own false 36 2 (sl L),.no,.no],[b.cs,vC n q],0⟩
def rvI(b:Bl)(n:Int)(q:List Int)(site:Int)(L:List Sg)(i:Nat)(x:Sg)(m:Nat)(S:St):Prop:=∃(j:Nat),j+m=i/\(∀(c:Nat) (hc:c<L.length),c<j->L[c].s≠x.s) /\
 S=⟨tmL [(3,.ptr 0 0),(4,.ptr 1 0),(184,.list 2 (sl L)),(185,.s (.int .i64 L.length)),(186,.s (.int .i64 i)),(9,.ptr 2 0),(197,.list 2 (sl (L.take i))),(198,.s (.int .i64 i)),(199,.s (.int .i64 j))],[b.v,cP n q,.s (.int .i64 site),.s (.bool false),.s (.bool false),.s (.bool false),.s (.bool false),.s (.bool false),.own false 36 2 (sl L),.no,.no],[b.cs,vC n q,[.s (.int .i64 x.t),.s (.int .i64 x.s)]],0⟩
def rvA(b:Bl)(n:Int)(q:List Int)(site:Int)(m:Nat)(S:St):Prop:=∃(i:Nat),i+m=b.queue.length+1/\1<=i/\(∀(j:Nat) (h:j+1<b.queue.length),j+1<i->cmpS b.queue[j] b.queue[j+1]<0) /\
 S=⟨tmL [(3,.ptr 0 0)],[b.v,cP n q,.s (.int .i64 site),.s (.bool false),.no,.no,.no,.no,.no,.no,.s (.int .i64 i)],[b.cs,vC n q],0⟩
theorem xw_{b:Bl}{n:Int}{q:List Int}{site:Int}(hb:b.sm)(hn:n<=9)(hV:vok n b=((sck n 0 (b.given++b.queue)).isSome&&ascS b.queue))(hR0:bOk n q site b=vok n b)(S:St)(hS:MidR b n q site S) :
 W Try.prog F20 0 a20t S (endP [RV.v 3] fun r=>r=.s (.bool (bOk n q site b))):=by
 obtain⟨tm,vs,bx,ep⟩:=S
 obtain⟨t3,t4,rfl,rfl⟩:=hS
 simp only at t3 t4
 have hg:=hb.1
 have hqu:=hb.2
 obtain⟨L,hL⟩:∃L,b.given++b.queue=L:=⟨_,rfl⟩
 have hLl:L.length=b.given.length+b.queue.length:=by rw[<-hL,zzr_]
 have hsl:sl b.given++sl b.queue=sl L:=by rw[<-hL];simp[sl]
 rw[hL]at hV
 have b1:b.given.length<=maxLen/\b.given.length*16<=z5_:=by simp[maxLen,z5_];omega
 have b2:b.given.length+b.queue.length<=maxLen/\(b.given.length+b.queue.length)*16<=z5_:=by simp[maxLen,z5_];omega
 have hLm:L.length<=2000000:=by omega
 have bad:¬dsP n L L.length->bOk n q site b=false:=fun h=>by rw[hR0,hV,hu_ hn h];rfl
 simp -implicitDefEqProofs [a20t,t3,Bl.v,Bl.cs,cP,vC,b1,b2,hsl]
 refine zi_ [3,4,184,185,186] [9] 2 (by simp) (rvO b n q site L) L.length ⟨by simp[t3,t4],0,by simp,fun a h ha=>by omega,by simp[t3,t4,Bl.v,Bl.cs,cP,vC]⟩ ?_
 clear t3 t4
 rintro m S ⟨i,hi,hds,rfl⟩
 by_cases hm:i<L.length
 .have g1:(i:Int)<(L.length:Int):=by omega
  have g0:¬(i:Int)<0:=by omega
  have gi:(i:Int)<=(L.length:Int):=by omega
  have hw:IntKind.i64.wrap ((i:Int)+1)=(i:Int)+1:=wrap64 (by omega)
  have kP:=uA_ n q L[i]
  have hmin:min i L.length=i:=by omega
  simp[g1,g0,yI_ hm,Sg.v,Bl.v,Bl.cs,cP,vC]
  refine z1_ ?_
  simp
  refine zc_ kP (by simp[Sg.v,cP]) (by simp[Sg.v,cP]) ?_
  rintro _ rfl
  cases hp:prp n L[i]
  case' false =>
   have hR:=bad (fun x=>by have:=(x i hm hm).1;rw[hp]at this;cases this)
   simp[hR]
  have hst:(sl L).take i=sl (L.take i):=by simp[sl,List.map_take]
  have gi2:i<=L.length:=by omega
  obtain⟨x,hx⟩:∃x,L[i]=x:=⟨_,rfl⟩
  rw[hx]
  simp[g0,gi2,Bl.v,Bl.cs,cP,vC,hmin,hst]
  refine zi_ [3,4,184,185,186,9,197,198,199] [9] 3 (by simp) (rvI b n q site L i x) i ⟨by simp,0,by simp,fun c hc h=>by omega,by simp[Bl.v,Bl.cs,cP,vC]⟩ ?_
  rintro m' S ⟨j,hj,hne,rfl⟩
  by_cases hmj:j<i
  .have f1:(j:Int)<(i:Int):=by omega
   have f0:¬(j:Int)<0:=by omega
   have hwj:IntKind.i64.wrap ((j:Int)+1)=(j:Int)+1:=wrap64 (by omega)
   have hjL:j<L.length:=by omega
   have hjt:j<(L.take i).length:=by rw[List.length_take];omega
   have hge:(sl (L.take i))[j]?=some L[j].v:=by rw[yI_ hjt];simp
   cases he:(L[j].s==x.s)
   case' true =>
    have hR:=bad (fun y=>(y i hm hm).2 j hjL hmj (by rw[hx];simpa using he))
    simp[f1,f0,hge,Sg.v,he,hR]
   simp[f1,f0,hge,Sg.v,he,hwj,Bl.v,Bl.cs,cP,vC]
   refine⟨m'-1,by omega,j+1,by omega,fun c hc h=>?_,by simp[Bl.v,Bl.cs,cP,vC]⟩
   by_cases hcj:c=j
   .subst hcj;simpa using he
   .exact hne c hc (by omega)
  .have f1:¬(j:Int)<(i:Int):=by omega
   have hji:j=i:=by omega
   subst hji
   simp[f1,hw,Bl.v,Bl.cs,cP,vC]
   refine⟨m-1,by omega,j+1,by omega,fun a ha h=>?_,by simp[Bl.v,Bl.cs,cP,vC]⟩
   by_cases haj:a=j
   .subst haj
    exact⟨hp,fun c hc hca=>by rw[hx];exact hne c hc hca⟩
   .exact hds a ha (by omega)
 .have g1:¬(i:Int)<(L.length:Int):=by omega
  have hiL:i=L.length:=by omega
  have hok:(sck n 0 L).isSome=true:=(lC_ hn).2 (by rw[hiL]at hds;exact hds)
  simp[g1,Bl.v,Bl.cs,cP,vC]
  refine zi_ [3] [4,5,6,7,8,9] 2 (by simp) (rvA b n q site) b.queue.length ⟨by simp,1,by omega,by omega,fun j h hj=>by omega,by simp[Bl.v,Bl.cs,cP,vC]⟩ ?_
  rintro m' S ⟨i,hi,hi1,hx,rfl⟩
  by_cases hil:i<b.queue.length
  .obtain⟨i0,rfl⟩:∃i0,i=i0+1:=⟨i-1,by omega⟩
   have g1:(i0:Int)+1<(b.queue.length:Int):=by omega
   have g0:¬(i0:Int)+1<0:=by omega
   have g4:¬(i0:Int)<0:=by omega
   have g5:(i0:Int)<(b.queue.length:Int):=by omega
   have hw:IntKind.i64.wrap ((i0:Int)+1+1)=(i0:Int)+1+1:=wrap64 (by omega)
   have hw2:IntKind.i64.wrap ((i0:Int)+1-1)=(i0:Int):=by rw[wrap64 (by omega)];omega
   have hw3:IntKind.i64.wrap (i0:Int)=(i0:Int):=wrap64 (by omega)
   have hil2:i0<b.queue.length:=by omega
   have hin:((i0:Int)+1).toNat=i0+1:=by omega
   have kC:=v0_ b.queue[i0] b.queue[i0+1]
   simp[g1,g0,Bl.v,Bl.cs,cP,vC,hw2,hw3,g4,g5,hin,yI_ hil,yI_ hil2,Sg.v]
   refine zB_ ?_
   simp
   refine y8_ kC (by simp[Sg.v]) (by simp[Sg.v]) ?_
   by_cases hc:0<=cmpS b.queue[i0] b.queue[i0+1]
   ·have ha:ascS b.queue=false:=by
     cases e:ascS b.queue
     .rfl
     .have:=wO_.1 e i0 hil
      omega
    have hR:bOk n q site b=false:=by rw[hR0,hV,ha];simp
    simp[hc,hR]
   .simp[hc,hw,Bl.v,Bl.cs,cP,vC]
    refine⟨m'-1,by omega,i0+1+1,by omega,by omega,fun j h hj=>?_,by simp[Bl.v,Bl.cs,cP,vC]⟩
    by_cases hj2:j+1<i0+1
    .exact hx j h hj2
    .have:j=i0:=by omega
     subst this
     omega
  .have g1:¬(i:Int)<(b.queue.length:Int):=by omega
   have ha:ascS b.queue=true:=wO_.2 fun j hj=>hx j hj (by omega)
   have hR:bOk n q site b=true:=by rw[hR0,hV,hok,ha];rfl
   simp[g1,hR,Bl.v,Bl.cs,cP,vC]
end Go.Proofs.Ytpfjlnmnolbiaaa
