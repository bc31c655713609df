/- Parts of the proof of a law of chapter 30, put behind one another. -/
import Derived.Test.YtpfjlnmnolbiaaaZF
import Derived.Test.YtpfjlnmnolbiaaaZD
import Derived.Test.YtpfjlnmnolbiaaaZE
import Derived.Below
import Derived.Deep.LoopGhost
import Derived.OrdersHeld
import Derived.StillTail
import Derived.Deep.RegionHeld
import Derived.Deep.RegionHeld3
set_option linter.unusedVariables false
set_option maxHeartbeats 64000000
set_option maxRecDepth 100000
set_option linter.unusedSimpArgs false
namespace Go.Proofs.Ytpfjlnmnolbiaaa
open Go.RowKit Go.Proofs
theorem od_{n:Int}{q:List Int}(h:okC n q){x:Int}(hx:x∈q):0<=x/\x<512:=by
 obtain⟨i,hi,rfl⟩:=List.getElem_of_mem hx
 have h1:=(h.asc i hi).1
 rw[wk_ hi]at h1
 have h2:2^n.toNat<=2^9:=yyf_ (by omega) (by have:=h.n1;omega)
 omega
theorem pE_{n:Int}{b:Bl}(h:¬b.given.length<=1):vok n b=false:=by simp[vok,h]
theorem pD_{n:Int}{b:Bl}(h:b.given=[])(h2:b.queue≠[]):vok n b=false:=by simp[vok,h,h2]
theorem ul_{n:Int}{b:Bl}(h:b.asked=true)(h2:b.queue=[]):vok n b=false:=by simp[vok,h,h2]
theorem wr_{n:Int}{b:Bl}(h1:b.given.length<=1)(h2:b.given=[]->b.queue=[])(h3:b.asked=true->b.queue≠[]):vok n b=((sck n 0 (b.given++b.queue)).isSome&&ascS b.queue):=by
 unfold vok
 rw[decide_eq_true h1]
 cases hq:b.queue with
 | nil =>
   cases ha:b.asked with
   |true=>exact absurd hq (h3 ha)
   |false=>simp
 | cons x r =>
   cases hg:b.given with
   |nil=>have:=h2 hg;rw[hq]at this;cases this
   |cons y s=>simp
theorem w3_(b:Bl)(n:Int)(q:List Int)(site:Int)(hq:q.length<=1000)(hb:b.sm)(hv:i64 b.votes)(hf:i64 b.fail)(hi:i64 b.inqd):PC Try.prog 20 [b.v,cP n q,.s (.int .i64 site)] (fun r=>r=.s (.bool (bOk n q site b))):=by
 have k1:=ob_ n q (by omega)
 have k2:=uU_ n q site
 have k3:=u2_ n q b.qu (by omega)
 have fA:aok q site b=false->bOk n q site b=false:=fun h=>by simp[bOk,h]
 have fV:vok n b=false->bOk n q site b=false:=fun h=>by simp[bOk,h]
 refine zn_ c20b zp_ rfl ?_
 simp -implicitDefEqProofs [a20b,F20,Bl.v,Bl.cs,cP]
 refine z1_ ?_
 simp -implicitDefEqProofs
 refine zc_ k1 (by simp[cP]) (by simp[cP]) ?_
 rintro _ rfl
 cases h1:okB n q
 case' false=>simp -implicitDefEqProofs [bOk,h1]
 have hok:=ta_.1 h1
 have hn:n<=9:=hok.n1.2
 simp -implicitDefEqProofs [h1]
 refine z1_ ?_
 simp -implicitDefEqProofs
 refine zc_ k2 (by simp[cP]) (by simp[cP]) ?_
 rintro _ rfl
 cases h2:vtr n site
 case' false=>simp -implicitDefEqProofs [bOk,h1,h2]
 by_cases h3:b.time<0
 case pos =>
  have h3':¬0<=b.time:=by omega
  simp -implicitDefEqProofs [bOk,h1,h2,h3,h3']
 have h3':0<=b.time:=by omega
 by_cases h4:(1073741824:Int)<b.time
 case pos =>
  have h4':¬b.time<=1073741824:=by omega
  simp -implicitDefEqProofs [bOk,h1,h2,h3,h3',h4,h4']
 have h4':b.time<=1073741824:=by omega
 by_cases hz:b.qu=0
 case pos =>
  have e5:(b.qu != 0)=false:=by simpa using hz
  have e5':(b.qu==0)=true:=by simpa using hz
  have hr2:=ko_ hv hf hi (by omega)
  have fB:r2B b=false->bOk n q site b=false:=fun h=>fA (by rw[hr2]at h;simp[aok,hz,h])
  by_cases v1:b.votes<0
  case pos =>
   have hR:=fB (by simp[r2B,v1])
   simp -implicitDefEqProofs [h3,h4,e5,e5',v1,hR]
  by_cases v2:b.fail<0
  case pos =>
   have hR:=fB (by simp[r2B,v2,v1])
   simp -implicitDefEqProofs [h3,h4,e5,e5',v1,v2,hR]
  by_cases v3:b.inqd<0
  case pos =>
   have hR:=fB (by simp[r2B,v3,v1,v2])
   simp -implicitDefEqProofs [h3,h4,e5,e5',v1,v2,v3,hR]
  cases v4:(bits .andNot .i64 b.votes b.qu != 0)
  case' true =>
   have hR:=fB (by unfold r2B;rw[v4];simp)
   simp -implicitDefEqProofs [h3,h4,e5,e5',v1,v2,v3,↓z4_,↓zb_,↓z2_,eqCs,eqC,v4,hR]
  cases v5:(bits .andNot .i64 b.fail b.qu != 0)
  case' true =>
   have hR:=fB (by unfold r2B;rw[v5];simp)
   simp -implicitDefEqProofs [h3,h4,e5,e5',v1,v2,v3,v4,↓z4_,↓zb_,↓z2_,eqCs,eqC,v5,hR]
  cases v6:(bits .and .i64 b.fail b.votes != 0)
  case' true =>
   have hR:=fB (by unfold r2B;rw[v6];simp)
   simp -implicitDefEqProofs [h3,h4,e5,e5',v1,v2,v3,v4,v5,↓z4_,↓zb_,↓z2_,eqCs,eqC,v6,hR]
  cases v7:(bits .andNot .i64 b.inqd b.votes != 0)
  case' true =>
   have hR:=fB (by unfold r2B;rw[v7];simp)
   simp -implicitDefEqProofs [h3,h4,e5,e5',v1,v2,v3,v4,v5,v6,↓z4_,↓zb_,↓z2_,eqCs,eqC,v7,hR]
  have hB:aokB b=true:=by rw[<-hr2];unfold r2B;rw[v4,v5,v6,v7];simp[v1,v2,v3]
  simp -implicitDefEqProofs [h3,h4,e5,e5',v1,v2,v3,v4,v5,v6,v7,↓z4_,↓zb_,↓z2_,eqCs,eqC]
  cases s1:(b.stamp.t==0)
  case' false =>
   have hR:=fA (by simp only[aok,if_pos hz,hB,s1];rfl)
   simp -implicitDefEqProofs [↓z4_,↓zb_,↓z2_,eqCs,eqC,e5,e5',s1,hR]
  cases s2:(b.stamp.s==0)
  case' false =>
   have hR:=fA (by simp only[aok,if_pos hz,hB,s1,s2];rfl)
   simp -implicitDefEqProofs [↓z4_,↓zb_,↓z2_,eqCs,eqC,e5,e5',s1,s2,hR]
  cases u1:b.using'
  case' true =>
   have hR:=fA (by simp only[aok,if_pos hz,hB,s1,s2,u1];rfl)
   simp -implicitDefEqProofs [↓z4_,↓zb_,↓z2_,eqCs,eqC,e5,e5',s1,s2,u1,hR]
  have hA:aok q site b=true:=by simp only[aok,if_pos hz,hB,s1,s2,u1];rfl
  simp -implicitDefEqProofs [↓z4_,↓zb_,↓z2_,eqCs,eqC,e5,e5',s1,s2,u1]
  by_cases g1:(1:Int)<(b.given.length:Int)
  case pos =>
   have hR:=fV (pE_ (by omega))
   simp -implicitDefEqProofs [g1,hR]
  have g1':b.given.length<=1:=by omega
  by_cases g2':b.given=[]
  case pos =>
   have g2:((b.given.length:Int)==0)=true:=by simp[g2']
   by_cases g4':b.queue=[]
   case neg =>
    have g3:0<b.queue.length:=List.length_pos_iff.2 g4'
    have hR:=fV (pD_ g2' g4')
    simp -implicitDefEqProofs [g1,g2,g3,hR]
   have g3:¬0<b.queue.length:=by simp[g4']
   have g4:((b.queue.length:Int)==0)=true:=by simp[g4']
   cases g5:b.asked
   case true =>
    have hR:=fV (ul_ g5 g4')
    simp -implicitDefEqProofs [g1,g2,g3,g4,g5,hR]
   have hV:=wr_ (n:=n) (b:=b) g1' (fun _=>g4') (fun e=>by rw[g5]at e;cases e)
   simp -implicitDefEqProofs [g1,g2,g3,g4,g5]
   exact xw_ hb hn hV (by simp[bOk,h1,h2,h3',h4',hA]) _ ⟨by simp,by simp,by simp[Bl.v,Bl.cs,cP,u1,g5],by simp[Bl.cs,vC,u1,g5]⟩
  have g2:((b.given.length:Int)==0)=false:=by simpa using g2'
  cases g5:b.asked
  case false =>
   have hV:=wr_ (n:=n) (b:=b) g1' (fun e=>absurd e g2') (fun e=>by rw[g5]at e;cases e)
   simp -implicitDefEqProofs [g1,g2,g5]
   exact xw_ hb hn hV (by simp[bOk,h1,h2,h3',h4',hA]) _ ⟨by simp,by simp,by simp[Bl.v,Bl.cs,cP,u1,g5],by simp[Bl.cs,vC,u1,g5]⟩
  by_cases g4':b.queue=[]
  case pos =>
   have g4:((b.queue.length:Int)==0)=true:=by simp[g4']
   have hR:=fV (ul_ g5 g4')
   simp -implicitDefEqProofs [g1,g2,g5,g4,hR]
  have g4:((b.queue.length:Int)==0)=false:=by simpa using g4'
  have hV:=wr_ (n:=n) (b:=b) g1' (fun e=>absurd e g2') (fun _=>g4')
  simp -implicitDefEqProofs [g1,g2,g5,g4]
  exact xw_ hb hn hV (by simp[bOk,h1,h2,h3',h4',hA]) _ ⟨by simp,by simp,by simp[Bl.v,Bl.cs,cP,u1,g5],by simp[Bl.cs,vC,u1,g5]⟩
 have e5:(b.qu != 0)=true:=by simpa using hz
 have e5':(b.qu==0)=false:=by simpa using hz
 simp -implicitDefEqProofs [h3,h4,e5]
 refine z1_ ?_
 simp -implicitDefEqProofs
 refine zc_ k3 (by simp[cP]) (by simp[cP]) ?_
 rintro _ rfl
 by_cases h5:b.qu∈q
 case neg =>
  have hR:=fA (by simp[aok,hz,h5])
  simp -implicitDefEqProofs [h5,hR]
 have hqr:=od_ hok h5
 have hr2:=ko_ hv hf hi hqr
 have fB:r2B b=false->bOk n q site b=false:=fun h=>fA (by rw[hr2]at h;simp[aok,hz,h])
 by_cases v1:b.votes<0
 case pos =>
  have hR:=fB (by simp[r2B,v1])
  simp -implicitDefEqProofs [h5,e5,e5',v1,hR]
 by_cases v2:b.fail<0
 case pos =>
  have hR:=fB (by simp[r2B,v2,v1])
  simp -implicitDefEqProofs [h5,e5,e5',v1,v2,hR]
 by_cases v3:b.inqd<0
 case pos =>
  have hR:=fB (by simp[r2B,v3,v1,v2])
  simp -implicitDefEqProofs [h5,e5,e5',v1,v2,v3,hR]
 cases v4:(bits .andNot .i64 b.votes b.qu != 0)
 case' true =>
  have hR:=fB (by unfold r2B;rw[v4];simp)
  simp -implicitDefEqProofs [h5,e5,e5',v1,v2,v3,↓z4_,↓zb_,↓z2_,eqCs,eqC,v4,hR]
 cases v5:(bits .andNot .i64 b.fail b.qu != 0)
 case' true =>
  have hR:=fB (by unfold r2B;rw[v5];simp)
  simp -implicitDefEqProofs [h5,e5,e5',v1,v2,v3,v4,↓z4_,↓zb_,↓z2_,eqCs,eqC,v5,hR]
 cases v6:(bits .and .i64 b.fail b.votes != 0)
 case' true =>
  have hR:=fB (by unfold r2B;rw[v6];simp)
  simp -implicitDefEqProofs [h5,e5,e5',v1,v2,v3,v4,v5,↓z4_,↓zb_,↓z2_,eqCs,eqC,v6,hR]
 cases v7:(bits .andNot .i64 b.inqd b.votes != 0)
 case' true =>
  have hR:=fB (by unfold r2B;rw[v7];simp)
  simp -implicitDefEqProofs [h5,e5,e5',v1,v2,v3,v4,v5,v6,↓z4_,↓zb_,↓z2_,eqCs,eqC,v7,hR]
 have hB:aokB b=true:=by rw[<-hr2];unfold r2B;rw[v4,v5,v6,v7];simp[v1,v2,v3]
 simp -implicitDefEqProofs [h5,e5,e5',v1,v2,v3,v4,v5,v6,v7,↓z4_,↓zb_,↓z2_,eqCs,eqC]
 cases s0:(b.stamp.s != site)
 case' true =>
  have hR:=fA (by simp only[aok,if_neg hz,hB,s0];simp)
  simp -implicitDefEqProofs [↓z4_,↓zb_,↓z2_,eqCs,eqC,e5,e5',s0,hR]
 by_cases s1:b.stamp.t<1
 case pos =>
  have s1':¬1<=b.stamp.t:=by omega
  have hR:=fA (by simp[aok,hz,s1'])
  simp -implicitDefEqProofs [↓z4_,↓zb_,↓z2_,eqCs,eqC,e5,e5',s0,s1,hR]
 have s1':1<=b.stamp.t:=by omega
 by_cases s2:b.time<b.stamp.t
 case pos =>
  have s2':¬b.stamp.t<=b.time:=by omega
  have hR:=fA (by simp[aok,hz,s2'])
  simp -implicitDefEqProofs [↓z4_,↓zb_,↓z2_,eqCs,eqC,e5,e5',s0,s1,s2,hR]
 have s2':b.stamp.t<=b.time:=by omega
 cases u2:(b.votes==b.qu)
 case false =>
  cases u1:b.using'
  case' true =>
   have hR:=fA (by simp only[aok,if_neg hz,hB,s0,u1,u2];simp)
   simp -implicitDefEqProofs [↓z4_,↓zb_,↓z2_,eqCs,eqC,e5,e5',s0,s1,s2,u1,u2,hR]
  have hA:aok q site b=true:=by simp only[aok,if_neg hz,hB,s0,u1,u2,h5,s1',s2'];simp
  simp -implicitDefEqProofs [↓z4_,↓zb_,↓z2_,eqCs,eqC,e5,e5',s0,s1,s2,u1,u2]
  by_cases g1:(1:Int)<(b.given.length:Int)
  case pos =>
   have hR:=fV (pE_ (by omega))
   simp -implicitDefEqProofs [g1,hR]
  have g1':b.given.length<=1:=by omega
  by_cases g2':b.given=[]
  case pos =>
   have g2:((b.given.length:Int)==0)=true:=by simp[g2']
   by_cases g4':b.queue=[]
   case neg =>
    have g3:0<b.queue.length:=List.length_pos_iff.2 g4'
    have hR:=fV (pD_ g2' g4')
    simp -implicitDefEqProofs [g1,g2,g3,hR]
   have g3:¬0<b.queue.length:=by simp[g4']
   have g4:((b.queue.length:Int)==0)=true:=by simp[g4']
   cases g5:b.asked
   case true =>
    have hR:=fV (ul_ g5 g4')
    simp -implicitDefEqProofs [g1,g2,g3,g4,g5,hR]
   have hV:=wr_ (n:=n) (b:=b) g1' (fun _=>g4') (fun e=>by rw[g5]at e;cases e)
   simp -implicitDefEqProofs [g1,g2,g3,g4,g5]
   exact xw_ hb hn hV (by simp[bOk,h1,h2,h3',h4',hA]) _ ⟨by simp,by simp,by simp[Bl.v,Bl.cs,cP,u1,g5],by simp[Bl.cs,vC,u1,g5]⟩
  have g2:((b.given.length:Int)==0)=false:=by simpa using g2'
  cases g5:b.asked
  case false =>
   have hV:=wr_ (n:=n) (b:=b) g1' (fun e=>absurd e g2') (fun e=>by rw[g5]at e;cases e)
   simp -implicitDefEqProofs [g1,g2,g5]
   exact xw_ hb hn hV (by simp[bOk,h1,h2,h3',h4',hA]) _ ⟨by simp,by simp,by simp[Bl.v,Bl.cs,cP,u1,g5],by simp[Bl.cs,vC,u1,g5]⟩
  by_cases g4':b.queue=[]
  case pos =>
   have g4:((b.queue.length:Int)==0)=true:=by simp[g4']
   have hR:=fV (ul_ g5 g4')
   simp -implicitDefEqProofs [g1,g2,g5,g4,hR]
  have g4:((b.queue.length:Int)==0)=false:=by simpa using g4'
  have hV:=wr_ (n:=n) (b:=b) g1' (fun e=>absurd e g2') (fun _=>g4')
  simp -implicitDefEqProofs [g1,g2,g5,g4]
  exact xw_ hb hn hV (by simp[bOk,h1,h2,h3',h4',hA]) _ ⟨by simp,by simp,by simp[Bl.v,Bl.cs,cP,u1,g5],by simp[Bl.cs,vC,u1,g5]⟩
 case true =>
  cases u1:b.using'
  case' false =>
   have hR:=fA (by simp only[aok,if_neg hz,hB,s0,u1,u2];simp)
   simp -implicitDefEqProofs [↓z4_,↓zb_,↓z2_,eqCs,eqC,e5,e5',s0,s1,s2,u1,u2,hR]
  cases u3:(b.inqd != 0)
  case' true =>
   have u3':(b.inqd==0)=false:=by simpa using u3
   have hR:=fA (by simp only[aok,if_neg hz,hB,s0,u1,u2,u3'];simp)
   simp -implicitDefEqProofs [↓z4_,↓zb_,↓z2_,eqCs,eqC,e5,e5',s0,s1,s2,u1,u2,u3,hR]
  have u3':(b.inqd==0)=true:=by simpa using u3
  have hA:aok q site b=true:=by simp only[aok,if_neg hz,hB,s0,u1,u2,u3',h5,s1',s2'];simp
  simp -implicitDefEqProofs [↓z4_,↓zb_,↓z2_,eqCs,eqC,e5,e5',s0,s1,s2,u1,u2,u3]
  by_cases g1:(1:Int)<(b.given.length:Int)
  case pos =>
   have hR:=fV (pE_ (by omega))
   simp -implicitDefEqProofs [g1,hR]
  have g1':b.given.length<=1:=by omega
  by_cases g2':b.given=[]
  case pos =>
   have g2:((b.given.length:Int)==0)=true:=by simp[g2']
   by_cases g4':b.queue=[]
   case neg =>
    have g3:0<b.queue.length:=List.length_pos_iff.2 g4'
    have hR:=fV (pD_ g2' g4')
    simp -implicitDefEqProofs [g1,g2,g3,hR]
   have g3:¬0<b.queue.length:=by simp[g4']
   have g4:((b.queue.length:Int)==0)=true:=by simp[g4']
   cases g5:b.asked
   case true =>
    have hR:=fV (ul_ g5 g4')
    simp -implicitDefEqProofs [g1,g2,g3,g4,g5,hR]
   have hV:=wr_ (n:=n) (b:=b) g1' (fun _=>g4') (fun e=>by rw[g5]at e;cases e)
   simp -implicitDefEqProofs [g1,g2,g3,g4,g5]
   exact xw_ hb hn hV (by simp[bOk,h1,h2,h3',h4',hA]) _ ⟨by simp,by simp,by simp[Bl.v,Bl.cs,cP,u1,g5],by simp[Bl.cs,vC,u1,g5]⟩
  have g2:((b.given.length:Int)==0)=false:=by simpa using g2'
  cases g5:b.asked
  case false =>
   have hV:=wr_ (n:=n) (b:=b) g1' (fun e=>absurd e g2') (fun e=>by rw[g5]at e;cases e)
   simp -implicitDefEqProofs [g1,g2,g5]
   exact xw_ hb hn hV (by simp[bOk,h1,h2,h3',h4',hA]) _ ⟨by simp,by simp,by simp[Bl.v,Bl.cs,cP,u1,g5],by simp[Bl.cs,vC,u1,g5]⟩
  by_cases g4':b.queue=[]
  case pos =>
   have g4:((b.queue.length:Int)==0)=true:=by simp[g4']
   have hR:=fV (ul_ g5 g4')
   simp -implicitDefEqProofs [g1,g2,g5,g4,hR]
  have g4:((b.queue.length:Int)==0)=false:=by simpa using g4'
  have hV:=wr_ (n:=n) (b:=b) g1' (fun e=>absurd e g2') (fun _=>g4')
  simp -implicitDefEqProofs [g1,g2,g5,g4]
  exact xw_ hb hn hV (by simp[bOk,h1,h2,h3',h4',hA]) _ ⟨by simp,by simp,by simp[Bl.v,Bl.cs,cP,u1,g5],by simp[Bl.cs,vC,u1,g5]⟩
theorem nF_(n:Int)(q:List Int)(site x:Int)(b:Bl)(o:List Vt):okV (yU_ n q site x b o)=true:=by
 unfold yU_
 repeat' split
 all_goals rfl
theorem mJ_(n:Int)(q:List Int)(site:Int)(b:Bl)(o:List Vt):okV (xI_ n q site b o)=true:=by
 unfold xI_
 repeat' split
 all_goals rfl
theorem j3_{s k:Int}{x:Sg}(h:0<=s/\s<512):evU s k x 9=(mbU s 9).map fun v=>⟨k,v,x.t,x.s⟩:=by
 obtain⟨m,rfl⟩:∃m:Nat,s=m:=⟨s.toNat,by omega⟩
 exact j4_ (by omega)
theorem qE_{n:Int}{q:List Int}{site:Int}{b:Bl}(h:bOk n q site b=true):okC n q/\0<=b.qu/\b.qu<512:=by
 unfold bOk at h
 simp only[zzg_]at h
 have h1:=ta_.1 h.1.1.1.1.1
 refine⟨h1,?_⟩
 by_cases hz:b.qu=0
 .omega
 .have ha:=h.1.2
  unfold aok at ha
  rw[if_neg hz]at ha
  simp only[zzg_,zzp_]at ha
  exact od_ h1 ha.1.1.1.1.1.1
structure Bl.wd(b:Bl):Prop where
 v:i64 b.votes
 f:i64 b.fail
 i:i64 b.inqd
theorem m0_(b:Bl)(n:Int)(q:List Int)(site x:Int)(hq:q.length<=1000)(hb:b.sm)(hw:b.wd):PC Try.prog 16 [b.v,cP n q,.s (.int .i64 site),.s (.int .i64 x)] (fun r=>r=yU_ n q site x b (askO b site (mbU x 9))):=by
 have k1:=w3_ b n q site hq hb hw.v hw.f hw.i
 have k2:=u2_ n q x (by omega)
 have k3:=t5_ b hb
 refine y9_ (q:=fun r=>frT r (yU_ n q site x b (askO b site (mbU x 9)))) ?_ fun r hr _=>⟨_,hr,nF_ ..,rfl⟩
 refine zn_ c16 zp_ rfl ?_
 simp -implicitDefEqProofs [a16,F16,Bl.v,Bl.cs,cP]
 refine z1_ ?_
 simp
 refine zc_ k1 (by simp[Bl.v,Bl.cs,cP]) (by simp[Bl.v,Bl.cs,cP]) ?_
 rintro _ rfl
 cases h1:bOk n q site b
 case' false =>
  simp[yU_,h1,errR,noB,Bl.v,Bl.cs,frT,frAs,frA,frLs,frL,immC]
 have ht:0<=b.time/\b.time<=1073741824:=by
  unfold bOk at h1
  simp only[zzg_,zzp_]at h1
  exact⟨h1.1.1.1.2,h1.1.1.2⟩
 have hok:=(qE_ h1).1
 simp
 refine z1_ ?_
 simp
 refine zc_ k2 (by simp[cP]) (by simp[cP]) ?_
 rintro _ rfl
 by_cases h2:x∈q
 case neg =>
  simp[yU_,h1,h2,errR,noB,Bl.v,Bl.cs,frT,frAs,frA,frLs,frL,immC]
 by_cases h3:b.qu=0
 case neg =>
  have e3:(b.qu != 0)=true:=by simpa using h3
  simp[yU_,h1,h2,h3,e3,errR,noB,Bl.v,Bl.cs,frT,frAs,frA,frLs,frL,immC]
 have e3:(b.qu != 0)=false:=by simpa using h3
 by_cases h4:b.time=1073741824
 case pos =>
  have e4:(b.time==1073741824)=true:=by simpa using h4
  simp[yU_,h1,h2,h3,h4,e3,e4,errR,noB,Bl.v,Bl.cs,frT,frAs,frA,frLs,frL,immC]
 have e4:(b.time==1073741824)=false:=by simpa using h4
 have hww:IntKind.i64.wrap (b.time+1)=b.time+1:=wrap64 (by omega)
 have hR:yU_ n q site x b (askO b site (mbU x 9))=okR (vA_ b site x) (askO b site (mbU x 9)):=by
  unfold yU_
  rw[if_neg (by simp[h1]),if_neg (by simp[h2]),if_neg (by simp[h3]),if_neg h4]
 have k4:=rs_ x 1 ⟨b.time+1,site⟩
 have hev:evU x 1 ⟨b.time+1,site⟩ 9=askO b site (mbU x 9):=j3_ (od_ hok h2)
 rw[hev]at k4
 rw[hR]
 simp[h2,e3,e4]
 refine z1_ ?_
 simp
 refine zc_ k3 (by simp[Bl.v,Bl.cs]) (by simp[Bl.v,Bl.cs]) ?_
 rintro _ rfl
 simp[hww,Bl.v,Bl.cs]
 refine zB_ ?_
 simp
 refine y8_ k4 (by simp[Sg.v]) (by simp[Sg.v]) ?_
 simp[okR,vA_,Bl.v,Bl.cs,frT,frAs,frA,frLs,frL,immC]
theorem m4_(b:Bl)(n:Int)(q:List Int)(site:Int)(hq:q.length<=1000)(hb:b.sm)(hw:b.wd):PC Try.prog 22 [b.v,cP n q,.s (.int .i64 site)] (fun r=>r=xI_ n q site b (relO (mbU b.qu 9))):=by
 have k1:=w3_ b n q site hq hb hw.v hw.f hw.i
 have k3:=t5_ b hb
 refine y9_ (q:=fun r=>frT r (xI_ n q site b (relO (mbU b.qu 9)))) ?_ fun r hr _=>⟨_,hr,mJ_ ..,rfl⟩
 refine zn_ c22 zp_ rfl ?_
 simp -implicitDefEqProofs [a22,F22,Bl.v,Bl.cs,cP]
 refine z1_ ?_
 simp
 refine zc_ k1 (by simp[Bl.v,Bl.cs,cP]) (by simp[Bl.v,Bl.cs,cP]) ?_
 rintro _ rfl
 cases h1:bOk n q site b
 case' false =>
  simp[xI_,h1,errR,noB,Bl.v,Bl.cs,frT,frAs,frA,frLs,frL,immC]
 simp
 cases h2:b.using'
 case' false =>
  simp[xI_,h1,h2,errR,noB,Bl.v,Bl.cs,frT,frAs,frA,frLs,frL,immC]
 have k4:=rs_ b.qu 6 ⟨0,0⟩
 have hev:evU b.qu 6 ⟨0,0⟩ 9=relO (mbU b.qu 9):=j3_ (qE_ h1).2
 rw[hev]at k4
 have hR:xI_ n q site b (relO (mbU b.qu 9))=okR (pf_ b) (relO (mbU b.qu 9)):=by
  unfold xI_
  rw[if_neg (by rw[h1];decide),if_neg (by rw[h2];decide)]
 rw[hR]
 simp
 refine z1_ ?_
 simp
 refine zc_ k3 (by simp[Bl.v,Bl.cs,h2]) (by simp[Bl.v,Bl.cs,h2]) ?_
 rintro _ rfl
 simp[Bl.v,Bl.cs]
 refine z1_ ?_
 simp
 refine zc_ k4 (by simp[Sg.v]) (by simp[Sg.v]) ?_
 rintro _ rfl
 simp[okR,pf_,Bl.v,Bl.cs,frT,frAs,frA,frLs,frL,immC,h2]
def a54b:ACode :=
 (.seq (qP 0 [
 qN 2 (.box 11 (.v 0)),
 qN 3 (.box 2 (.v 1)),
 qN 4 (.allo qZ),
 qV 2 (.c (.slice none 0 0))])
 (.seq (qP 1 [
 qN 8 (qf 0 2),
 qN 9 (ql 1 8),
 qN 10 (qf 0 3),
 qN 11 (ql 1 10),
 qN 12 (.mnx true (T 9) (T 11)),
 qN 13 (qf 0 2),
 qS 1 (T 13) (T 12)])
 (.seq (.seq (qP 2 [
 qN 14 (qf 8 2),
 qN 15 (ql 1 14),
 qN 16 (.len (T 15)),
 qN 17 (qi .eql 16 0)])
 (.cond (T 17)
 (.seq (qP 3 [
 qN 18 (qL 2 3),
 qN 19 (.bls 36 2 (.agg #[(.int .i64 0),(.int .i64 0)]) 1 [(0,(T 18))]),
 qN 20 (qf 8 2),
 qS 1 (T 20) (T 19)])
 (.seq (.reg 4 [.freeze (.cell 0 8),.freeze (.cell 0 9)] [
 qN 21 (qL 11 2),
 qN 22 (qf 1 3),
 qN 23 (ql 1 22),
 qN 24 (.bld [(.int .i64 0),(.int .i64 0),(.int .i64 0),(.int .i64 0)] [(0,1,(qI 2)),(1,1,(T 23))]),
 qN 25 (.bls 46 4 (.agg #[(.int .i64 0),(.int .i64 0),(.int .i64 0),(.int .i64 0)]) 1 [(0,(T 24))]),
 qS 11 (T 4) (T 21),
 qV 2 (T 25)] (some [[],[],[1],[2],[3],[0,0],[4,5,0,1,2,3,4,5]]) ⟨[],[],[1000000],[]⟩)
 .ret))
 .skip))
 (.seq (qP 5 [
 qV 3 (.c (.slice none 0 0))])
 (.seq (qR 6 [.own (.var 3) 46 4] [
 qN 26 (qf 8 2),
 qN 27 (ql 1 26),
 qN 28 (.ia 2 (T 27) (qI 0)),
 qN 29 (qL 2 28),
 qN 7 (.allo [(.int .i64 0),(.int .i64 0)]),
 qS 2 (T 7) (T 29)])
 (.seq (.seq (.reg 7 [] [
 qN 30 (qL 2 3),
 qN 31 (qL 2 7),
 qN 32 (.call 47 [(T 30),(T 31)]),
 qN 33 (qi .lss 32 0),
 qN 34 (qt 33),
 qG 35 34 true (qf 9 2),
 qG 36 34 true (ql 1 35),
 qG 37 34 true (.len (T 36)),
 qG 38 34 true (qi .eql 37 0),
 qG 39 34 true (qt 38),
 qG 40 39 false (qL 2 3),
 qG 41 39 false (qf 9 2),
 qG 42 39 false (ql 1 41),
 qG 43 39 false (.ia 2 (T 42) (qI 0)),
 qG 44 39 false (qL 2 43),
 qG 45 39 false (.call 47 [(T 40),(T 44)]),
 qG 46 39 false (qi .lss 45 0),
 qG 47 34 true (qo 39 46),
 qN 48 (qa 34 47)] (some [[],[],[0,1],[2],[3,2],[4],[5,4],[6,4],[7,4],[8,4,4],[9],[9],[11,9],[12,9],[13,9],[10,14,9,9],[15,9],[9,16,4],[4,17]]) ⟨[39],[],[],[]⟩)
 (.cond (T 48)
 (.seq (.seq (.reg 8 [] [
 qN 49 (qf 9 2),
 qN 50 (ql 1 49),
 qN 51 (.len (T 50)),
 qN 52 (qi .gtr 51 0),
 qN 53 (qt 52),
 qG 54 53 true (qf 9 2),
 qG 55 53 true (ql 1 54),
 qG 56 53 true (.ia 2 (T 55) (qI 0)),
 qG 57 53 true (qL 2 56),
 qG 58 53 true (qL 2 7),
 qG 59 53 true (.call 47 [(T 57),(T 58)]),
 qG 60 53 true (qi .lss 59 0),
 qN 61 (qa 53 60)] (some [[],[0],[1],[2],[3],[4],[5,4],[6,4],[7,4],[4],[8,9,4,4],[10,4],[4,11]]) ⟨[53],[],[],[]⟩)
 (.cond (T 61)
 (qR 9 [.lend (.var 3) 70] [
 qN 62 (qm 3),
 qN 63 (qf 9 2),
 qN 64 (ql 1 63),
 qN 65 (.ia 2 (T 64) (qI 0)),
 qN 66 (qf 1 65),
 qN 67 (ql 1 66),
 qN 68 (.bld [(.int .i64 0),(.int .i64 0),(.int .i64 0),(.int .i64 0)] [(0,1,(qI 3)),(1,1,(T 67))]),
 qN 69 (.bls 46 4 (.agg #[(.int .i64 0),(.int .i64 0),(.int .i64 0),(.int .i64 0)]) 1 [(0,(T 68))]),
 qN 70 (.app 46 4 32 (T 62) (T 69)),
 qV 3 (T 70)])
 .skip))
 (.seq (qP 10 [
 qN 71 (qf 10 2),
 qN 72 (ql 1 71),
 qN 73 (.un .not (T 72))])
 (.cond (T 73)
 (.seq (qP 11 [
 qN 74 (qf 10 2),
 ⟨.none,.st 1 (T 74) (.c (.bool true)),none⟩])
 (qR 12 [.lend (.var 3) 80] [
 qN 75 (qm 3),
 qN 76 (qf 1 7),
 qN 77 (ql 1 76),
 qN 78 (.bld [(.int .i64 0),(.int .i64 0),(.int .i64 0),(.int .i64 0)] [(0,1,(qI 4)),(1,1,(T 77))]),
 qN 79 (.bls 46 4 (.agg #[(.int .i64 0),(.int .i64 0),(.int .i64 0),(.int .i64 0)]) 1 [(0,(T 78))]),
 qN 80 (.app 46 4 32 (T 75) (T 79)),
 qV 3 (T 80)]))
 .skip)))
 (qR 13 [.lend (.var 3) 86] [
 qN 81 (qm 3),
 qN 82 (qf 1 3),
 qN 83 (ql 1 82),
 qN 84 (.bld [(.int .i64 0),(.int .i64 0),(.int .i64 0),(.int .i64 0)] [(0,1,(qI 3)),(1,1,(T 83))]),
 qN 85 (.bls 46 4 (.agg #[(.int .i64 0),(.int .i64 0),(.int .i64 0),(.int .i64 0)]) 1 [(0,(T 84))]),
 qN 86 (.app 46 4 32 (T 81) (T 85)),
 qV 3 (T 86)])))
 (.seq (qP 14 [
 qN 87 (qf 9 2),
 qN 88 (ql 1 87),
 qN 89 (qL 2 3),
 qN 90 (.call 56 [(T 88),(T 89)]),
 qN 91 (qf 9 2),
 qS 1 (T 91) (T 90)])
 (.seq (qR 15 [.freeze (.var 3),.freeze (.cell 0 8),.freeze (.cell 0 9)] [
 qN 92 (qL 11 2),
 qN 93 (qm 3),
 qS 11 (T 4) (T 92),
 qV 2 (T 93)])
 .ret))))))))
theorem c54b:ze_ Try.prog 54 F54=some (2,zh_ a54b,[.c 4 11 true,.v 2])/\z9_ a54b=true:=⟨by kernel_rfl,by kernel_rfl⟩
def a55b:ACode :=
 (.seq (qP 0 [
 qN 2 (.box 11 (.v 0)),
 qN 4 (.allo qZ),
 qV 2 (.c (.slice none 0 0))])
 (.seq (qP 1 [
 qN 6 (qf 2 2),
 qN 7 (ql 1 6),
 qN 8 (qm 1),
 qN 9 (qb .andNot 7 8),
 qN 10 (qf 2 2),
 qS 1 (T 10) (T 9)])
 (.seq (qP 2 [
 qN 11 (qf 3 2),
 qN 12 (ql 1 11),
 qN 13 (qm 1),
 qN 14 (qb .or 12 13),
 qN 15 (qf 3 2),
 qS 1 (T 15) (T 14)])
 (.seq (qP 3 [
 qN 16 (qf 4 2),
 qN 17 (ql 1 16),
 qN 18 (qm 1),
 qN 19 (qb .andNot 17 18),
 qN 20 (qf 4 2),
 qS 1 (T 20) (T 19)])
 (.seq (.reg 4 [.freeze (.cell 0 8),.freeze (.cell 0 9)] [
 qN 21 (qL 11 2),
 qN 22 (qm 1),
 qN 23 (.bld [(.int .i64 0),(.int .i64 0)] []),
 qN 24 (.call 38 [(T 22),(qI 5),(T 23)]),
 qS 11 (T 4) (T 21),
 qV 2 (T 24)] (some [[],[],[],[1,2],[0,3,0],[3,4,0,1,2,3,4]]) ⟨[],[],[],[]⟩)
 .ret)))))
theorem c55b:ze_ Try.prog 55 F55=some (2,zh_ a55b,[.c 4 11 true,.v 2])/\z9_ a55b=true:=⟨by kernel_rfl,by kernel_rfl⟩
def a24t:ACode :=
 (.seq (.seq (qP 7 [
 qN 73 (qf 0 9),
 qN 74 (ql 1 73)])
 (.block 0
 (.seq (qP 8 [
 qN 76 (qi .eql 74 1),
 qV 8 (T 76)])
 (.cond (.v 8)
 (.seq (.seq (.reg 9 [] [
 qN 77 (qf 8 5),
 qN 78 (ql 1 77),
 qN 79 (.app 36 2 16 (.c (.slice none 0 0)) (T 78)),
 qN 80 (qf 9 5),
 qN 81 (ql 1 80),
 qN 82 (.app 36 2 16 (T 79) (T 81)),
 qN 83 (.len (T 82)),
 qN 84 (.mv (qI 0))] (some [[],[0],[1],[],[3],[2,4,2],[5],[]]) ⟨[5],[],[],[]⟩)
 (.block 1
 (.loop
 (.seq (qP 10 [
 qN 85 (qb .lss 84 83)])
 (.seq (.cond (T 85)
 .skip
 (.exit 1))
 (.seq (.block 2
 (.seq (qP 11 [
 qN 86 (.ia 2 (T 82) (T 84)),
 qN 87 (qL 2 86),
 qN 15 (.allo [(.int .i64 0),(.int .i64 0)]),
 qS 2 (T 15) (T 87)])
 (.seq (qP 12 [
 qN 88 (qf 1 15),
 qN 89 (ql 1 88),
 qN 90 (qm 3),
 qN 91 (qb .eql 89 90)])
 (.cond (T 91)
 (.seq (qP 13 [
 qN 92 (.bld qZ []),
 qS 11 (T 10) (T 92),
 qV 5 (.c (.slice none 0 0)),
 qV 6 (qI 11)])
 .ret)
 .skip))))
 (qP 14 [
 qN 93 (qi .add 84 1),
 qN 84 (qt 93)])))))))
 (.seq (qP 15 [
 qN 95 (qL 11 5),
 qN 96 (qf 2 9),
 qN 97 (qL 2 96),
 qN 98 (.call 54 [(T 95),(T 97)]),
 qN 94 (qt 98),
 qN 99 (.ext 94 0),
 qN 100 (.ext 94 1),
 qN 16 (.allo qZ),
 qS 11 (T 16) (T 99),
 qV 9 (T 100)])
 (.seq (qP 16 [
 qN 101 (qL 11 16),
 qN 102 (qm 9),
 qS 11 (T 10) (T 101),
 qV 5 (T 102),
 qV 6 (qI 0)])
 .ret)))
 (.seq (qP 17 [
 qN 104 (qi .eql 74 2),
 qV 10 (T 104)])
 (.cond (.v 10)
 (.seq (.seq (qP 18 [
 qN 105 (qf 1 5),
 qN 106 (ql 1 105),
 qN 107 (qm 7),
 qN 108 (qb .and 106 107),
 qN 109 (qi .eql 108 0),
 qN 110 (qt 109),
 qG 111 110 false (qf 2 5),
 qG 112 110 false (ql 1 111),
 qG 113 110 false (qm 7),
 qG 114 110 false (qb .and 112 113),
 qG 115 110 false (qi .neq 114 0),
 qN 116 (qo 110 115)])
 (.cond (T 116)
 (.seq (qP 19 [
 qN 117 (.bld qZ []),
 qS 11 (T 10) (T 117),
 qV 5 (.c (.slice none 0 0)),
 qV 6 (qI 14)])
 .ret)
 .skip))
 (.seq (qP 20 [
 qN 118 (qf 2 5),
 qN 119 (ql 1 118),
 qN 120 (qm 7),
 qN 121 (qb .or 119 120),
 qN 122 (qf 2 5),
 qS 1 (T 122) (T 121)])
 (.seq (qP 21 [
 qN 123 (qf 3 5),
 qN 124 (ql 1 123),
 qN 125 (qm 7),
 qN 126 (qb .andNot 124 125),
 qN 127 (qf 3 5),
 qS 1 (T 127) (T 126)])
 (.seq (.seq (qP 22 [
 qN 128 (qf 2 5),
 qN 129 (ql 1 128),
 qN 130 (qf 1 5),
 qN 131 (ql 1 130),
 qN 132 (qb .eql 129 131)])
 (.cond (T 132)
 (qP 23 [
 qN 133 (qf 7 5),
 ⟨.none,.st 1 (T 133) (.c (.bool true)),none⟩,
 qN 134 (qf 4 5),
 qS 1 (T 134) (qI 0)])
 .skip))
 (.seq (qR 24 [.freeze (.cell 0 8),.freeze (.cell 0 9)] [
 qN 135 (qL 11 5),
 qS 11 (T 10) (T 135),
 qV 5 (.c (.slice none 0 0)),
 qV 6 (qI 0)])
 .ret)))))
 (.seq (qP 25 [
 qN 137 (qi .eql 74 3),
 qV 11 (T 137)])
 (.cond (.v 11)
 (.seq (.seq (qP 26 [
 qN 138 (qf 1 5),
 qN 139 (ql 1 138),
 qN 140 (qm 7),
 qN 141 (qb .and 139 140),
 qN 142 (qi .eql 141 0),
 qN 143 (qt 142),
 qG 144 143 false (qf 2 5),
 qG 145 143 false (ql 1 144),
 qG 146 143 false (qm 7),
 qG 147 143 false (qb .and 145 146),
 qG 148 143 false (qi .neq 147 0),
 qN 149 (qo 143 148)])
 (.cond (T 149)
 (.seq (qP 27 [
 qN 150 (.bld qZ []),
 qS 11 (T 10) (T 150),
 qV 5 (.c (.slice none 0 0)),
 qV 6 (qI 14)])
 .ret)
 .skip))
 (.seq (qP 28 [
 qN 151 (qf 3 5),
 qN 152 (ql 1 151),
 qN 153 (qm 7),
 qN 154 (qb .or 152 153),
 qN 155 (qf 3 5),
 qS 1 (T 155) (T 154)])
 (.seq (qP 29 [
 qN 157 (qL 11 5),
 qN 158 (qf 4 5),
 qN 159 (ql 1 158),
 qN 160 (.call 55 [(T 157),(T 159)]),
 qN 156 (qt 160),
 qN 161 (.ext 156 0),
 qN 162 (.ext 156 1),
 qN 18 (.allo qZ),
 qS 11 (T 18) (T 161),
 qV 12 (T 162)])
 (.seq (qP 30 [
 qN 163 (qL 11 18),
 qN 164 (qm 12),
 qS 11 (T 10) (T 163),
 qV 5 (T 164),
 qV 6 (qI 0)])
 .ret))))
 (.seq (qP 31 [
 qN 166 (qi .eql 74 4),
 qV 13 (T 166)])
 (.cond (.v 13)
 (.seq (.block 3
 (.seq (qP 32 [
 qN 168 (qf 2 5),
 qN 169 (ql 1 168),
 qN 170 (qm 7),
 qN 171 (qb .and 169 170),
 qN 172 (qi .eql 171 0),
 qN 173 (qt 172),
 qG 174 173 false (qf 7 5),
 qG 175 173 false (ql 1 174),
 qN 176 (qo 173 175),
 qV 14 (T 176)])
 (.cond (.v 14)
 (.seq (qR 33 [.freeze (.cell 0 8),.freeze (.cell 0 9)] [
 qN 177 (qL 11 5),
 qS 11 (T 10) (T 177),
 qV 5 (.c (.slice none 0 0)),
 qV 6 (qI 0)])
 .ret)
 (.seq (qP 34 [
 qN 179 (qf 3 5),
 qN 180 (ql 1 179),
 qN 181 (qi .eql 180 0),
 qV 15 (T 181)])
 (.cond (.v 15)
 (.seq (qP 35 [
 qN 182 (qf 4 5),
 qN 183 (ql 1 182),
 qN 184 (qm 7),
 qN 185 (qb .or 183 184),
 qN 186 (qf 4 5),
 qS 1 (T 186) (T 185)])
 (.seq (qR 36 [.freeze (.cell 0 8),.freeze (.cell 0 9)] [
 qN 187 (qL 11 5),
 qS 11 (T 10) (T 187),
 qV 5 (.c (.slice none 0 0)),
 qV 6 (qI 0)])
 .ret))
 .skip)))))
 (.seq (qP 37 [
 qN 189 (qL 11 5),
 qN 190 (qm 7),
 qN 191 (.call 55 [(T 189),(T 190)]),
 qN 188 (qt 191),
 qN 192 (.ext 188 0),
 qN 193 (.ext 188 1),
 qN 20 (.allo qZ),
 qS 11 (T 20) (T 192),
 qV 16 (T 193)])
 (.seq (qP 38 [
 qN 194 (qL 11 20),
 qN 195 (qm 16),
 qS 11 (T 10) (T 194),
 qV 5 (T 195),
 qV 6 (qI 0)])
 .ret)))
 .skip))))))))))
 (.seq (.seq (qP 39 [
 qN 196 (qf 8 5),
 qN 197 (ql 1 196),
 qN 198 (.len (T 197)),
 qN 199 (qi .eql 198 0),
 qN 200 (qt 199),
 qG 201 200 false (qf 8 5),
 qG 202 200 false (ql 1 201),
 qG 203 200 false (.ia 2 (T 202) (qI 0)),
 qG 204 200 false (qf 1 203),
 qG 205 200 false (ql 1 204),
 qG 206 200 false (qm 3),
 qG 207 200 false (qb .neq 205 206),
 qN 208 (qo 200 207)])
 (.cond (T 208)
 (.seq (qP 40 [
 qN 209 (.bld qZ []),
 qS 11 (T 10) (T 209),
 qV 5 (.c (.slice none 0 0)),
 qV 6 (qI 14)])
 .ret)
 .skip))
 (.seq (.seq (qP 41 [
 qN 210 (qf 0 9),
 qN 211 (ql 1 210),
 qN 212 (qi .eql 211 5)])
 (.cond (T 212)
 (.reg 42 [] [
 qN 213 (qf 9 5),
 qN 214 (ql 1 213),
 qN 215 (qf 8 5),
 qN 216 (ql 1 215),
 qN 217 (.ia 2 (T 216) (qI 0)),
 qN 218 (qL 2 217),
 qN 219 (.call 56 [(T 214),(T 218)]),
 qN 220 (qf 9 5),
 qS 1 (T 220) (T 219)] (some [[],[0],[],[2],[3],[4],[1,5],[0,1,2,3,4,5,6],[7,6,6,0,1,2,3,4,5,6]]) ⟨[5],[],[],[]⟩)
 .skip))
 (.seq (qP 43 [
 qN 221 (qf 8 5),
 ⟨.none,.st 1 (T 221) (.c (.slice none 0 0)),none⟩,
 qN 222 (qf 10 5),
 ⟨.none,.st 1 (T 222) (.c (.bool false)),none⟩])
 (.seq (.seq (qP 44 [
 qN 223 (qf 9 5),
 qN 224 (ql 1 223),
 qN 225 (.len (T 224)),
 qN 226 (qi .eql 225 0)])
 (.cond (T 226)
 (.seq (qR 45 [.freeze (.cell 0 8),.freeze (.cell 0 9)] [
 qN 227 (qL 11 5),
 qS 11 (T 10) (T 227),
 qV 5 (.c (.slice none 0 0)),
 qV 6 (qI 0)])
 .ret)
 .skip))
 (.seq (.reg 46 [] [
 qN 228 (qf 9 5),
 qN 229 (ql 1 228),
 qN 230 (.sl 36 2 (T 229) none (some (qI 1)) (some (qI 1))),
 qN 231 (qf 9 5),
 qN 232 (ql 1 231),
 qN 233 (.sl 36 2 (T 232) (some (qI 1)) none none),
 qN 234 (.app 36 2 16 (.c (.slice none 0 0)) (T 233)),
 qN 235 (qf 8 5),
 qS 1 (T 235) (T 230),
 qN 236 (qf 9 5),
 qS 1 (T 236) (T 234)] (some [[],[0],[1],[],[3],[4],[5],[0,1,2,3,4],[7,2,6,0,1,2,3,4],[0,1,2,3,4,5,6,7,8],[9,6,8,0,1,2,3,4,5,6,7,8]]) ⟨[5],[],[],[]⟩)
 (.seq (.reg 47 [.freeze (.cell 0 8),.freeze (.cell 0 9)] [
 qN 237 (qL 11 5),
 qN 238 (qf 8 5),
 qN 239 (ql 1 238),
 qN 240 (.ia 2 (T 239) (qI 0)),
 qN 241 (qf 1 240),
 qN 242 (ql 1 241),
 qN 243 (.bld [(.int .i64 0),(.int .i64 0),(.int .i64 0),(.int .i64 0)] [(0,1,(qI 2)),(1,1,(T 242))]),
 qN 244 (.bls 46 4 (.agg #[(.int .i64 0),(.int .i64 0),(.int .i64 0),(.int .i64 0)]) 1 [(0,(T 243))]),
 qS 11 (T 10) (T 237),
 qV 5 (T 244),
 qV 6 (qI 0)] (some [[],[],[1],[2],[3],[4],[5],[6],[0,0],[7,8,0,1,2,3,4,5,6,7,8],[9,0,1,2,3,4,5,6,7,8,9]]) ⟨[],[],[1000000],[]⟩)
 .ret)))))))
def a24b:ACode :=
 (.seq (qP 0 [
 qN 5 (.box 11 (.v 0)),
 qN 6 (.box 2 (.v 1)),
 qN 9 (.box 4 (.v 4)),
 qN 10 (.allo qZ),
 qV 5 (.c (.slice none 0 0)),
 qV 6 (qI 0)])
 (.seq (.seq (qP 1 [
 qN 22 (qL 11 5),
 qN 23 (qL 2 6),
 qN 24 (qm 2),
 qN 25 (.call 20 [(T 22),(T 23),(T 24)]),
 qN 26 (.un .not (T 25))])
 (.cond (T 26)
 (.seq (qP 2 [
 qN 27 (.bld qZ []),
 qS 11 (T 10) (T 27),
 qV 5 (.c (.slice none 0 0)),
 qV 6 (qI 2)])
 .ret)
 .skip))
 (.seq (.seq (qP 3 [
 qN 28 (qL 2 6),
 qN 29 (qm 3),
 qN 30 (.call 45 [(T 28),(T 29)]),
 qN 31 (.un .not (T 30)),
 qN 32 (qt 31),
 qG 33 32 false (qf 0 9),
 qG 34 32 false (ql 1 33),
 qG 35 32 false (.call 53 [(T 34)]),
 qG 36 32 false (.un .not (T 35)),
 qN 37 (qo 32 36),
 qN 38 (qt 37),
 qG 39 38 false (qf 0 9),
 qG 40 38 false (ql 1 39),
 qG 41 38 false (qi .eql 40 1),
 qG 42 38 false (qt 41),
 qG 43 42 true (qL 2 6),
 qG 44 42 true (qf 2 9),
 qG 45 42 true (qL 2 44),
 qG 46 42 true (.call 46 [(T 43),(T 45)]),
 qG 47 42 true (.un .not (T 46)),
 qG 48 42 true (qt 47),
 qG 49 48 false (qf 2 9),
 qG 50 48 false (qf 1 49),
 qG 51 48 false (ql 1 50),
 qG 52 48 false (qm 3),
 qG 53 48 false (qb .neq 51 52),
 qG 54 42 true (qo 48 53),
 qG 55 38 false (qa 42 54),
 qN 56 (qo 38 55),
 qN 57 (qt 56),
 qG 58 57 false (qf 0 9),
 qG 59 57 false (ql 1 58),
 qG 60 57 false (qi .neq 59 1),
 qG 61 57 false (qt 60),
 qG 62 61 true (qf 2 9),
 qG 63 61 true (qL 2 62),
 qG 64 61 true (.bld [(.int .i64 0),(.int .i64 0)] []),
 qG 65 61 true (.ex (.eqA true [.int,.int]) (T 63) (T 64)),
 qG 66 57 false (qa 61 65),
 qN 67 (qo 57 66)])
 (.cond (T 67)
 (.seq (qP 4 [
 qN 68 (.bld qZ []),
 qS 11 (T 10) (T 68),
 qV 5 (.c (.slice none 0 0)),
 qV 6 (qI 1)])
 .ret)
 .skip))
 (.seq (qP 5 [
 qN 69 (qL 11 5),
 qN 70 (.call 37 [(T 69)]),
 qS 11 (T 5) (T 70)])
 (.seq (qP 6 [
 qN 71 (qm 3),
 qN 72 (.bin .shl (qI 1) (T 71)),
 qV 7 (T 72)])
 a24t)))))
theorem c24b:ze_ Try.prog 24 F24=some (5,zh_ a24b,[.c 10 11 true,.v 5,.v 6])/\z9_ a24b=true:=⟨by kernel_rfl,by kernel_rfl⟩
def reI(l:List Sg)(x:Sg)(m:Nat)(S:St):Prop:=∃i:Nat,i+m=posQ x l/\S=⟨tmL [(3,.ptr 0 0)],[.list 2 (sl l),x.v,.s (.slice none 0 0),.s (.int .i64 i),.no],[[.s (.int .i64 x.t),.s (.int .i64 x.s)]],0⟩
theorem x9_(l:List Sg)(x:Sg)(hl:l.length<=1000):PC Try.prog 56 [.list 2 (sl l),x.v] (fun r=>r=.list 2 (sl (insS l (posQ x l) x))):=by
 have hpl:=vO_ x l
 refine y9_ (q:=fun r=>frT r (.list 2 (sl (insS l (posQ x l) x)))) ?_ fun r hr _=>⟨_,hr,rfl,rfl⟩
 refine zn_ c56 zp_ rfl ?_
 simp -implicitDefEqProofs [a56,F56,Sg.v]
 refine zi_ [3] [] 1 (by simp) (reI l x) (posQ x l) ⟨by simp,0,by simp,by simp[Sg.v]⟩ ?_
 rintro m S ⟨i,hi,rfl⟩
 by_cases hm:i<posQ x l
 .obtain⟨hil,hc⟩:=re_ x l i hm
  have g1:(i:Int)<(l.length:Int):=by omega
  have g0:¬(i:Int)<0:=by omega
  have hw:IntKind.i64.wrap ((i:Int)+1)=(i:Int)+1:=wrap64 (by omega)
  have kC:=v0_ l[i] x
  simp[g1,g0,yI_ hil,Sg.v]
  refine zB_ ?_
  simp
  refine y8_ kC (by simp[Sg.v]) (by simp[Sg.v]) ?_
  simp[hc,hw]
  exact⟨m-1,by omega,i+1,by omega,by simp[Sg.v]⟩
 .obtain rfl:i=posQ x l:=by omega
  have g0:¬(posQ x l:Int)<0:=by omega
  have gl:posQ x l<=l.length:=hpl
  have hmin:min (posQ x l) l.length=posQ x l:=by omega
  have b1:posQ x l<=maxLen/\posQ x l*16<=z5_:=by simp[maxLen,z5_];omega
  have b2:posQ x l+1<=maxLen/\(posQ x l+1)*16<=z5_:=by simp[maxLen,z5_];omega
  have b3:posQ x l+1+(l.length-posQ x l)<=maxLen/\(posQ x l+1+(l.length-posQ x l))*16<=z5_:=by simp[maxLen,z5_];omega
  have hE:sl (insS l (posQ x l) x)=(sl l).take (posQ x l)++x.v::(sl l).drop (posQ x l):=by simp[sl,insS,List.map_take,List.map_drop]
  by_cases hq:posQ x l<l.length
  .have h1:=t8_ x l hq
   have q1:(posQ x l:Int)<l.length:=by omega
   have k1:=v0_ l[posQ x l] x
   simp[q1,hq,g0,k8_,Sg.v]
   refine zB_ ?_
   simp
   refine y8_ k1 (by simp[Sg.v]) (by simp[Sg.v]) ?_
   simp[h1,gl,hmin,b1,b2,b3,g0]
   simp[hE,frT,frA,frL,immC,Sg.v]
   exact zzx_ (by simp)
  .have q1:¬(posQ x l:Int)<l.length:=by omega
   simp[q1,hq,g0,Sg.v,gl,hmin,b1,b2,b3]
   simp[hE,frT,frA,frL,immC,Sg.v]
   exact zzx_ (by simp)
theorem q2_(b:Bl)(set:Int)(hb:b.sm):PC Try.prog 55 [b.v,.s (.int .i64 set)] (fun r=>r=.tup [(b.gave set).v,.list 4 (vl (evU set 5 ⟨0,0⟩ 9))]):=by
 have k:=rs_ set 5 ⟨0,0⟩
 refine y9_ (q:=fun r=>frT r (.tup [(b.gave set).v,.list 4 (vl (evU set 5 ⟨0,0⟩ 9))])) ?_ fun r hr _=>⟨_,hr,rfl,rfl⟩
 refine zn_ c55b zp_ rfl ?_
 simp -implicitDefEqProofs [a55b,F55,Bl.v,Bl.cs,↓z4_,↓zb_,↓z2_]
 refine zB_ ?_
 simp
 refine y8_ k (by simp[Sg.v]) (by simp[Sg.v]) ?_
 simp[Bl.gave,Bl.v,Bl.cs,frT,frAs,frA,frLs,frL,immC]
theorem km_(b:Bl)(x:Sg)(hg:b.given.length<=1000)(hq:b.queue.length<=1000):PC Try.prog 54 [b.v,x.v] (fun r=>r=.tup [(askS b x).v,.list 4 (vl (askM b x))]):=by
 refine y9_ (q:=fun r=>frT r (.tup [(askS b x).v,.list 4 (vl (askM b x))])) ?_ fun r hr _=>⟨_,hr,rfl,rfl⟩
 obtain⟨tm,qu,vo,fa,iq,st,us,gv,qq,ak⟩:=b
 simp only at hg hq
 refine zn_ c54b zp_ rfl ?_
 have bb:(1:Nat)<=maxLen/\1*32<=z5_/\1*16<=z5_/\2<=maxLen/\2*32<=z5_:=by simp[maxLen,z5_]
 cases gv with
 | nil =>
   simp -implicitDefEqProofs [a54b,F54,Bl.v,Bl.cs,Sg.v,sl,bb]
   refine zx_ 4 5 (by decide +kernel) ?_ ?_
   .refine zl_ [0,1,2,3,4,5,6] ⟨[],[],[],[]⟩ (by decide +kernel) (by decide +kernel) ?_
    simp[zS_,askS,askM,Bl.v,Bl.cs,Sg.v,sl,vl,Vt.v,frT,frAs,frA,frLs,frL,immC,bb]
   .refine zx_ 3 5 (by decide +kernel) ?_ ?_
    .refine zl_ [0,1,2,3,5,4,6] ⟨[],[],[],[]⟩ (by decide +kernel) (by decide +kernel) ?_
     simp[zS_,askS,askM,Bl.v,Bl.cs,Sg.v,sl,vl,Vt.v,frT,frAs,frA,frLs,frL,immC,bb]
    .refine zx_ 2 5 (by decide +kernel) ?_ ?_
     .refine zl_ [0,1,2,5,3,4,6] ⟨[],[],[],[]⟩ (by decide +kernel) (by decide +kernel) ?_
      simp[zS_,askS,askM,Bl.v,Bl.cs,Sg.v,sl,vl,Vt.v,frT,frAs,frA,frLs,frL,immC,bb]
     .refine zl_ [0,1,5,2,3,4,6] ⟨[],[1],[],[]⟩ (by decide +kernel) (by decide +kernel) ?_
      simp[zS_,askS,askM,Bl.v,Bl.cs,Sg.v,sl,vl,Vt.v,frT,frAs,frA,frLs,frL,immC,bb]
 | cons g gr =>
   have hlg:((gr.length:Int)+1==0)=false:=by simp;omega
   have k1:=v0_ x g
   cases qq with
   | nil =>
     simp -implicitDefEqProofs [a54b,F54,Bl.v,Bl.cs,Sg.v,sl,hlg,bb]
     refine zB_ ?_
     simp
     refine y8_ k1 (by simp[Sg.v]<;>rfl) (by simp[Sg.v]<;>rfl) ?_
     by_cases c1:cmpS x g<0
     case neg =>
      simp[c1,bb]
      refine z1_ ?_
      simp
      refine zc_ (x9_ [] x hq) (by simp[Sg.v]<;>rfl) (by simp[Sg.v]<;>rfl) ?_
      rintro _ rfl
      simp[c1,askS,askM,Bl.enq,Bl.v,Bl.cs,Sg.v,sl,vl,Vt.v,frT,frAs,frA,frLs,frL,immC,bb]
     simp[c1]
     cases ak
     case false =>
      simp[c1,bb]
      refine z1_ ?_
      simp
      refine zc_ (x9_ [] x hq) (by simp[Sg.v]<;>rfl) (by simp[Sg.v]<;>rfl) ?_
      rintro _ rfl
      simp[c1,askS,askM,Bl.enq,Bl.v,Bl.cs,Sg.v,sl,vl,Vt.v,frT,frAs,frA,frLs,frL,immC,bb]
     case true =>
      simp[c1,bb]
      refine z1_ ?_
      simp
      refine zc_ (x9_ [] x hq) (by simp[Sg.v]<;>rfl) (by simp[Sg.v]<;>rfl) ?_
      rintro _ rfl
      simp[c1,askS,askM,Bl.enq,Bl.v,Bl.cs,Sg.v,sl,vl,Vt.v,frT,frAs,frA,frLs,frL,immC,bb]
   | cons y r =>
     have hlq:((r.length:Int)+1==0)=false:=by simp;omega
     simp -implicitDefEqProofs [a54b,F54,Bl.v,Bl.cs,Sg.v,sl,hlg,bb]
     refine zB_ ?_
     simp
     refine y8_ k1 (by simp[Sg.v]<;>rfl) (by simp[Sg.v]<;>rfl) ?_
     by_cases c1:cmpS x g<0
     case neg =>
      simp[c1,bb]
      refine z1_ ?_
      simp
      refine zc_ (x9_ (y::r) x hq) (by simp[Sg.v]<;>rfl) (by simp[Sg.v]<;>rfl) ?_
      rintro _ rfl
      simp[c1,askS,askM,Bl.enq,Bl.v,Bl.cs,Sg.v,sl,vl,Vt.v,frT,frAs,frA,frLs,frL,immC,bb]
     simp[c1,hlq]
     refine zB_ ?_
     simp
     refine y8_ (v0_ x y) (by simp[Sg.v]<;>rfl) (by simp[Sg.v]<;>rfl) ?_
     by_cases c2:cmpS x y<0
     case neg =>
      simp[c2,bb]
      refine z1_ ?_
      simp
      refine zc_ (x9_ (y::r) x hq) (by simp[Sg.v]<;>rfl) (by simp[Sg.v]<;>rfl) ?_
      rintro _ rfl
      simp[c1,c2,askS,askM,Bl.enq,Bl.v,Bl.cs,Sg.v,sl,vl,Vt.v,frT,frAs,frA,frLs,frL,immC,bb]
     simp[c2,hlq]
     refine zB_ ?_
     simp
     refine y8_ (v0_ y g) (by simp[Sg.v]<;>rfl) (by simp[Sg.v]<;>rfl) ?_
     by_cases c3:cmpS y g<0
     case pos =>
      simp[c3,bb]
      cases ak
      case false =>
       simp[c1,c2,c3,bb]
       refine z1_ ?_
       simp
       refine zc_ (x9_ (y::r) x hq) (by simp[Sg.v]<;>rfl) (by simp[Sg.v]<;>rfl) ?_
       rintro _ rfl
       simp[c1,c2,c3,askS,askM,Bl.enq,Bl.v,Bl.cs,Sg.v,sl,vl,Vt.v,frT,frAs,frA,frLs,frL,immC,bb]
      case true =>
       simp[c1,c2,c3,bb]
       refine z1_ ?_
       simp
       refine zc_ (x9_ (y::r) x hq) (by simp[Sg.v]<;>rfl) (by simp[Sg.v]<;>rfl) ?_
       rintro _ rfl
       simp[c1,c2,c3,askS,askM,Bl.enq,Bl.v,Bl.cs,Sg.v,sl,vl,Vt.v,frT,frAs,frA,frLs,frL,immC,bb]
     case neg =>
      simp[c3,bb]
      cases ak
      case false =>
       simp[c1,c2,c3,bb]
       refine z1_ ?_
       simp
       refine zc_ (x9_ (y::r) x hq) (by simp[Sg.v]<;>rfl) (by simp[Sg.v]<;>rfl) ?_
       rintro _ rfl
       simp[c1,c2,c3,askS,askM,Bl.enq,Bl.v,Bl.cs,Sg.v,sl,vl,Vt.v,frT,frAs,frA,frLs,frL,immC,bb]
      case true =>
       simp[c1,c2,c3,bb]
       refine z1_ ?_
       simp
       refine zc_ (x9_ (y::r) x hq) (by simp[Sg.v]<;>rfl) (by simp[Sg.v]<;>rfl) ?_
       rintro _ rfl
       simp[c1,c2,c3,askS,askM,Bl.enq,Bl.v,Bl.cs,Sg.v,sl,vl,Vt.v,frT,frAs,frA,frLs,frL,immC,bb]
section
structure MidH(b:Bl)(n:Int)(q:List Int)(site from':Int)(m:Vt)(S:St):Prop where
 t5:S.tm 5=.ptr 0 0
 t6:S.tm 6=.ptr 1 0
 t9:S.tm 9=.ptr 2 0
 t10:S.tm 10=.ptr 3 0
 tz:∀t,75<=t->S.tm t=.no
 vs:S.vs=[b.v,cP n q,.s (.int .i64 site),.s (.int .i64 from'),m.v,.s (.slice none 0 0),.s (.int .i64 0),.s (.int .i64 ((2^from'.toNat:Nat):Int)),.no,.no,.no,.no,.no,.no,.no,.no,.no]
 bx:S.bx=[b.cs,vC n q,[.s (.int .i64 m.k),.s (.int .i64 m.to),.s (.int .i64 m.st),.s (.int .i64 m.ss)],zB]
def EndH(R:V):AX->St->Prop:=endP [RV.c 10 11 true,RV.v 5,RV.v 6] fun r=>frT r R
section
variable{b:Bl}{n:Int}{q:List Int}{site from':Int}{to st ss:Int}
theorem ti_(op:BinOp)(x y:Int):i64 (bits op .i64 x y):=by
 unfold bits
 simp only
 rw[yye_]
 unfold i64
 omega
theorem ui_{x:Int}(h:i64 x):IntKind.i64.wrap ((BitVec.ofInt 64 x).toNat:Int)=x:=by
 unfold i64 at h
 rw[BitVec.toNat_ofInt,yye_]
 omega
theorem qF_{x:Int}(h:i64 x):bits .andNot .i64 x 0=x:=by
 have e:BitVec.ofInt 64 x&&&~~~BitVec.ofInt 64 0=BitVec.ofInt 64 x:=by
  rw[show BitVec.ofInt 64 0=0#64 from rfl,show ~~~(0#64)=BitVec.allOnes 64 from rfl,BitVec.and_allOnes]
 show IntKind.i64.wrap ((BitVec.ofInt 64 x&&&~~~BitVec.ofInt 64 0).toNat:Int)=x
 rw[e,ui_ h]
theorem or_0{x:Int}(h:i64 x):bits .or .i64 x 0=x:=by
 have e:BitVec.ofInt 64 x|||BitVec.ofInt 64 0=BitVec.ofInt 64 x:=by
  rw[show BitVec.ofInt 64 0=0#64 from rfl,BitVec.or_zero]
 show IntKind.i64.wrap ((BitVec.ofInt 64 x|||BitVec.ofInt 64 0).toNat:Int)=x
 rw[e,ui_ h]
theorem my_{b:Bl}(h:b.wd):b.gave 0=b:=by
 unfold Bl.gave
 rw[qF_ h.v,or_0 h.f,qF_ h.i]
theorem mbU0:mbU 0 9=[]:=by
 have:=td_ (s:=0) (n:=9) (by omega) (by omega)
 rw[show ((0:Nat):Int)=0 from rfl]at this
 rw[this];rfl
theorem jP_(hw:b.wd)(hb:b.sm)(S:St)(hS:MidH b n q site from' ⟨2,to,st,ss⟩ S)(R:V)
 (hR:R=if (ansR b ((2^from'.toNat:Nat):Int) 2).1≠0 then errR (ansR b ((2^from'.toNat:Nat):Int) 2).1 else okR ((ansR b ((2^from'.toNat:Nat):Int) 2).2.1.gave (ansR b ((2^from'.toNat:Nat):Int) 2).2.2) (yldO (mbU (ansR b ((2^from'.toNat:Nat):Int) 2).2.2 9))) :
 W Try.prog F24 0 a24t S (EndH R):=by
 obtain⟨tm,vs,bx,ep⟩:=S
 obtain⟨t5,t6,t9,t10,tz,rfl,rfl⟩:=hS
 simp only at t5 t6 t9 t10 tz
 have z135:=tz 135 (by omega)
 generalize ((2^from'.toNat:Nat):Int)=bit at hR ⊢
 unfold EndH
 cases e1:(bits .and .i64 b.qu bit==0)
 case' true =>
  have e1':bits .and .i64 b.qu bit=0:=by simpa using e1
  have:R=errR 14:=by rw[hR];simp[ansR,e1']
  simp -implicitDefEqProofs [a24t,t5,t9,t10,z135,Bl.cs,zB,↓z4_,e1,this,errR,noB,Bl.v,frT,frAs,frA,frLs,frL,immC]
 have e1':¬bits .and .i64 b.qu bit=0:=by simpa using e1
 cases e2:(bits .and .i64 b.votes bit != 0)
 case' true =>
  have e2':bits .and .i64 b.votes bit≠0:=by simpa using e2
  have:R=errR 14:=by rw[hR];simp[ansR,e2']
  simp -implicitDefEqProofs [a24t,t5,t9,t10,z135,Bl.cs,zB,↓z4_,e1,e2,this,errR,noB,Bl.v,frT,frAs,frA,frLs,frL,immC]
 have e2':bits .and .i64 b.votes bit=0:=by simpa using e2
 have hw2:i64 (bits .or .i64 b.votes bit):=ti_ ..
 have hw3:i64 (bits .andNot .i64 b.fail bit):=ti_ ..
 cases e3:(bits .or .i64 b.votes bit==b.qu)
 .have e3':¬bits .or .i64 b.votes bit=b.qu:=by simpa using e3
  have:R=okR { b with votes:=bits .or .i64 b.votes bit,fail:=bits .andNot .i64 b.fail bit } []:=by
   have hg:=my_ (b:={ b with votes:=bits .or .i64 b.votes bit,fail:=bits .andNot .i64 b.fail bit }) ⟨hw2,hw3,hw.i⟩
   rw[hR];simp[ansR,e1',e2',e3',yldO,mbU0,hg]
  simp -implicitDefEqProofs [a24t,t5,t9,t10,z135,Bl.cs,zB,↓z4_,↓zb_,↓z2_,e1,e2,e3,this,okR,Bl.v,frT,frAs,frA,frLs,frL,immC]
 .have e3':bits .or .i64 b.votes bit=b.qu:=by simpa using e3
  have:R=okR { b with votes:=bits .or .i64 b.votes bit,fail:=bits .andNot .i64 b.fail bit,using':=true,inqd:=0 } []:=by
   have hg:=my_ (b:={ b with votes:=bits .or .i64 b.votes bit,fail:=bits .andNot .i64 b.fail bit,using':=true,inqd:=0 }) ⟨hw2,hw3,by unfold i64;simp⟩
   rw[e3']at hg
   rw[hR];simp[ansR,e1',e2',e3',yldO,mbU0,hg]
  simp -implicitDefEqProofs [a24t,t5,t9,t10,z135,Bl.cs,zB,↓z4_,↓zb_,↓z2_,e1,e2,e3,this,okR,Bl.v,frT,frAs,frA,frLs,frL,immC]
end
end
section
section
variable{b:Bl}{n:Int}{q:List Int}{site from':Int}{to st ss:Int}
theorem ly_{s:Int}(h:0<=s/\s<512):evU s 5 ⟨0,0⟩ 9=yldO (mbU s 9):=j3_ h
noncomputable def ansV(b:Bl)(bit k:Int):V:=if (ansR b bit k).1≠0 then errR (ansR b bit k).1 else okR ((ansR b bit k).2.1.gave (ansR b bit k).2.2) (yldO (mbU (ansR b bit k).2.2 9))
theorem jS_(hb:b.sm)(hiq:0<=b.inqd/\b.inqd<512)(S:St)(hS:MidH b n q site from' ⟨3,to,st,ss⟩ S):W Try.prog F24 0 a24t S (EndH (ansV b ((2^from'.toNat:Nat):Int) 3)):=by
 obtain⟨tm,vs,bx,ep⟩:=S
 obtain⟨t5,t6,t9,t10,tz,rfl,rfl⟩:=hS
 simp only at t5 t6 t9 t10 tz
 have z1:=tz 157 (by omega)
 have z2:=tz 163 (by omega)
 generalize ((2^from'.toNat:Nat):Int)=bit
 unfold EndH
 cases e1:(bits .and .i64 b.qu bit==0)
 case' true =>
  have e1':bits .and .i64 b.qu bit=0:=by simpa using e1
  have hR:ansV b bit 3=errR 14:=by simp[ansV,ansR,e1']
  rw[hR]
  simp -implicitDefEqProofs [a24t,t5,t9,t10,Bl.cs,zB,↓z4_,e1,errR,noB,Bl.v,frT,frAs,frA,frLs,frL,immC]
 have e1':¬bits .and .i64 b.qu bit=0:=by simpa using e1
 cases e2:(bits .and .i64 b.votes bit != 0)
 case' true =>
  have e2':bits .and .i64 b.votes bit≠0:=by simpa using e2
  have hR:ansV b bit 3=errR 14:=by simp[ansV,ansR,e2']
  rw[hR]
  simp -implicitDefEqProofs [a24t,t5,t9,t10,Bl.cs,zB,↓z4_,e1,e2,errR,noB,Bl.v,frT,frAs,frA,frLs,frL,immC]
 have e2':bits .and .i64 b.votes bit=0:=by simpa using e2
 obtain⟨b1,hb1⟩:∃b1:Bl,b1={ b with fail:=bits .or .i64 b.fail bit }:=⟨_,rfl⟩
 have hR:ansV b bit 3=okR (b1.gave b.inqd) (yldO (mbU b.inqd 9)):=by simp[ansV,ansR,e1',e2',hb1]
 rw[hR]
 have k:=q2_ b1 b.inqd (by rw[hb1];exact hb)
 rw[ly_ hiq]at k
 simp -implicitDefEqProofs [a24t,t5,t9,t10,z1,Bl.cs,zB,↓z4_,↓zb_,e1,e2]
 refine z1_ ?_
 simp
 refine zc_ k (by simp[hb1,Bl.v,Bl.cs]) (by simp[hb1,Bl.v,Bl.cs]) ?_
 rintro _ rfl
 simp[z2,t5,t10,okR,Bl.v,Bl.cs,frT,frAs,frA,frLs,frL,immC,hb1]
theorem jR_(hw:b.wd)(hb:b.sm)(hbit:0<=((2^from'.toNat:Nat):Int)/\((2^from'.toNat:Nat):Int)<512)(S:St)(hS:MidH b n q site from' ⟨4,to,st,ss⟩ S):W Try.prog F24 0 a24t S (EndH (ansV b ((2^from'.toNat:Nat):Int) 4)):=by
 obtain⟨tm,vs,bx,ep⟩:=S
 obtain⟨t5,t6,t9,t10,tz,rfl,rfl⟩:=hS
 simp only at t5 t6 t9 t10 tz
 have z1:=tz 177 (by omega)
 have z2:=tz 187 (by omega)
 have z3:=tz 189 (by omega)
 have z4:=tz 194 (by omega)
 generalize ((2^from'.toNat:Nat):Int)=bit at hbit ⊢
 unfold EndH
 have hg0:=my_ hw
 cases e1:(bits .and .i64 b.votes bit==0)
 case' true =>
  have e1':bits .and .i64 b.votes bit=0:=by simpa using e1
  have hR:ansV b bit 4=okR b []:=by simp[ansV,ansR,e1',hg0,yldO,mbU0]
  rw[hR]
  simp -implicitDefEqProofs [a24t,t5,t9,t10,z1,Bl.cs,zB,↓z4_,e1,okR,Bl.v,frT,frAs,frA,frLs,frL,immC]
 have e1':¬bits .and .i64 b.votes bit=0:=by simpa using e1
 cases e2:b.using'
 case' true =>
  have hR:ansV b bit 4=okR b []:=by simp[ansV,ansR,e2,hg0,yldO,mbU0]
  rw[hR]
  simp -implicitDefEqProofs [a24t,t5,t9,t10,z1,Bl.cs,zB,↓z4_,e1,e2,okR,Bl.v,frT,frAs,frA,frLs,frL,immC]
 cases e3:(b.fail==0)
 case' true =>
  have e3':b.fail=0:=by simpa using e3
  have hg:=my_ (b:={ b with inqd:=bits .or .i64 b.inqd bit }) ⟨hw.v,hw.f,(ti_ .or b.inqd bit:i64 (bits .or .i64 b.inqd bit))⟩
  have hR:ansV b bit 4=okR { b with inqd:=bits .or .i64 b.inqd bit } []:=by
   rw[e2,e3']at hg
   simp[ansV,ansR,e1',e2,e3',hg,yldO,mbU0]
  rw[hR]
  simp -implicitDefEqProofs [a24t,t5,t9,t10,z2,Bl.cs,zB,↓z4_,↓zb_,e1,e2,e3,okR,Bl.v,frT,frAs,frA,frLs,frL,immC]
 have e3':¬b.fail=0:=by simpa using e3
 have hR:ansV b bit 4=okR (b.gave bit) (yldO (mbU bit 9)):=by simp[ansV,ansR,e1',e2,e3']
 rw[hR]
 have k:=q2_ b bit hb
 rw[ly_ hbit]at k
 simp -implicitDefEqProofs [a24t,t5,t9,t10,z3,Bl.cs,zB,↓z4_,↓zb_,e1,e2,e3]
 refine z1_ ?_
 simp
 refine zc_ k (by simp[Bl.v,Bl.cs,e2]) (by simp[Bl.v,Bl.cs,e2]) ?_
 rintro _ rfl
 simp[z4,t5,t10,okR,Bl.gave,Bl.v,Bl.cs,frT,frAs,frA,frLs,frL,immC,e2]
def rhI(b:Bl)(n:Int)(q:List Int)(site from':Int)(m:Vt)(L:List Sg)(k:Nat)(S:St):Prop:=∃i:Nat,i+k=L.length/\(∀(c:Nat) (h:c<L.length),c<i->L[c].s≠from') /\
 S = ⟨tmL [(5, .ptr 0 0), (9, .ptr 2 0), (10, .ptr 3 0), (82, .list 2 (sl L)), (83, .s (.int .i64 L.length)), (84, .s (.int .i64 i))], [b.v, cP n q, .s (.int .i64 site), .s (.int .i64 from'), m.v, .s (.slice none 0 0), .s (.int .i64 0), .s (.int .i64 ((2 ^ from'.toNat : Nat) : Int)), .no, .no, .no, .no, .no, .no, .no, .no, .no],
   [b.cs,vC n q,[.s (.int .i64 m.k),.s (.int .i64 m.to),.s (.int .i64 m.st),.s (.int .i64 m.ss)],zB],0⟩
theorem jT_(hg:b.given.length<=1000)(hqq:b.queue.length<=1000)(hfs:ss=from')(S:St)(hS:MidH b n q site from' ⟨1,to,st,ss⟩ S):W Try.prog F24 0 a24t S (EndH (if askE b ⟨st,ss⟩ then errR 11 else okR (askS b ⟨st,ss⟩) (askM b ⟨st,ss⟩))):=by
 obtain⟨tm,vs,bx,ep⟩:=S
 obtain⟨t5,t6,t9,t10,tz,rfl,rfl⟩:=hS
 simp only at t5 t6 t9 t10 tz
 unfold EndH
 obtain⟨L,hL⟩:∃L,b.given++b.queue=L:=⟨_,rfl⟩
 have hLl:L.length=b.given.length+b.queue.length:=by rw[<-hL,zzr_]
 have hsl:sl b.given++sl b.queue=sl L:=by rw[<-hL];simp[sl]
 have b1:b.given.length<=maxLen/\b.given.length*16<=z5_:=by simp[maxLen,z5_];omega
 have b2:b.given.length+b.queue.length<=maxLen/\(b.given.length+b.queue.length)*16<=z5_:=by simp[maxLen,z5_];omega
 have hE:askE b ⟨st,ss⟩=L.any fun y=>y.s==ss:=by rw[<-hL,List.any_append];rfl
 simp -implicitDefEqProofs [a24t,t5,t9,t10,Bl.v,Bl.cs,cP,vC,Vt.v,zB,b1,b2,hsl]
 refine zi_ [5,9,10,82,83,84] [8] 4 (by simp) (rhI b n q site from' ⟨1,to,st,ss⟩ L) L.length ⟨by simp[t5,t9,t10],0,by simp,fun c h hc=>by omega,by simp[t5,t9,t10,Bl.v,Bl.cs,cP,vC,Vt.v,zB]⟩ ?_
 clear t5 t6 t9 t10 tz
 rintro k S ⟨i,hi,hne,rfl⟩
 by_cases hm:i<L.length
 .have g1:(i:Int)<(L.length:Int):=by omega
  have g0:¬(i:Int)<0:=by omega
  have hwi:IntKind.i64.wrap ((i:Int)+1)=(i:Int)+1:=wrap64 (by omega)
  cases he:(L[i].s==from')
  case' true =>
   have:askE b ⟨st,ss⟩=true:=by
    rw[hE,List.any_eq_true]
    exact⟨L[i],yyp_ hm,by rw[hfs];exact he⟩
   simp[g1,g0,yI_ hm,Sg.v,Bl.cs,zB,vC,he,this,errR,noB,Bl.v,frT,frAs,frA,frLs,frL,immC]
  simp[g1,g0,yI_ hm,Sg.v,Bl.v,Bl.cs,cP,Vt.v,zB,vC,he,hwi]
  refine⟨k-1,by omega,i+1,by omega,fun c h hc=>?_,by simp[Bl.v,Bl.cs,cP,Vt.v,zB,vC]⟩
  by_cases hci:c=i
  .subst hci;simpa using he
  .exact hne c h (by omega)
 .have g1:¬(i:Int)<(L.length:Int):=by omega
  have:askE b ⟨st,ss⟩=false:=by
   rw[hE,List.any_eq_false]
   intro y hy
   obtain⟨c,hc,rfl⟩:=List.getElem_of_mem hy
   have:=hne c hc (by omega)
   simpa[hfs] using this
  have k1:=km_ b ⟨st,ss⟩ hg hqq
  simp[g1,Bl.v,Bl.cs,cP,Vt.v,zB,vC,this]
  refine z1_ ?_
  simp
  refine zc_ k1 (by simp[Bl.v,Bl.cs,Sg.v]) (by simp[Bl.v,Bl.cs,Sg.v]) ?_
  rintro _ rfl
  simp[okR,Bl.v,Bl.cs,frT,frAs,frA,frLs,frL,immC,zB]
end
end
section
section
variable{b:Bl}{n:Int}{q:List Int}{site from':Int}{to st ss:Int}
noncomputable def yM_(b:Bl)(from':Int)(again:Bool):V:=if yZ_ b from' then errR 14 else okR (zY_ b again).next (yk_ (zY_ b again).queue)
theorem jQ_(hg:b.given.length<=1000)(hqq:b.queue.length<=1000)(S:St)(hS:MidH b n q site from' ⟨6,to,st,ss⟩ S):W Try.prog F24 0 a24t S (EndH (yM_ b from' false)):=by
 obtain⟨tm,vs,bx,ep⟩:=S
 obtain⟨t5,t6,t9,t10,tz,rfl,rfl⟩:=hS
 simp only at t5 t6 t9 t10 tz
 have z218:=tz 218 (by omega)
 have z227:=tz 227 (by omega)
 have z237:=tz 237 (by omega)
 unfold EndH
 obtain⟨tmm,qu,vo,fa,iq,sta,us,gv,qq,ak⟩:=b
 simp only at hg hqq
 cases gv with
 | nil =>
   have hR:yM_ ⟨tmm,qu,vo,fa,iq,sta,us,[],qq,ak⟩ from' false=errR 14:=by simp[yM_,yZ_]
   rw[hR]
   simp -implicitDefEqProofs [a24t,t5,t9,t10,Bl.v,Bl.cs,zB,sl,errR,noB,frT,frAs,frA,frLs,frL,immC]
 | cons g gr =>
   have hlg:((gr.length:Int)+1==0)=false:=by simp;omega
   cases he:(g.s != from')
   case true =>
    have hR:yM_ ⟨tmm,qu,vo,fa,iq,sta,us,g::gr,qq,ak⟩ from' false=errR 14:=by simp[yM_,yZ_,he]
    rw[hR]
    simp -implicitDefEqProofs [a24t,t5,t9,t10,Bl.v,Bl.cs,zB,sl,Sg.v,hlg,he,errR,noB,frT,frAs,frA,frLs,frL,immC]
   case false =>
    obtain⟨Q,hQ⟩:∃Q,Q=qq:=⟨_,rfl⟩
    have hR:yM_ ⟨tmm,qu,vo,fa,iq,sta,us,g::gr,qq,ak⟩ from' false=okR (⟨tmm,qu,vo,fa,iq,sta,us,g::gr,Q,ak⟩:Bl).next (yk_ Q):=by simp[yM_,yZ_,he,zY_,hQ]
    rw[hR]
    rw[<-hQ]at hqq ⊢
    clear hR hQ
    simp -implicitDefEqProofs [a24t,t5,t9,t10,Bl.v,Bl.cs,zB,hlg,he,Sg.v,sl_length,show sl (g::gr)=g.v::sl gr from rfl]
    cases Q with
    | nil =>
      simp[z227,t5,t9,t10,okR,Bl.v,Bl.cs,frT,frAs,frA,frLs,frL,immC,zB,sl,Sg.v,vl,Vt.v,Bl.next,yk_]
    | cons y r =>
      have hlr:((r.length:Int)+1==0)=false:=by simp;omega
      have b1:r.length<=maxLen/\r.length*16<=z5_:=by simp[maxLen,z5_];simp at hqq;omega
      simp[t5,t9,t10,hlr,b1,show sl (y::r)=y.v::sl r from rfl,Sg.v]
      have htk:List.take r.length (sl r)=sl r:=zzx_ (by simp)
      have bb:(1:Nat)<=maxLen/\1*32<=z5_:=by simp[maxLen,z5_]
      refine zx_ 7 8 (by decide +kernel) ?_ ?_
      .refine zl_ [0,1,2,3,4,5,6,7,8,9,10] ⟨[5],[],[],[]⟩ (by decide +kernel) (by decide +kernel) ?_
       simp[zS_,htk,z237,t5,t9,t10,okR,Bl.v,Bl.cs,frT,frAs,frA,frLs,frL,immC,zB,Sg.v,vl,Vt.v,Bl.next,yk_,bb,show sl (y::r)=y.v::sl r from rfl,show sl [y]=[y.v] from rfl]
      .refine zx_ 6 8 (by decide +kernel) ?_ ?_
       .refine zl_ [0,1,2,3,4,5,6,8,7,9,10] ⟨[5],[],[],[]⟩ (by decide +kernel) (by decide +kernel) ?_
        simp[zS_,htk,z237,t5,t9,t10,okR,Bl.v,Bl.cs,frT,frAs,frA,frLs,frL,immC,zB,Sg.v,vl,Vt.v,Bl.next,yk_,bb,show sl (y::r)=y.v::sl r from rfl,show sl [y]=[y.v] from rfl]
       .refine zx_ 2 8 (by decide +kernel) ?_ ?_
        .refine zl_ [0,1,2,8,3,4,5,6,7,9,10] ⟨[5],[4,5,6],[],[]⟩ (by decide +kernel) (by decide +kernel) ?_
         simp[zS_,htk,z237,t5,t9,t10,okR,Bl.v,Bl.cs,frT,frAs,frA,frLs,frL,immC,zB,Sg.v,vl,Vt.v,Bl.next,yk_,bb,show sl (y::r)=y.v::sl r from rfl,show sl [y]=[y.v] from rfl]
        .refine zl_ [0,1,8,2,3,4,5,6,7,9,10] ⟨[5],[1],[],[]⟩ (by decide +kernel) (by decide +kernel) ?_
         simp[zS_,htk,z237,t5,t9,t10,okR,Bl.v,Bl.cs,frT,frAs,frA,frLs,frL,immC,zB,Sg.v,vl,Vt.v,Bl.next,yk_,bb,show sl (y::r)=y.v::sl r from rfl,show sl [y]=[y.v] from rfl]
theorem jO_(hg:b.given.length<=1000)(hqq:b.queue.length<=1000)(S:St)(hS:MidH b n q site from' ⟨5,to,st,ss⟩ S):W Try.prog F24 0 a24t S (EndH (yM_ b from' true)):=by
 obtain⟨tm,vs,bx,ep⟩:=S
 obtain⟨t5,t6,t9,t10,tz,rfl,rfl⟩:=hS
 simp only at t5 t6 t9 t10 tz
 have z218:=tz 218 (by omega)
 have z227:=tz 227 (by omega)
 have z237:=tz 237 (by omega)
 unfold EndH
 obtain⟨tmm,qu,vo,fa,iq,sta,us,gv,qq,ak⟩:=b
 simp only at hg hqq
 cases gv with
 | nil =>
   have hR:yM_ ⟨tmm,qu,vo,fa,iq,sta,us,[],qq,ak⟩ from' true=errR 14:=by simp[yM_,yZ_]
   rw[hR]
   simp -implicitDefEqProofs [a24t,t5,t9,t10,Bl.v,Bl.cs,zB,sl,errR,noB,frT,frAs,frA,frLs,frL,immC]
 | cons g gr =>
   have hlg:((gr.length:Int)+1==0)=false:=by simp;omega
   cases he:(g.s != from')
   case true =>
    have hR:yM_ ⟨tmm,qu,vo,fa,iq,sta,us,g::gr,qq,ak⟩ from' true=errR 14:=by simp[yM_,yZ_,he]
    rw[hR]
    simp -implicitDefEqProofs [a24t,t5,t9,t10,Bl.v,Bl.cs,zB,sl,Sg.v,hlg,he,errR,noB,frT,frAs,frA,frLs,frL,immC]
   case false =>
    have k1:=x9_ qq g hqq
    obtain⟨Q,hQ⟩:∃Q,Q=insS qq (posQ g qq) g:=⟨_,rfl⟩
    have hQl:Q.length<=1001:=by rw[hQ,x6_ (vO_ g qq)];omega
    have hR:yM_ ⟨tmm,qu,vo,fa,iq,sta,us,g::gr,qq,ak⟩ from' true=okR (⟨tmm,qu,vo,fa,iq,sta,us,g::gr,Q,ak⟩:Bl).next (yk_ Q):=by simp[yM_,yZ_,he,zY_,hQ,Bl.enq]
    rw[hR]
    rw[<-hQ]at k1
    clear hR hQ
    simp -implicitDefEqProofs [a24t,t5,t9,t10,z218,Bl.v,Bl.cs,zB,hlg,he,Sg.v,sl_length,show sl (g::gr)=g.v::sl gr from rfl]
    refine zB_ ?_
    simp
    refine y8_ k1 (by simp[Sg.v]<;>rfl) (by simp[Sg.v]<;>rfl) ?_
    simp[t5,t9,t10]
    cases Q with
    | nil =>
      simp[z227,t5,t9,t10,okR,Bl.v,Bl.cs,frT,frAs,frA,frLs,frL,immC,zB,sl,Sg.v,vl,Vt.v,Bl.next,yk_]
    | cons y r =>
      have hlr:((r.length:Int)+1==0)=false:=by simp;omega
      have b1:r.length<=maxLen/\r.length*16<=z5_:=by simp[maxLen,z5_];simp at hQl;omega
      simp[t5,t9,t10,hlr,b1,show sl (y::r)=y.v::sl r from rfl,Sg.v]
      have htk:List.take r.length (sl r)=sl r:=zzx_ (by simp)
      have bb:(1:Nat)<=maxLen/\1*32<=z5_:=by simp[maxLen,z5_]
      refine zx_ 7 8 (by decide +kernel) ?_ ?_
      .refine zl_ [0,1,2,3,4,5,6,7,8,9,10] ⟨[5],[],[],[]⟩ (by decide +kernel) (by decide +kernel) ?_
       simp[zS_,htk,z237,t5,t9,t10,okR,Bl.v,Bl.cs,frT,frAs,frA,frLs,frL,immC,zB,Sg.v,vl,Vt.v,Bl.next,yk_,bb,show sl (y::r)=y.v::sl r from rfl,show sl [y]=[y.v] from rfl]
      .refine zx_ 6 8 (by decide +kernel) ?_ ?_
       .refine zl_ [0,1,2,3,4,5,6,8,7,9,10] ⟨[5],[],[],[]⟩ (by decide +kernel) (by decide +kernel) ?_
        simp[zS_,htk,z237,t5,t9,t10,okR,Bl.v,Bl.cs,frT,frAs,frA,frLs,frL,immC,zB,Sg.v,vl,Vt.v,Bl.next,yk_,bb,show sl (y::r)=y.v::sl r from rfl,show sl [y]=[y.v] from rfl]
       .refine zx_ 2 8 (by decide +kernel) ?_ ?_
        .refine zl_ [0,1,2,8,3,4,5,6,7,9,10] ⟨[5],[4,5,6],[],[]⟩ (by decide +kernel) (by decide +kernel) ?_
         simp[zS_,htk,z237,t5,t9,t10,okR,Bl.v,Bl.cs,frT,frAs,frA,frLs,frL,immC,zB,Sg.v,vl,Vt.v,Bl.next,yk_,bb,show sl (y::r)=y.v::sl r from rfl,show sl [y]=[y.v] from rfl]
        .refine zl_ [0,1,8,2,3,4,5,6,7,9,10] ⟨[5],[1],[],[]⟩ (by decide +kernel) (by decide +kernel) ?_
         simp[zS_,htk,z237,t5,t9,t10,okR,Bl.v,Bl.cs,frT,frAs,frA,frLs,frL,immC,zB,Sg.v,vl,Vt.v,Bl.next,yk_,bb,show sl (y::r)=y.v::sl r from rfl,show sl [y]=[y.v] from rfl]
end
end
theorem um_{tm:Nat->V}{k:Nat}{v:V}{B:Nat}(hk:k<B)(h:∀t,B<=t->tm t=.no):∀t,B<=t->upd tm k v t=.no:=fun t ht=>by
 unfold upd
 rw[if_neg (by omega)]
 exact h t ht
theorem l7_{x:Int}(hx:i64 x)(h0:0<=x)(i:Nat):xb x i=x.toNat.testBit i:=by
 unfold xb i64 at *
 rw[BitVec.getLsbD,BitVec.toNat_ofInt]
 congr 1
 omega
theorem jD_{x y:Int}(hx:i64 x)(h0:0<=x)(hy:0<=y/\y<512)(h:∀i,xb x i=true->xb y i=true):0<=x/\x<512:=by
 refine⟨h0,?_⟩
 have hn:x.toNat<2^9:=by
  refine Nat.lt_pow_two_of_testBit _ fun i hi=>?_
  cases e:x.toNat.testBit i with
  |false=>rfl
  | true =>
    rw[<-l7_ hx h0]at e
    have h1:=h i e
    rw[l7_ (by unfold i64;omega) hy.1]at h1
    rw[Nat.testBit_lt_two_pow (zzk_ (show y.toNat<2^9 by omega) (yyf_ (by omega) hi))]at h1
    cases h1
 omega
theorem ji_{n:Int}{q:List Int}{site:Int}{b:Bl}(h:bOk n q site b=true)(hw:b.wd):0<=b.inqd/\b.inqd<512:=by
 have hq:=(qE_ h).2
 unfold bOk at h
 simp only[zzg_]at h
 have hB:aokB b=true:=by
  have ha:=h.1.2
  unfold aok at ha
  split at ha
  .simp only[zzg_]at ha;exact ha.1
  .simp only[zzg_]at ha;exact ha.1.1.1.1.1.2
 rw[<-ko_ hw.v hw.f hw.i hq]at hB
 unfold r2B at hB
 simp only[zzg_,yyh_,decide_eq_false_iff_not,bne_eq_false_iff_eq,nx_,and0]at hB
 obtain⟨⟨⟨⟨⟨⟨a1,a2⟩,a3⟩,a4⟩,a5⟩,a6⟩,a7⟩:=hB
 exact jD_ hw.i (by omega) hq fun i hi=>a4 i (a7 i hi)
theorem m2_(b:Bl)(n:Int)(q:List Int)(site from':Int)(m:Vt)(hq:q.length<=1000)(hg:b.given.length<=1000)(hqq:b.queue.length<=1000)(hw:b.wd):PC Try.prog 24 [b.v,cP n q,.s (.int .i64 site),.s (.int .i64 from'),m.v] (fun r=>r=zt_ n q site from' m b):=by
 have hb:b.sm:=⟨by omega,by omega⟩
 have k1:=w3_ b n q site hq hb hw.v hw.f hw.i
 have k2:=uU_ n q from'
 have k3:=ry_ m.k
 have k4:=uA_ n q m.sg
 have k5:=t5_ b hb
 refine y9_ (q:=fun r=>frT r (zt_ n q site from' m b)) ?_ fun r hr _=>⟨_,hr,(qh_ ..).1,rfl⟩
 refine zn_ c24b zp_ rfl ?_
 simp -implicitDefEqProofs [a24b,F24,Bl.v,Bl.cs,cP,Vt.v]
 refine z1_ ?_
 simp -implicitDefEqProofs
 refine zc_ k1 (by simp[Bl.v,Bl.cs,cP]) (by simp[Bl.v,Bl.cs,cP]) ?_
 rintro _ rfl
 cases h1:bOk n q site b
 case' false =>
  simp -implicitDefEqProofs [zt_,h1,errR,noB,Bl.v,Bl.cs,frT,frAs,frA,frLs,frL,immC]
 have hok:=qE_ h1
 simp -implicitDefEqProofs
 refine z1_ ?_
 simp -implicitDefEqProofs
 refine zc_ k2 (by simp[cP]) (by simp[cP]) ?_
 rintro _ rfl
 cases h2:vtr n from'
 case' false =>
  simp -implicitDefEqProofs [zt_,h1,h2,errR,noB,Bl.v,Bl.cs,frT,frAs,frA,frLs,frL,immC]
 have hfr:0<=from'/\from'<9:=by
  unfold vtr at h2
  simp only[zzp_]at h2
  have:=hok.1.n1
  omega
 have f0:¬from'<0:=by omega
 have hsh:IntKind.i64.wrap ((2:Int)^min from'.toNat IntKind.i64.bits)=((2^from'.toNat:Nat):Int):=shl1 (by omega)
 have hbit:0<=((2^from'.toNat:Nat):Int)/\((2^from'.toNat:Nat):Int)<512:=by
  have h9:(2:Nat)^from'.toNat<512:=zzk_ (Nat.pow_lt_pow_right (by omega) (show from'.toNat<9 by omega)) (by decide)
  generalize (2:Nat)^from'.toNat=p at h9
  omega
 have hR0:zt_ n q site from' m b=if m.k=1 then
  if prp n m.sg=false\/m.ss≠from' then errR 1 else if askE b m.sg then errR 11 else okR (askS b m.sg) (askM b m.sg)
  else if m.k<1\/6<m.k\/m.st≠0\/m.ss≠0 then errR 1
  else if m.k=5\/m.k=6 then yM_ b from' (m.k==5)
  else ansV b ((2^from'.toNat:Nat):Int) m.k:=by
  unfold zt_
  rw[if_neg (by rw[h1];decide),if_neg (by rw[h2];decide)]
  rfl
 obtain⟨k,to,st,ss⟩:=m
 simp only at hR0 k3
 by_cases hv:1<=k/\k<=6
 case neg =>
  have hR:zt_ n q site from' ⟨k,to,st,ss⟩ b=errR 1:=by
   rw[hR0,if_neg (by omega),if_pos (by omega)]
  rw[hR]
  have hvd:decide (1<=k/\k<=6)=false:=decide_eq_false hv
  rw[hvd]at k3
  simp -implicitDefEqProofs
  refine z1_ ?_
  simp -implicitDefEqProofs
  refine zc_ k3 (by simp) (by simp) ?_
  rintro _ rfl
  simp -implicitDefEqProofs [errR,noB,Bl.v,Bl.cs,frT,frAs,frA,frLs,frL,immC]
 have hvd:decide (1<=k/\k<=6)=true:=decide_eq_true hv
 rw[hvd]at k3
 by_cases e1:k=1
 .subst e1
  simp -implicitDefEqProofs
  refine z1_ ?_
  simp -implicitDefEqProofs
  refine zc_ k3 (by simp) (by simp) ?_
  rintro _ rfl
  simp -implicitDefEqProofs
  refine z1_ ?_
  simp -implicitDefEqProofs
  refine zc_ k4 (by simp[cP,Vt.sg,Sg.v]) (by simp[cP,Vt.sg,Sg.v]) ?_
  rintro _ rfl
  cases hp:prp n (Vt.sg ⟨1,to,st,ss⟩)
  case' false =>
   have hR:zt_ n q site from' ⟨1,to,st,ss⟩ b=errR 1:=by
    rw[hR0,if_pos rfl,if_pos (.inl hp)]
   rw[hR]
   simp -implicitDefEqProofs [errR,noB,Bl.v,Bl.cs,frT,frAs,frA,frLs,frL,immC]
  cases hs:(ss != from')
  case' true =>
   have hs':ss≠from':=by simpa using hs
   have hR:zt_ n q site from' ⟨1,to,st,ss⟩ b=errR 1:=by
    rw[hR0,if_pos rfl,if_pos (.inr hs')]
   rw[hR]
   simp -implicitDefEqProofs [hs,errR,noB,Bl.v,Bl.cs,frT,frAs,frA,frLs,frL,immC]
  have hs':ss=from':=by simpa using hs
  have hR:zt_ n q site from' ⟨1,to,st,ss⟩ b=if askE b ⟨st,ss⟩ then errR 11 else okR (askS b ⟨st,ss⟩) (askM b ⟨st,ss⟩):=by
   rw[hR0,if_pos rfl,if_neg (by rw[hp];simp[hs'])]
   rfl
  rw[hR]
  simp -implicitDefEqProofs [hs]
  refine z1_ ?_
  simp -implicitDefEqProofs
  refine zc_ k5 (by simp[Bl.v,Bl.cs]) (by simp[Bl.v,Bl.cs]) ?_
  rintro _ rfl
  simp -implicitDefEqProofs [Bl.v,Bl.cs,f0,↓hsh]
  exact jT_ (n:=n) (q:=q) (site:=site) (from':=from') (to:=to) (st:=st) (ss:=ss) hg hqq hs' _ ⟨by simp,by simp,by simp,by simp,by repeat (first|exact fun _ _=>rfl|refine um_ (by omega) ?_),by simp[Bl.v,Bl.cs,cP,Vt.v],by simp[Bl.cs,vC,zB]⟩
 .have n1:(k==1)=false:=by simpa using e1
  have n2:(k != 1)=true:=by simpa using e1
  simp -implicitDefEqProofs
  refine z1_ ?_
  simp -implicitDefEqProofs
  refine zc_ k3 (by simp) (by simp) ?_
  rintro _ rfl
  cases z1:(st==0)
  case' false =>
   have z1':st≠0:=by simpa using z1
   have hR:zt_ n q site from' ⟨k,to,st,ss⟩ b=errR 1:=by
    rw[hR0,if_neg e1,if_pos (.inr (.inr (.inl z1')))]
   rw[hR]
   simp -implicitDefEqProofs [n1,n2,z1,eqCs,eqC,errR,noB,Bl.v,Bl.cs,frT,frAs,frA,frLs,frL,immC]
  cases z2:(ss==0)
  case' false =>
   have z2':ss≠0:=by simpa using z2
   have hR:zt_ n q site from' ⟨k,to,st,ss⟩ b=errR 1:=by
    rw[hR0,if_neg e1,if_pos (.inr (.inr (.inr z2')))]
   rw[hR]
   simp -implicitDefEqProofs [n1,n2,z1,z2,eqCs,eqC,errR,noB,Bl.v,Bl.cs,frT,frAs,frA,frLs,frL,immC]
  have z1':st=0:=by simpa using z1
  have z2':ss=0:=by simpa using z2
  have hR1:zt_ n q site from' ⟨k,to,st,ss⟩ b=if k=5\/k=6 then yM_ b from' (k==5) else ansV b ((2^from'.toNat:Nat):Int) k:=by
   rw[hR0,if_neg e1,if_neg (by omega)]
  rw[hR1]
  simp -implicitDefEqProofs [n1,n2,z1,z2,eqCs,eqC]
  refine z1_ ?_
  simp -implicitDefEqProofs
  refine zc_ k5 (by simp[Bl.v,Bl.cs]) (by simp[Bl.v,Bl.cs]) ?_
  rintro _ rfl
  simp -implicitDefEqProofs [Bl.v,Bl.cs,f0,↓hsh]
  have hk:k=2\/k=3\/k=4\/k=5\/k=6:=by omega
  clear hR0 hR1 n1 n2 e1 hv hvd k3 k4
  rcases hk with rfl|rfl|rfl|rfl|rfl
  .exact jP_ (n:=n) (q:=q) (site:=site) (from':=from') (to:=to) (st:=st) (ss:=ss) hw hb _ ⟨by simp,by simp,by simp,by simp,by repeat (first|exact fun _ _=>rfl|refine um_ (by omega) ?_),by simp[Bl.v,Bl.cs,cP,Vt.v],by simp[Bl.cs,vC,zB]⟩ _ rfl
  .exact jS_ (n:=n) (q:=q) (site:=site) (from':=from') (to:=to) (st:=st) (ss:=ss) hb (ji_ h1 hw) _ ⟨by simp,by simp,by simp,by simp,by repeat (first|exact fun _ _=>rfl|refine um_ (by omega) ?_),by simp[Bl.v,Bl.cs,cP,Vt.v],by simp[Bl.cs,vC,zB]⟩
  .exact jR_ (n:=n) (q:=q) (site:=site) (from':=from') (to:=to) (st:=st) (ss:=ss) hw hb hbit _ ⟨by simp,by simp,by simp,by simp,by repeat (first|exact fun _ _=>rfl|refine um_ (by omega) ?_),by simp[Bl.v,Bl.cs,cP,Vt.v],by simp[Bl.cs,vC,zB]⟩
  .exact jO_ (n:=n) (q:=q) (site:=site) (from':=from') (to:=to) (st:=st) (ss:=ss) hg hqq _ ⟨by simp,by simp,by simp,by simp,by repeat (first|exact fun _ _=>rfl|refine um_ (by omega) ?_),by simp[Bl.v,Bl.cs,cP,Vt.v],by simp[Bl.cs,vC,zB]⟩
  .exact jQ_ (n:=n) (q:=q) (site:=site) (from':=from') (to:=to) (st:=st) (ss:=ss) hg hqq _ ⟨by simp,by simp,by simp,by simp,by repeat (first|exact fun _ _=>rfl|refine um_ (by omega) ?_),by simp[Bl.v,Bl.cs,cP,Vt.v],by simp[Bl.cs,vC,zB]⟩
def F14:Fr:=⟨127,[0,1,2,3,4,5,12,14,15,17,18],[]⟩
def a14:ACode :=
 (.seq (qP 0 [
 qN 6 (.box 11 (.v 0)),
 qN 7 (.box 2 (.v 1)),
 qN 11 (.box 4 (.v 5)),
 qV 6 (.c (.bool false))])
 (.seq (qP 1 [
 qN 20 (qL 11 6),
 qN 21 (qL 2 7),
 qN 22 (qm 2),
 qN 23 (qm 4),
 qN 24 (.call 15 [(T 20),(T 21),(T 22),(T 23)]),
 qN 19 (qt 24),
 qN 25 (.ext 19 0),
 qN 26 (.ext 19 1),
 qN 27 (.ext 19 2),
 qN 13 (.allo qZ),
 qS 11 (T 13) (T 25),
 qV 7 (T 26),
 qV 8 (T 27)])
 (.seq (qP 2 [
 qN 29 (qL 11 6),
 qN 30 (qL 2 7),
 qN 31 (qm 2),
 qN 32 (qm 4),
 qN 33 (.call 16 [(T 29),(T 30),(T 31),(T 32)]),
 qN 28 (qt 33),
 qN 34 (.ext 28 0),
 qN 35 (.ext 28 1),
 qN 36 (.ext 28 2),
 qN 16 (.allo qZ),
 qS 11 (T 16) (T 34),
 qV 9 (T 35),
 qV 10 (T 36)])
 (.seq (.seq (.reg 3 [] [
 qN 37 (qm 8),
 qN 38 (qm 10),
 qN 39 (qb .neq 37 38),
 qN 40 (qt 39),
 qG 41 40 false (qL 11 13),
 qG 42 40 false (qL 11 16),
 qG 43 40 false (.call 17 [(T 41),(T 42)]),
 qG 44 40 false (.un .not (T 43)),
 qN 45 (qo 40 44),
 qN 46 (qt 45),
 qG 47 46 false (qm 7),
 qG 48 46 false (qm 9),
 qG 49 46 false (.call 18 [(T 47),(T 48)]),
 qG 50 46 false (.un .not (T 49)),
 qN 51 (qo 46 50),
 qN 52 (qt 51),
 qG 53 52 false (qL 11 6),
 qG 54 52 false (qL 2 7),
 qG 55 52 false (qm 2),
 qG 56 52 false (.call 19 [(T 53),(T 54),(T 55)]),
 qG 57 52 false (qL 11 6),
 qG 58 52 false (qL 2 7),
 qG 59 52 false (qm 2),
 qG 60 52 false (.call 20 [(T 57),(T 58),(T 59)]),
 qG 61 52 false (.bib .neq (T 56) (T 60)),
 qN 62 (qo 52 61)] (some [[],[],[0,1],[2],[3],[3],[4,5,3,3],[6,3],[3,7],[8,6],[9],[9],[10,11,9,9],[12,9],[9,13],[14,12],[15],[15],[15],[16,17,18,15,15],[15],[15],[15],[20,21,22,19,15],[19,23,15],[15,24]]) ⟨[40,46,52,6,7],[],[],[]⟩)
 (.cond (T 62)
 (.seq (qP 4 [
 qV 6 (.c (.bool false))])
 .ret)
 .skip))
 (.seq (qP 5 [
 qN 64 (qL 11 6),
 qN 65 (qL 2 7),
 qN 66 (qm 2),
 qN 67 (.call 21 [(T 64),(T 65),(T 66)]),
 qN 63 (qt 67),
 qN 68 (.ext 63 0),
 qN 69 (.ext 63 1),
 qN 70 (.ext 63 2),
 qS 11 (T 13) (T 68),
 qV 7 (T 69),
 qV 8 (T 70)])
 (.seq (qP 6 [
 qN 72 (qL 11 6),
 qN 73 (qL 2 7),
 qN 74 (qm 2),
 qN 75 (.call 22 [(T 72),(T 73),(T 74)]),
 qN 71 (qt 75),
 qN 76 (.ext 71 0),
 qN 77 (.ext 71 1),
 qN 78 (.ext 71 2),
 qS 11 (T 16) (T 76),
 qV 9 (T 77),
 qV 10 (T 78)])
 (.seq (.seq (qP 7 [
 qN 79 (qm 8),
 qN 80 (qm 10),
 qN 81 (qb .neq 79 80),
 qN 82 (qt 81),
 qG 83 82 false (qL 11 13),
 qG 84 82 false (qL 11 16),
 qG 85 82 false (.call 17 [(T 83),(T 84)]),
 qG 86 82 false (.un .not (T 85)),
 qN 87 (qo 82 86),
 qN 88 (qt 87),
 qG 89 88 false (qm 7),
 qG 90 88 false (qm 9),
 qG 91 88 false (.call 18 [(T 89),(T 90)]),
 qG 92 88 false (.un .not (T 91)),
 qN 93 (qo 88 92)])
 (.cond (T 93)
 (.seq (qP 8 [
 qV 6 (.c (.bool false))])
 .ret)
 .skip))
 (.seq (qP 9 [
 qN 95 (qL 11 6),
 qN 96 (qL 2 7),
 qN 97 (qm 2),
 qN 98 (qm 3),
 qN 99 (qL 4 11),
 qN 100 (.call 23 [(T 95),(T 96),(T 97),(T 98),(T 99)]),
 qN 94 (qt 100),
 qN 101 (.ext 94 0),
 qN 102 (.ext 94 1),
 qN 103 (.ext 94 2),
 qS 11 (T 13) (T 101),
 qV 7 (T 102),
 qV 8 (T 103)])
 (.seq (qP 10 [
 qN 105 (qL 11 6),
 qN 106 (qL 2 7),
 qN 107 (qm 2),
 qN 108 (qm 3),
 qN 109 (qL 4 11),
 qN 110 (.call 24 [(T 105),(T 106),(T 107),(T 108),(T 109)]),
 qN 104 (qt 110),
 qN 111 (.ext 104 0),
 qN 112 (.ext 104 1),
 qN 113 (.ext 104 2),
 qS 11 (T 16) (T 111),
 qV 9 (T 112),
 qV 10 (T 113)])
 (.seq (qP 11 [
 qN 114 (qm 8),
 qN 115 (qm 10),
 qN 116 (qb .eql 114 115),
 qN 117 (qt 116),
 qG 118 117 true (qL 11 13),
 qG 119 117 true (qL 11 16),
 qG 120 117 true (.call 17 [(T 118),(T 119)]),
 qN 121 (qa 117 120),
 qN 122 (qt 121),
 qG 123 122 true (qm 7),
 qG 124 122 true (qm 9),
 qG 125 122 true (.call 18 [(T 123),(T 124)]),
 qN 126 (qa 122 125),
 qV 6 (T 126)])
 .ret))))))))))
theorem c14:ze_ Try.prog 14 F14=some (6,zh_ a14,[.v 6])/\z9_ a14=true:=⟨by kernel_rfl,by kernel_rfl⟩
def tri3(b:Bl)(l:List Vt)(e:Int):V:=.tup [b.v,.list 4 (vl l),.s (.int .i64 e)]
structure Tri(R:V)(b:Bl)(l:List Vt)(e:Int):Prop where
 eq:R=tri3 b l e
 sm:b.sm
 ll:l.length<=1000000
theorem xs_(e:Int):∃b l e',Tri (errR e) b l e':=⟨noB,[],e,rfl,by simp[noB,Bl.sm],by simp⟩
theorem nE_{n:Int}{q:List Int}{site x:Int}{b:Bl}(hb:b.sm):∃b' l e,Tri (yU_ n q site x b (askO b site (mbU x 9))) b' l e:=by
 unfold yU_
 repeat' split
 all_goals first|exact xs_ _|exact⟨_,_,0,rfl,hb,by have:=wi_ x 9;simp[askO];omega⟩
theorem mI_{n:Int}{q:List Int}{site:Int}{b:Bl}(hb:b.sm):∃b' l e,Tri (xI_ n q site b (relO (mbU b.qu 9))) b' l e:=by
 unfold xI_
 repeat' split
 all_goals first|exact xs_ _|exact⟨_,_,0,rfl,hb,by have:=wi_ b.qu 9;simp[relO];omega⟩
theorem lA_{b:Bl}{x:Sg}(hg:b.given.length<=1000)(hq:b.queue.length<=1000):(b.enq x).given.length<=1000/\(b.enq x).queue.length<=1001:=by
 refine⟨hg,?_⟩
 show (insS b.queue (posQ x b.queue) x).length<=1001
 rw[x6_ (vO_ x b.queue)];omega
theorem jj_{b:Bl}{x:Sg}(hg:b.given.length<=1000)(hq:b.queue.length<=1000):(askS b x).sm:=by
 unfold askS
 split
 .exact⟨by simp,by simp;omega⟩
 .next g t _ =>
  have:=lA_ (b:={ b with time:=(if b.time<x.t then x.t else b.time),asked:=b.asked||((match b.queue with|[]=>true|q::_=>decide (cmpS x q<0))&&decide (cmpS x g<0)) }) (x:=x) hg hq
  exact⟨yyd_ this.1 (by omega),yyd_ this.2 (by omega)⟩
theorem mY_(b:Bl)(x:Sg):(askM b x).length<=10:=by
 unfold askM
 repeat' split
 all_goals simp
theorem kB_{b:Bl}(hg:b.given.length<=1000)(hq:b.queue.length<=1001):b.next.sm:=by
 unfold Bl.next
 split
 .exact⟨by simp,by show b.queue.length<=1000000;omega⟩
 .next q r h =>
  rw[h]at hq
  simp at hq
  exact⟨by simp,by simp;omega⟩
theorem jh_{b:Bl}(again:Bool)(hg:b.given.length<=1000)(hq:b.queue.length<=1000):(zY_ b again).next.sm:=by
 have h:(zY_ b again).given.length<=1000/\(zY_ b again).queue.length<=1001:=by
  unfold zY_
  split
  .exact⟨hg,by omega⟩
  .split
   .exact lA_ hg hq
   .exact⟨hg,by omega⟩
 exact kB_ h.1 h.2
theorem oB_(l:List Sg):(yk_ l).length<=10:=by
 unfold yk_
 split<;>simp
theorem iS_{b:Bl}(hb:b.sm)(bit k:Int):((ansR b bit k).2.1.gave (ansR b bit k).2.2).sm:=by
 unfold ansR
 repeat' split
 all_goals exact hb
theorem mw_{n:Int}{q:List Int}{site from':Int}{m:Vt}{b:Bl}(hg:b.given.length<=1000)(hq:b.queue.length<=1000):∃b' l e,Tri (zt_ n q site from' m b) b' l e:=by
 have hb:b.sm:=⟨by omega,by omega⟩
 unfold zt_
 by_cases h1:bOk n q site b=false
 .rw[if_pos h1];exact xs_ _
 rw[if_neg h1]
 by_cases h2:vtr n from'=false
 .rw[if_pos h2];exact xs_ _
 rw[if_neg h2]
 by_cases h3:m.k=1
 .rw[if_pos h3]
  by_cases h4:prp n m.sg=false\/m.ss≠from'
  .rw[if_pos h4];exact xs_ _
  rw[if_neg h4]
  by_cases h5:askE b m.sg=true
  .rw[if_pos h5];exact xs_ _
  rw[if_neg h5]
  exact⟨_,_,0,rfl,jj_ hg hq,yyd_ (mY_ ..) (by omega)⟩
 rw[if_neg h3]
 by_cases h4:m.k<1\/6<m.k\/m.st≠0\/m.ss≠0
 .rw[if_pos h4];exact xs_ _
 rw[if_neg h4]
 by_cases h5:m.k=5\/m.k=6
 .rw[if_pos h5]
  by_cases h6:yZ_ b from'=true
  .rw[if_pos h6];exact xs_ _
  rw[if_neg h6]
  exact⟨_,_,0,rfl,jh_ _ hg hq,yyd_ (oB_ _) (by omega)⟩
 rw[if_neg h5]
 by_cases h6:(ansR b ((2^from'.toNat:Nat):Int) m.k).1≠0
 .rw[if_pos h6];exact xs_ _
 rw[if_neg h6]
 exact⟨_,_,0,rfl,iS_ hb _ _,by unfold yldO;rw[List.length_map];exact yyd_ (wi_ ..) (by omega)⟩
theorem mN_(b:Bl)(n:Int)(q:List Int)(site from' x:Int)(m:Vt)(hq:q.length<=1000)(hg:b.given.length<=1000)(hqq:b.queue.length<=1000)(hw:b.wd):PC Try.prog 14 [b.v,cP n q,.s (.int .i64 site),.s (.int .i64 from'),.s (.int .i64 x),m.v] (fun r=>r=.s (.bool true)):=by
 have hb:b.sm:=⟨by omega,by omega⟩
 have k15:=rx_ b n q site x hq hb
 have k16:=m0_ b n q site x hq hb hw
 have k19:=yV_ b n q site hq hb
 have k20:=w3_ b n q site hq hb hw.v hw.f hw.i
 have k21:=nB_ b n q site hq hb
 have k22:=m4_ b n q site hq hb hw
 have k23:=tB_ b n q site from' m hq hg hqq
 have k24:=m2_ b n q site from' m hq hg hqq hw
 obtain⟨b1,l1,e1,h1⟩:=nE_ (n:=n) (q:=q) (site:=site) (x:=x) hb
 obtain⟨b2,l2,e2,h2⟩:=mI_ (n:=n) (q:=q) (site:=site) hb
 obtain⟨b3,l3,e3,h3⟩:=mw_ (n:=n) (q:=q) (site:=site) (from':=from') (m:=m) hg hqq
 rw[h1.eq]at k15 k16
 rw[h2.eq]at k21 k22
 rw[h3.eq]at k23 k24
 have s1:=tz_ b1 b1 h1.sm
 have s2:=tz_ b2 b2 h2.sm
 have s3:=tz_ b3 b3 h3.sm
 have v1:=t2_ l1 l1 h1.ll
 have v2:=t2_ l2 l2 h2.ll
 have v3:=t2_ l3 l3 h3.ll
 rw[decide_eq_true rfl]at s1 s2 s3 v1 v2 v3
 unfold tri3 at k15 k16 k21 k22 k23 k24
 clear h1 h2 h3
 generalize bOk n q site b=ok at k19 k20
 refine zn_ c14 zp_ rfl ?_
 simp -implicitDefEqProofs [a14,F14,Bl.v,Bl.cs,cP,Vt.v]
 refine z1_ ?_
 simp
 refine zc_ k15 (by simp[Bl.v,Bl.cs,cP]) (by simp[Bl.v,Bl.cs,cP]) ?_
 rintro _ rfl
 simp[Bl.v,Bl.cs]
 refine z1_ ?_
 simp
 refine zc_ k16 (by simp[Bl.v,Bl.cs,cP]) (by simp[Bl.v,Bl.cs,cP]) ?_
 rintro _ rfl
 simp[Bl.v,Bl.cs]
 refine zB_ ?_
 simp
 refine y8_ s1 (by simp[Bl.v,Bl.cs,cP]) (by simp[Bl.v,Bl.cs,cP]) ?_
 simp
 refine zB_ ?_
 simp
 refine y8_ v1 (by simp[Bl.v,Bl.cs,cP]) (by simp[Bl.v,Bl.cs,cP]) ?_
 simp
 refine zB_ ?_
 simp
 refine y8_ k19 (by simp[Bl.v,Bl.cs,cP]) (by simp[Bl.v,Bl.cs,cP]) ?_
 simp
 refine zB_ ?_
 simp
 refine y8_ k20 (by simp[Bl.v,Bl.cs,cP]) (by simp[Bl.v,Bl.cs,cP]) ?_
 simp
 refine z1_ ?_
 simp
 refine zc_ k21 (by simp[Bl.v,Bl.cs,cP]) (by simp[Bl.v,Bl.cs,cP]) ?_
 rintro _ rfl
 simp[Bl.v,Bl.cs]
 refine z1_ ?_
 simp
 refine zc_ k22 (by simp[Bl.v,Bl.cs,cP]) (by simp[Bl.v,Bl.cs,cP]) ?_
 rintro _ rfl
 simp[Bl.v,Bl.cs]
 refine z1_ ?_
 simp
 refine zc_ s2 (by simp[Bl.v,Bl.cs,cP]) (by simp[Bl.v,Bl.cs,cP]) ?_
 rintro _ rfl
 simp
 refine z1_ ?_
 simp
 refine zc_ v2 (by simp[Bl.v,Bl.cs,cP]) (by simp[Bl.v,Bl.cs,cP]) ?_
 rintro _ rfl
 simp
 refine z1_ ?_
 simp
 refine zc_ k23 (by simp[Bl.v,Bl.cs,cP,Vt.v]) (by simp[Bl.v,Bl.cs,cP,Vt.v]) ?_
 rintro _ rfl
 simp[Bl.v,Bl.cs]
 refine z1_ ?_
 simp
 refine zc_ k24 (by simp[Bl.v,Bl.cs,cP,Vt.v]) (by simp[Bl.v,Bl.cs,cP,Vt.v]) ?_
 rintro _ rfl
 simp[Bl.v,Bl.cs]
 refine z1_ ?_
 simp
 refine zc_ s3 (by simp[Bl.v,Bl.cs,cP]) (by simp[Bl.v,Bl.cs,cP]) ?_
 rintro _ rfl
 simp
 refine z1_ ?_
 simp
 refine zc_ v3 (by simp[Bl.v,Bl.cs,cP]) (by simp[Bl.v,Bl.cs,cP]) ?_
 rintro _ rfl
 simp
theorem xE_:xP_ (2*3) (grid 2 3)=true/\(grid 2 3).length<=64:=by decide +kernel
theorem lu_:grE (2:Nat) (3:Nat)=0/\grQ (2:Nat) (3:Nat)=zH_ (2*3) (grid 2 3):=by
 obtain⟨h1,h2⟩:=xE_
 unfold grE grQ
 rw[if_pos ⟨by omega,by omega,by omega⟩,yys_,yys_,<-Int.natCast_mul]
 exact⟨r6_ (by omega) h1 (by omega),r4_ _ _⟩
theorem m3_:PC Try.prog 58 [.s (.int .i64 2),.s (.int .i64 3)] (fun q=>q=.tup [cP ((2*3:Nat):Int) (zi (zH_ (2*3) (grid 2 3))),.s (.int .i64 0)]):=by
 have:=q3_ (2:Nat) (3:Nat)
 rw[lu_.1,lu_.2,<-Int.natCast_mul]at this
 exact this
theorem kR_:Md (2*3) (zH_ (2*3) (grid 2 3)):=r5_ (by omega) xE_.1 xE_.2
def nx(xs:List Int)(k:Nat)(m:Int):Int:=if h:k<xs.length then xs[k]%m else 0
def nat1(xs:List Int)(k:Nat):Nat:=if k<xs.length then k+1 else k
theorem hr_(xs:List Int)(k:Nat){m:Int}(h:0<m):0<=nx xs k m/\nx xs k m<m:=by
 unfold nx
 split
 .exact⟨Int.emod_nonneg _ (by omega),Int.emod_lt_of_pos _ h⟩
 .exact⟨Int.le_refl _,h⟩
theorem oD_{xs:List Int}{k:Nat}(h:k<=xs.length):nat1 xs k<=xs.length/\k<=nat1 xs k:=by unfold nat1;split<;>omega
section
theorem xk_{P:Program}{f:Nat}{args:List V}{q:V->Prop}(h:PC P f args q){g:Gh}{w:World}{vals:Array Value}(hl:args.length=vals.size)(hi:∀x∈args,immA x=true)
 (hr:∀(i:Nat) (x:V) (v:Value),args[i]?=some x->vals[i]?=some v->Rep g w x v) (hlt:∀k,0<g.I k->k<w.heap.size) :
 Calls P f vals w fun e w'=>∃v r g',e=.returned v/\q r/\Rep g' w' r v/\Below w.heap.size w w'/\(∀k,k<w.heap.size->g'.I k=g.I k)/\∀k,0<g'.I k->k<w'.heap.size:=by
 obtain⟨hb,ho⟩:=uP_ (g:=g) (w:=w) hl hi hr hlt
 refine(h g w vals hb).mono ?_
 rintro e w' ⟨v,r,bs',g',rfl,⟨rfl,hq⟩,hok,hbd,hx⟩
 have hv:z7_ (Frn 1) g' w' ⟨#[v],[]⟩ (.var 0)=some v:=by simp[z7_,Frn,Act.tv]
 exact⟨v,r,g',rfl,hq,hbd.rep (.l (.var 0)) r v ⟨rfl,hv⟩,⟨hx.os,hx.tape,hx.output,hx.size,fun k hk=>(hx.same k hk (ho k)).1⟩,fun k hk=>(hx.same k hk (ho k)).2,hbd.Ilt⟩
def fv(l:List Vt):List Value:=l.flatMap fun m=>[.int .i64 m.k,.int .i64 m.to,.int .i64 m.st,.int .i64 m.ss]
theorem lx_(l:List Vt):(fv l).length=l.length*4:=by
 induction l with
 |nil=>rfl
 |cons x r ih=>simp only[fv,List.flatMap_cons,zzr_,List.length_cons,List.length_nil]at ih ⊢;omega
theorem su_(a b:List Vt):fv (a++b)=fv a++fv b:=by simp[fv]
theorem iv_(l:List Vt):∀v∈fv l,v.oneCell'=true:=by
 intro v hv
 simp only[fv,List.mem_flatMap]at hv
 obtain⟨s,_,h⟩:=hv
 simp at h
 rcases h with rfl|rfl|rfl|rfl<;>rfl
theorem iw_:∀(l:List Vt) (i:Nat) (h:i<l.length),(fv l)[i*4]?=some (.int .i64 l[i].k)/\(fv l)[i*4+1]?=some (.int .i64 l[i].to)/\(fv l)[i*4+2]?=some (.int .i64 l[i].st)/\(fv l)[i*4+3]?=some (.int .i64 l[i].ss):=by
 intro l
 induction l with
 |nil=>intro i h;simp at h
 | cons x r ih =>
   intro i h
   cases i with
   |zero=>exact⟨rfl,rfl,rfl,rfl⟩
   | succ i =>
     have:=ih i (by simpa using h)
     simp only[fv,List.flatMap_cons,yyn_,Nat.one_mul]at this ⊢
     rw[show i*4+4=(i*4)+1+1+1+1 by omega]
     simpa using this
def MBx(w:World)(v:Value)(l:List Vt):Prop:=(l=[]/\∃A,v=.slice A 0 0) \/
 ∃k off cap cur,v=.slice (some ⟨k,off,none⟩) l.length cap/\0<cap/\l.length<=cap/\cap<=maxLen/\w.heap[k]?=some (.cells cur 46 (0,0))/\off+cap*4<=cur.size/\∀(p:Nat) (u:Value),(fv l)[p]?=some u->cur[off+p]?=some u
structure Hd where
 bk:Nat
 bc:Nat
 mb:Nat
 mc:Nat
 qv:Value
 rk:Nat->Nat
 rc:Nat->Nat
 mv:Nat->Nat->Value
structure Tag(X n:Nat)(h:Hd)(T:Nat->Nat):Prop where
 x:T X=1
 b:T h.bk=2
 m:T h.mb=3
 r:∀i,i<n->T (h.rk i)=4+i
 v:∀i j k,i<n->j<n->rb (h.mv i j)=some k->T k=100+16*i+j
structure Net(T:Nat->Nat)(g:Gh)(w:World)(X n:Nat)(q:List Int)(B:Nat->Bl)(M:Nat->Nat->List Vt)(h:Hd):Prop where
 n9:n<=9
 Ilt:∀k,0<g.I k->k<w.heap.size
 tag:Tag X n h T
 tz:∀k,T k≠0->k<w.heap.size/\g.I k=0
 hX:w.heap[X]?=some (.cells #[.int .i64 n,h.qv,.slice (some ⟨h.bk,0,none⟩) n h.bc,.slice (some ⟨h.mb,0,none⟩) n h.mc] 33 (0,0))
 hq:Rep g w (.list 1 (iv q)) h.qv
 bcn:n<=h.bc/\h.bc<=maxLen
 mcn:n<=h.mc/\h.mc<=maxLen
 rcn:∀i,i<n->n<=h.rc i/\h.rc i<=maxLen
 bb:∃cur,w.heap[h.bk]?=some (.cells cur 39 (0,0))/\cur.size=h.bc*11/\∀i,i<n->∀(j:Nat) (u:V),(B i).cs[j]?=some u->∃c,cur[i*11+j]?=some c/\c.oneCell'=true/\Rep g w u c
 mm:∃cur,w.heap[h.mb]?=some (.cells cur 42 (0,0))/\∀i,i<n->cur[i]?=some (.slice (some ⟨h.rk i,0,none⟩) n (h.rc i))
 rr:∀i,i<n->∃cur,w.heap[h.rk i]?=some (.cells cur 41 (0,0))/\∀j,j<n->cur[j]?=some (h.mv i j)
 vv:∀i j,i<n->j<n->MBx w (h.mv i j) (M i j)
section
variable{T:Nat->Nat}{g g':Gh}{w w':World}{X n:Nat}{q:List Int}{B:Nat->Bl}{M:Nat->Nat->List Vt}{h:Hd}
theorem wc_(b:Bl):∀u∈b.cs,immC u=true:=by
 intro u hu
 simp only[Bl.cs,List.mem_cons,List.not_mem_nil,or_false]at hu
 rcases hu with rfl|rfl|rfl|rfl|rfl|rfl|rfl|rfl|rfl|rfl|rfl<;>rfl
theorem zu_{u:V}{v:Value}(h:Rep g w u v)(hi:immC u=true)(hI:∀b o,o<g.I b->o<g'.I b/\w'.cell? ⟨b,o,none⟩=w.cell? ⟨b,o,none⟩):Rep g' w' u v:=by
 refine h.keep hI (fun p k ⟨e,z,xs,_,q1,_⟩=>?_) fun p b o hs=>?_
 .obtain⟨_,q⟩:=xC_ hi q1
  subst q
  simp[immC]at hi
 .obtain⟨_,q⟩:=xC_ hi hs
  subst q
  simp[immC]at hi
theorem MBx.keep{v:Value}{l:List Vt}(hm:MBx w v l)(hk:∀k,rb v=some k->w'.heap[k]?=w.heap[k]?):MBx w' v l:=by
 rcases hm with hm|⟨k,off,cap,cur,rfl,h1,h2,h3,h4,h5⟩
 .exact .inl hm
 .exact .inr ⟨k,off,cap,cur,rfl,h1,h2,h3,(hk k (by simp[rb];omega)).trans h4,h5⟩
theorem Net.vt(hn:Net T g w X n q B M h){i j k:Nat}(hi:i<n)(hj:j<n)(hk:rb (h.mv i j)=some k):k<w.heap.size/\g.I k=0:=hn.tz k (by rw[hn.tag.v i j k hi hj hk];omega)
theorem Net.grow(hn:Net T g w X n q B M h)(hs:w.heap.size<=w'.heap.size)(hb:∀k,k<w.heap.size->w'.heap[k]?=w.heap[k]?)(hg:∀k,k<w.heap.size->g'.I k=g.I k)(hlt:∀k,0<g'.I k->k<w'.heap.size):Net T g' w' X n q B M h:=by
 have hI:∀b o,o<g.I b->o<g'.I b/\w'.cell? ⟨b,o,none⟩=w.cell? ⟨b,o,none⟩:=fun b o ho=>by
  have hl:=hn.Ilt b (by omega)
  exact⟨by rw[hg b hl];exact ho,yyb_ (a:=⟨b,o,none⟩) (hb b hl)⟩
 have hT:∀k,T k≠0->w'.heap[k]?=w.heap[k]?:=fun k hk=>hb k (hn.tz k hk).1
 refine⟨hn.n9,hlt,hn.tag,fun k hk=>⟨zzk_ (hn.tz k hk).1 hs,by rw[hg k (hn.tz k hk).1];exact(hn.tz k hk).2⟩,(hT X (by rw[hn.tag.x];omega)).trans hn.hX,zu_ hn.hq rfl hI,hn.bcn,hn.mcn,hn.rcn,?_,?_,fun i hi=>?_,fun i j hi hj=>?_⟩
 .obtain⟨cur,h1,h2,h3⟩:=hn.bb
  refine⟨cur,(hT _ (by rw[hn.tag.b];omega)).trans h1,h2,fun i hi j u hu=>?_⟩
  obtain⟨c,q1,q2,q3⟩:=h3 i hi j u hu
  exact⟨c,q1,q2,zu_ q3 (wc_ _ u (zzd_ hu)) hI⟩
 .obtain⟨cur,h1,h2⟩:=hn.mm
  exact⟨cur,(hT _ (by rw[hn.tag.m];omega)).trans h1,h2⟩
 .obtain⟨cur,h1,h2⟩:=hn.rr i hi
  exact⟨cur,(hT _ (by rw[hn.tag.r i hi];omega)).trans h1,h2⟩
 .exact(hn.vv i j hi hj).keep fun k hk=>hb k (hn.vt hi hj hk).1
theorem Net.below(hn:Net T g w X n q B M h)(hb:Below w.heap.size w w'):Net T g w' X n q B M h:=hn.grow hb.size hb.block (fun _ _=>rfl) fun k hk=>zzk_ (hn.Ilt k hk) hb.size
end
def updB(B:Nat->Bl)(i:Nat)(b:Bl)(k:Nat):Bl:=if k=i then b else B k
section
variable{T:Nat->Nat}{g g':Gh}{w w':World}{X n:Nat}{q:List Int}{B:Nat->Bl}{M:Nat->Nat->List Vt}{h:Hd}
theorem Net.setB(hn:Net T g w X n q B M h){i:Nat}(hi:i<n){b:Bl}{vs:List Value}(hl:vs.length=11)(h1:∀v∈vs,v.oneCell'=true)(hr:∀(j:Nat) (u:V) (c:Value),b.cs[j]?=some u->vs[j]?=some c->Rep g w u c) :
 Net T g (w.setCells h.bk (i*11) vs) X n q (updB B i b) M h/\(w.setCells h.bk (i*11) vs).heap.size=w.heap.size/\∀k,k<w.heap.size->k≠h.bk->(w.setCells h.bk (i*11) vs).heap[k]?=w.heap[k]?:=by
 obtain⟨cur,c1,c2,c3⟩:=hn.bb
 have hsz:∀vs o (W:World),(W.setCells h.bk o vs).heap.size=W.heap.size:=fun vs=>by
  induction vs with
  |nil=>intro o W;rfl
  |cons v r ih=>intro o W;rw[World.setCells,ih];simp[World.setCell]
 have hoth:∀k,k<w.heap.size->k≠h.bk->(w.setCells h.bk (i*11) vs).heap[k]?=w.heap[k]?:=fun k hk hne=>zv_ hk hne
 obtain⟨cur',d1,d2,d3⟩:=zw_ vs (i*11) w h.bk cur 39 c1 (by rw[hl,c2];have:=hn.bcn;omega)
 have hbI:g.I h.bk=0:=(hn.tz _ (by rw[hn.tag.b];omega)).2
 have hI:∀b o,o<g.I b->o<g.I b/\(w.setCells h.bk (i*11) vs).cell? ⟨b,o,none⟩=w.cell? ⟨b,o,none⟩:=fun b o ho=>by
  refine⟨ho,yyb_ (a:=⟨b,o,none⟩) (hoth b (hn.Ilt b (by omega)) ?_)⟩
  rintro rfl
  omega
 have hT:∀k,T k≠0->T k≠2->(w.setCells h.bk (i*11) vs).heap[k]?=w.heap[k]?:=fun k h0 h2=>hoth k (hn.tz k h0).1 (by rintro rfl;exact h2 hn.tag.b)
 refine⟨⟨hn.n9,fun k hk=>by rw[hsz];exact hn.Ilt k hk,hn.tag,fun k hk=>by rw[hsz];exact hn.tz k hk,(hT X (by rw[hn.tag.x];omega) (by rw[hn.tag.x];omega)).trans hn.hX,zu_ hn.hq rfl hI,hn.bcn,hn.mcn,hn.rcn,?_,?_,fun i hi=>?_,fun i j hi hj=>?_⟩,hsz _ _ _,hoth⟩
 .refine⟨cur',d1,d2.trans c2,fun i' hi' j u hu=>?_⟩
  have hj:j<11:=by
   have:=(zzc_.1 hu).1
   simpa[Bl.cs] using this
  have hcl:cur.toList.length=h.bc*11:=by simpa using c2
  have hbc:=hn.bcn
  by_cases he:i'=i
  .subst he
   simp only[updB,if_pos]at hu
   have hv:vs[j]?=some (vs[j]'(by omega)):=zzf_ _
   refine⟨vs[j]'(by omega),?_,h1 _ (yyp_ _),zu_ (hr j u _ hu hv) (wc_ _ u (zzd_ hu)) hI⟩
   rw[<-Array.getElem?_toList,d3,zzq_,zzv_ (by simp;omega),zzo_ (by simp;omega)]
   rw[show i'*11+j-(cur.toList.take (i'*11)).length=j by rw[List.length_take];omega]
   exact hv
  .simp only[updB,if_neg he]at hu
   obtain⟨c,q1,q2,q3⟩:=c3 i' hi' j u hu
   refine⟨c,?_,q2,zu_ q3 (wc_ _ u (zzd_ hu)) hI⟩
   rw[<-Array.getElem?_toList]at q1 ⊢
   rw[d3]
   rcases Nat.lt_or_gt_of_ne he with hlt|hgt
   .rw[zzq_,zzo_ (by simp;omega),zzu_,if_pos (by omega)]
    exact q1
   .rw[zzv_ (by simp;omega),zzA_]
    rw[show i*11+vs.length+(i'*11+j-(cur.toList.take (i*11)++vs).length)=i'*11+j by simp;omega]
    exact q1
 .obtain⟨cur,h1,h2⟩:=hn.mm
  exact⟨cur,(hT _ (by rw[hn.tag.m];omega) (by rw[hn.tag.m];omega)).trans h1,h2⟩
 .obtain⟨cur,h1,h2⟩:=hn.rr i hi
  exact⟨cur,(hT _ (by rw[hn.tag.r i hi];omega) (by rw[hn.tag.r i hi];omega)).trans h1,h2⟩
 .exact(hn.vv i j hi hj).keep fun k hk=>hT k (by rw[hn.tag.v i j k hi hj hk];omega) (by rw[hn.tag.v i j k hi hj hk];omega)
end
end
section
def updM(M:Nat->Nat->List Vt)(i j:Nat)(l:List Vt)(a b:Nat):List Vt:=if a=i/\b=j then l else M a b
def Hd.put(h:Hd)(i j:Nat)(v:Value):Hd:={ h with mv:=fun a b=>if a=i/\b=j then v else h.mv a b }
def putT(T:Nat->Nat)(i j:Nat)(v:Value)(k:Nat):Nat:=if rb v=some k then 100+16*i+j else T k
section
variable{T:Nat->Nat}{g:Gh}{w w1:World}{X n:Nat}{q:List Int}{B:Nat->Bl}{M:Nat->Nat->List Vt}{h:Hd}
theorem Net.setV(hn:Net T g w X n q B M h){i j:Nat}(hi:i<n)(hj:j<n){v':Value}{l':List Vt}(hs:w.heap.size<=w1.heap.size)(hsame:∀k,k<w.heap.size->rb (h.mv i j)≠some k->w1.heap[k]?=w.heap[k]?)
 (hm:MBx w1 v' l') (hv:∀k,rb v'=some k->(rb (h.mv i j)=some k\/w.heap.size<=k)/\k<w1.heap.size) :
 Net (putT T i j v') g (w1.setCell ⟨h.rk i,j,none⟩ v') X n q B (updM M i j l') (h.put i j v')/\(w1.setCell ⟨h.rk i,j,none⟩ v').heap.size=w1.heap.size/\(∀k,k<w1.heap.size->k≠h.rk i->(w1.setCell ⟨h.rk i,j,none⟩ v').heap[k]?=w1.heap[k]?):=by
 have n9:=hn.n9
 have hT0:∀k,T k≠0->k<w.heap.size:=fun k hk=>(hn.tz k hk).1
 have htv:∀k,rb (h.mv i j)=some k->T k=100+16*i+j:=fun k hk=>hn.tag.v i j k hi hj hk
 have hTs:∀k,T k≠0->T k≠100+16*i+j->w1.heap[k]?=w.heap[k]?:=fun k h0 h1=>hsame k (hT0 k h0) fun e=>h1 (htv k e)
 have hTput:∀k,T k≠0->putT T i j v' k=T k:=fun k h0=>by
  unfold putT
  split
  .next e =>
   rcases(hv k e).1 with e'|e'
   .exact(htv k e').symm
   .have:=hT0 k h0;omega
  .rfl
 obtain⟨cr,r1,r2⟩:=hn.rr i hi
 have hTr:=hn.tag.r i hi
 have hr1:w1.heap[h.rk i]?=some (.cells cr 41 (0,0)):=(hTs _ (by omega) (by omega)).trans r1
 have hrj:j<cr.size:=by
  have:=r2 j hj
  exact(zzm_.1 this).1
 have hset:(w1.setCell ⟨h.rk i,j,none⟩ v').heap[h.rk i]?=some (.cells (cr.setIfInBounds j v') 41 (0,0)):=by
  simp[World.setCell,yyu_,hr1]
 have hoth:∀k,k≠h.rk i->(w1.setCell ⟨h.rk i,j,none⟩ v').heap[k]?=w1.heap[k]?:=fun k hk=>by
  simp[World.setCell,yyu_,Ne.symm hk]
 have hsz:(w1.setCell ⟨h.rk i,j,none⟩ v').heap.size=w1.heap.size:=by simp[World.setCell]
 have hrI:g.I (h.rk i)=0:=(hn.tz _ (by omega)).2
 have hIv:∀k,rb (h.mv i j)=some k->g.I k=0:=fun k hk=>(hn.vt hi hj hk).2
 have hI:∀b o,o<g.I b->o<g.I b/\(w1.setCell ⟨h.rk i,j,none⟩ v').cell? ⟨b,o,none⟩=w.cell? ⟨b,o,none⟩:=fun b o ho=>by
  refine⟨ho,yyb_ (a:=⟨b,o,none⟩) ?_⟩
  rw[hoth b (by rintro rfl;omega)]
  exact hsame b (hn.Ilt b (by omega)) fun e=>by have:=hIv b e;omega
 have hT2:∀k,T k≠0->T k≠100+16*i+j->T k≠4+i->(w1.setCell ⟨h.rk i,j,none⟩ v').heap[k]?=w.heap[k]?:=fun k h0 h1 h2=>by
  rw[hoth k (by rintro rfl;exact h2 hTr)]
  exact hTs k h0 h1
 refine⟨⟨n9,fun k hk=>by rw[hsz];exact zzk_ (hn.Ilt k hk) hs,⟨?_,?_,?_,fun a ha=>?_,fun a b k ha hb hk=>?_⟩,fun k hk=>?_,?_,zu_ hn.hq rfl hI,hn.bcn,hn.mcn,hn.rcn,?_,?_,fun a ha=>?_,fun a b ha hb=>?_⟩,hsz,fun k _ hk=>hoth k hk⟩
 .rw[hTput _ (by rw[hn.tag.x];omega)];exact hn.tag.x
 .show putT T i j v' h.bk=2;rw[hTput _ (by rw[hn.tag.b];omega)];exact hn.tag.b
 .show putT T i j v' h.mb=3;rw[hTput _ (by rw[hn.tag.m];omega)];exact hn.tag.m
 .show putT T i j v' (h.rk a)=4+a;rw[hTput _ (by rw[hn.tag.r a ha];omega)];exact hn.tag.r a ha
 .simp only[Hd.put]at hk
  split at hk
  .next e =>
   obtain⟨rfl,rfl⟩:=e
   simp[putT,hk]
  .rw[hTput k (by rw[hn.tag.v a b k ha hb hk];omega)]
   exact hn.tag.v a b k ha hb hk
 .unfold putT at hk
  rw[hsz]
  split at hk
  .next e =>
   refine⟨(hv k e).2,?_⟩
   rcases(hv k e).1 with e'|e'
   .exact hIv k e'
   .by_cases h0:0<g.I k
    .have:=hn.Ilt k h0;omega
    .omega
  .exact⟨zzk_ (hT0 k hk) hs,(hn.tz k hk).2⟩
 .exact(hT2 X (by rw[hn.tag.x];omega) (by rw[hn.tag.x];omega) (by rw[hn.tag.x];omega)).trans hn.hX
 .obtain⟨cur,c1,c2,c3⟩:=hn.bb
  refine⟨cur,(hT2 h.bk (by rw[hn.tag.b];omega) (by rw[hn.tag.b];omega) (by rw[hn.tag.b];omega)).trans c1,c2,fun a ha p u hu=>?_⟩
  obtain⟨c,q1,q2,q3⟩:=c3 a ha p u hu
  exact⟨c,q1,q2,zu_ q3 (wc_ _ u (zzd_ hu)) hI⟩
 .obtain⟨cur,c1,c2⟩:=hn.mm
  exact⟨cur,(hT2 h.mb (by rw[hn.tag.m];omega) (by rw[hn.tag.m];omega) (by rw[hn.tag.m];omega)).trans c1,c2⟩
 .by_cases he:a=i
  .subst he
   refine⟨_,hset,fun b hb=>?_⟩
   simp only[Hd.put,true_and]
   by_cases hbj:b=j
   .subst hbj
    rw[if_pos rfl]
    simp[hrj]
   .rw[if_neg hbj,Array.getElem?_setIfInBounds_ne (Ne.symm hbj)]
    exact r2 b hb
  .obtain⟨cur,c1,c2⟩:=hn.rr a ha
   have hta:=hn.tag.r a ha
   refine⟨cur,(hT2 (h.rk a) (by omega) (by omega) (by omega)).trans c1,fun b hb=>?_⟩
   simp only[Hd.put]
   rw[if_neg (by rintro⟨e,_⟩;exact he e)]
   exact c2 b hb
 .simp only[updM,Hd.put]
  by_cases he:a=i/\b=j
  .rw[if_pos he,if_pos he]
   refine hm.keep fun k hk=>hoth k ?_
   rintro rfl
   rcases(hv _ hk).1 with e'|e'
   .have:=htv _ e';omega
   .have:=hT0 (h.rk i) (by omega);omega
  .rw[if_neg he,if_neg he]
   refine(hn.vv a b ha hb).keep fun k hk=>?_
   have htk:=hn.tag.v a b k ha hb hk
   exact hT2 k (by omega) (by intro e;apply he;omega) (by omega)
end
section
variable{w:World}
theorem kK_{v:Value}{l:List Vt}(hm:MBx w v l)(m:Vt){kt:Nat}(ht:∀(j:Nat) (u:Value),(fv [m])[j]?=some u->w.cell? ⟨kt,j,none⟩=some u)(hl:l.length<=100000) :
 ∃ v' w', (∀ ty, (Builtin.append_ #[41, 41] ty #[v, .slice (some ⟨kt, 0, none⟩) 1 1]).run Try.prog w = .ok v' w') ∧ MBx w' v' (l ++ [m]) ∧ w'.os = w.os ∧ w'.tape = w.tape ∧ w'.output = w.output ∧ w.heap.size ≤ w'.heap.size ∧
   (∀k,k<w.heap.size->rb v≠some k->w'.heap[k]?=w.heap[k]?)/\∀k,rb v'=some k->(rb v=some k\/w.heap.size<=k)/\k<w'.heap.size:=by
 obtain⟨i0,hi0,hz0,hzs,hzb⟩:∃i0,Try.prog.info? 46=some i0/\i0.zero=some (.agg #[.int .i64 0,.int .i64 0,.int .i64 0,.int .i64 0])/\i0.size=4/\i0.bytes=32:=⟨_,rfl,by kernel_rfl,by kernel_rfl,by kernel_rfl⟩
 have hnl:(fv [m]).length=1*i0.size:=by rw[hzs];rfl
 have hnews:∀j u,(fv [m])[j]?=some u->w.cell? ((⟨kt,0,none⟩:Addr).add j)=some u:=fun j u hj=>by rw[Addr.add_lit,Nat.zero_add];exact ht j u hj
 have fin:∀(old:Nat) (cs:List Value) (L:List Vt),L.length<=100001->old<L.length->cs=fv L->MBx (w.drew.alloc (.cells (cs.toArray++Builtin.zeroCells (Value.agg #[.int .i64 0,.int .i64 0,.int .i64 0,.int .i64 0]).cells (grownCap w L.length old 46-L.length)) 46)) (.slice (some ⟨w.heap.size,0,none⟩) L.length (grownCap w L.length old 46)) L:=by
  rintro old cs L hL ho rfl
  have hge:=grownCap_ge w L.length old 46
  refine .inr ⟨w.heap.size,0,_,_,rfl,by omega,hge,grownCap_le_maxLen w L.length old 46 (by unfold maxLen;omega),heap_alloc_new w.drew _,?_,fun p u hp=>?_⟩
  .have hz:(Builtin.zeroCells (Value.agg #[.int .i64 0,.int .i64 0,.int .i64 0,.int .i64 0]).cells (grownCap w L.length old 46-L.length)).size=(grownCap w L.length old 46-L.length)*4:=by simp[Builtin.zeroCells,Value.cells]
   simp only[Array.size_append,List.size_toArray,hz,lx_]
   omega
  .rw[Nat.zero_add,Array.getElem?_append_left (by have:=(zzc_.1 hp).1;simpa using this)]
   simpa using hp
 have hfits:∀need old,old<need->need<=100001->Builtin.nextslicecap need old*i0.bytes<=281474976710656:=fun need old h1 h2=>by rw[hzb];exact growslice_fits h1 (by omega)
 have hblk:∀(o:Obj) k,k<w.heap.size->(w.drew.alloc o).heap[k]?=w.heap[k]?:=fun o k hk=>Below.heap_alloc w.drew _ k hk
 rcases hm with ⟨rfl,A,rfl⟩|⟨k,off,cap,cur,rfl,h1,h2,h3,h4,h5,h6⟩
 .cases A with
  | none =>
    refine⟨_,_,fun ty=>run_append_nil (P:=Try.prog) w 41 ty 46 i0 _ Try.underlying41 hi0 hz0 ⟨kt,0,none⟩ 1 1 (fv [m]) hnl hnews (by omega) (by omega) (by rw[hzb];omega),?_,rfl,rfl,rfl,by simp,fun k hk _=>hblk _ k hk,fun k hk=>?_⟩
    .have:=fin 0 (fv [m]) [m] (by simp) (by simp) rfl
     simpa using this
    .have:=r7_ hk
     subst this
     exact⟨.inr (zzl_ _),by simp⟩
  | some ad =>
    have hr:=fun ty=>run_append_grow (P:=Try.prog) w 41 ty 46 i0 _ Try.underlying41 hi0 hz0 ad 0 0 [] (by simp) (fun j v hj=>by simp at hj) ⟨kt,0,none⟩ 1 1 (fv [m]) hnl hnews (by omega) (by omega) (hfits 1 0 (by omega) (by omega))
    refine⟨_,_,hr,?_,rfl,rfl,rfl,by simp,fun k hk _=>hblk _ k hk,fun k hk=>?_⟩
    .have:=fin 0 (fv [m]) [m] (by simp) (by simp) rfl
     simpa using this
    .have:=r7_ hk
     subst this
     exact⟨.inr (zzl_ _),by simp⟩
 .have hkw:=(zzm_.1 h4).1
  have hfl:=lx_ l
  by_cases hroom:l.length+1<=cap
  ·have hr:=fun ty=>run_append_room_cells (P:=Try.prog) w 41 ty 46 i0 Try.underlying41 hi0 k off l.length cap ⟨kt,0,none⟩ 1 1 (fv [m]) hnl hnews (iv_ _) hroom
    (fun j hj=>by
     have hj4:j<4:=hj
     rw[hzs]
     have:off+l.length*4+j<cur.size:=by omega
     simp[World.cell?,h4,this])
    (fun j hj=>by simp[World.frozen?,h4])
   rw[hzs]at hr
   obtain⟨cur',q1,q2,q3⟩:=zw_ (fv [m]) (off+l.length*4) w k cur 46 h4 (by show off+l.length*4+4<=cur.size;omega)
   refine⟨_,_,hr,.inr ⟨k,off,cap,cur',by simp,h1,by simp;omega,h3,q1,by omega,fun p u hp=>?_⟩,(z8_ _ _ _ _).1,(z8_ _ _ _ _).2.1,(z8_ _ _ _ _).2.2,?_,fun k' hk' hne=>?_,fun k' hk'=>?_⟩
   .rw[su_]at hp
    have hcl:cur.toList.length=cur.size:=by simp
    rw[<-Array.getElem?_toList,q3,zzq_]
    rcases yym_ p (l.length*4) with hlt|hge
    .rw[zzo_ (by omega)]at hp
     rw[zzo_ (by rw[List.length_take];omega),zzu_,if_pos (by omega),Array.getElem?_toList]
     exact h6 p u hp
    .rw[zzv_ (by omega),hfl]at hp
     have hp4:p-l.length*4<4:=(zzc_.1 hp).1
     rw[zzv_ (by rw[List.length_take];omega),zzo_ (by rw[List.length_take];show _<4;omega)]
     rw[show off+p-(cur.toList.take (off+l.length*4)).length=p-l.length*4 by rw[List.length_take];omega]
     exact hp
   ·have hsz:∀vs o (W:World),(W.setCells k o vs).heap.size=W.heap.size:=fun vs=>by
     induction vs with
     |nil=>intro o W;rfl
     |cons v r ih=>intro o W;rw[World.setCells,ih];simp[World.setCell]
    rw[hsz];exact zzl_ _
   .exact zv_ hk' (by rintro rfl;exact hne (by simp[rb];omega))
   ·have hsz:∀vs o (W:World),(W.setCells k o vs).heap.size=W.heap.size:=fun vs=>by
     induction vs with
     |nil=>intro o W;rfl
     |cons v r ih=>intro o W;rw[World.setCells,ih];simp[World.setCell]
    have e:k'=k:=by simp[rb]at hk';exact hk'.2.symm
    subst e
    exact⟨.inl (by simp[rb];omega),by rw[hsz];exact hkw⟩
  .have hce:cap=l.length:=by omega
   have hr:=fun ty=>run_append_grow (P:=Try.prog) w 41 ty 46 i0 _ Try.underlying41 hi0 hz0 ⟨k,off,none⟩ l.length cap (fv l) (by rw[hzs];exact hfl) (fun j v hj=>by
    rw[Addr.add_lit]
    simpa[World.cell?,h4] using h6 j v hj) ⟨kt,0,none⟩ 1 1 (fv [m]) hnl hnews (by omega) (by omega) (hfits _ _ (by omega) (by omega))
   refine⟨_,_,hr,?_,rfl,rfl,rfl,by simp,fun k hk _=>hblk _ k hk,fun k hk=>?_⟩
   .have:=fin cap (fv l++fv [m]) (l++[m]) (by simp;omega) (by simp;omega) (su_ l [m]).symm
    simpa using this
   .have:=r7_ hk
    subst this
    exact⟨.inr (zzl_ _),by simp⟩
end
end
theorem uv_{P:Program}{w:World}{b o:Nat}{v u:Value}(hc:w.cell? ⟨b,o,none⟩=some u)(hf:w.frozen? ⟨b,o,none⟩=false)(h1:v.oneCell'=true):(store ⟨b,o,none⟩ v).run P w=.ok () (w.setCell ⟨b,o,none⟩ v):=by
 rw[run_store P w _ v _ h1]
 simp[hc,hf]
theorem uY_{P:Program}{w:World}{k o:Nat}{cur:Array Value}{e:TypeId}{v0 v1 v2 v3 v4 v5 v6 v7 v8 v9 v10:Value}(hk:w.heap[k]?=some (.cells cur e (0,0)))(hs:o+11<=cur.size)(h1:∀v∈[v0,v1,v2,v3,v4,v5,v6,v7,v8,v9,v10],v.oneCell'=true) :
 ∃ w1 w2 w3 w4 w5 w6 w7 w8 w9 w10 : World, (store ⟨k, o, none⟩ v0).run P w = .ok () w1 ∧ (store ⟨k, o + 1, none⟩ v1).run P w1 = .ok () w2 ∧ (store ⟨k, o + 2, none⟩ v2).run P w2 = .ok () w3 ∧ (store ⟨k, o + 3, none⟩ v3).run P w3 = .ok () w4 ∧
   (store ⟨k,o+4,none⟩ v4).run P w4=.ok () w5/\(store ⟨k,o+5,none⟩ v5).run P w5=.ok () w6/\(store ⟨k,o+6,none⟩ v6).run P w6=.ok () w7/\(store ⟨k,o+7,none⟩ v7).run P w7=.ok () w8/\(store ⟨k,o+8,none⟩ v8).run P w8=.ok () w9 /\
   (store ⟨k,o+9,none⟩ v9).run P w9=.ok () w10/\(store ⟨k,o+10,none⟩ v10).run P w10=.ok () (w.setCells k o [v0,v1,v2,v3,v4,v5,v6,v7,v8,v9,v10]):=by
 have step:∀(w:World) (cur:Array Value) (o:Nat) (v:Value),w.heap[k]?=some (.cells cur e (0,0))->o<cur.size->v.oneCell'=true->(store ⟨k,o,none⟩ v).run P w=.ok () (w.setCell ⟨k,o,none⟩ v)/\(w.setCell ⟨k,o,none⟩ v).heap[k]?=some (.cells (cur.setIfInBounds o v) e (0,0)):=by
  intro w cur o v hk ho h1
  refine⟨uv_ (u:=cur[o]) (by simp[World.cell?,hk,ho]) (by simp[World.frozen?,hk]) h1,by simp[World.setCell,yyu_,hk]⟩
 obtain⟨a0,b0⟩:=step w cur o v0 hk (by omega) (h1 _ (by simp))
 obtain⟨a1,b1⟩:=step _ _ (o+1) v1 b0 (by simp;omega) (h1 _ (by simp))
 obtain⟨a2,b2⟩:=step _ _ (o+2) v2 b1 (by simp;omega) (h1 _ (by simp))
 obtain⟨a3,b3⟩:=step _ _ (o+3) v3 b2 (by simp;omega) (h1 _ (by simp))
 obtain⟨a4,b4⟩:=step _ _ (o+4) v4 b3 (by simp;omega) (h1 _ (by simp))
 obtain⟨a5,b5⟩:=step _ _ (o+5) v5 b4 (by simp;omega) (h1 _ (by simp))
 obtain⟨a6,b6⟩:=step _ _ (o+6) v6 b5 (by simp;omega) (h1 _ (by simp))
 obtain⟨a7,b7⟩:=step _ _ (o+7) v7 b6 (by simp;omega) (h1 _ (by simp))
 obtain⟨a8,b8⟩:=step _ _ (o+8) v8 b7 (by simp;omega) (h1 _ (by simp))
 obtain⟨a9,b9⟩:=step _ _ (o+9) v9 b8 (by simp;omega) (h1 _ (by simp))
 obtain⟨a10,b10⟩:=step _ _ (o+10) v10 b9 (by simp;omega) (h1 _ (by simp))
 exact⟨_,_,_,_,_,_,_,_,_,_,a0,a1,a2,a3,a4,a5,a6,a7,a8,a9,a10⟩
def yB_(M:Nat->Nat->List Vt)(i:Nat)(l:List Vt)(a b:Nat):List Vt:=if a=i then M a b++l.filter (fun m=>m.to==(b:Int)) else M a b
structure Asd(p:Prop):Prop where
 out:p
theorem qU_(M:Nat->Nat->List Vt)(i:Nat):yB_ M i []=M:=by
 funext a b
 simp[yB_]
theorem rb_(M:Nat->Nat->List Vt)(i:Nat)(l:List Vt)(m:Vt){j:Nat}(hj:m.to=(j:Int)):yB_ M i (l++[m])=updM (yB_ M i l) i j (yB_ M i l i j++[m]):=by
 funext a b
 unfold yB_ updM
 by_cases ha:a=i
 .subst ha
  by_cases hb:b=j
  .subst hb
   simp[hj,List.filter_append]
  .have:(m.to==(b:Int))=false:=by rw[hj];simp;omega
   simp[List.filter_append,hb,this]
 .simp[ha]
theorem qV_(M:Nat->Nat->List Vt)(i:Nat)(l:List Vt)(a b:Nat):(yB_ M i l a b).length<=(M a b).length+l.length:=by
 unfold yB_
 split
 .rw[zzr_];have:=List.length_filter_le (fun m:Vt=>m.to==(b:Int)) l;omega
 .omega
theorem rp_:∀(l:List Vt),flat (vl l)=(fv l).map .s
 |[]=>rfl
 | x :: r => by
   have:=rp_ r
   simp only[vl,List.map_cons,flat,fv,List.flatMap_cons,List.map_append]at this ⊢
   rw[this]
   rfl
theorem nG_{g:Gh}{w:World}{l:List Vt}{A:Option Addr}{c:Nat}{N:Nat}(h:Rep g w (.list 4 (vl l)) (.slice A N c)){p:Nat}(hp:p<l.length):∃b o,A=some ⟨b,o,none⟩/\0<g.I b/\w.cell? ⟨b,o+p*4,none⟩=some (.int .i64 l[p].k) /\
 w.cell? ⟨b,o+p*4+1,none⟩=some (.int .i64 l[p].to)/\w.cell? ⟨b,o+p*4+2,none⟩=some (.int .i64 l[p].st)/\w.cell? ⟨b,o+p*4+3,none⟩=some (.int .i64 l[p].ss):=by
 obtain⟨f0,f1,f2,f3⟩:=iw_ l p hp
 cases h with
 | list vals hc hm hA hz hi hcell hrep =>
   have key:∀(j:Nat) (u:Value),(fv l)[j]?=some u->∃b q,A=some ⟨b,q,none⟩/\q+j<g.I b/\w.cell? ⟨b,q+j,none⟩=some u:=by
    intro j u hu
    have hj:j<(flat (vl l)).length:=by rw[rp_,List.length_map];exact(zzc_.1 hu).1
    obtain⟨b,q,r1,r2,r3⟩:=hcell j hj
    have:=(hrep j (.s u) (by rw[rp_,zzs_,hu];rfl)).of_s rfl
    exact⟨b,q,r1,r2,by rw[r3,this]⟩
   obtain⟨b,o,e,i0,c0⟩:=key _ _ f0
   obtain⟨b1,o1,e1,_,c1⟩:=key _ _ f1
   obtain⟨b2,o2,e2,_,c2⟩:=key _ _ f2
   obtain⟨b3,o3,e3,_,c3⟩:=key _ _ f3
   rw[e]at e1 e2 e3
   cases e1
   cases e2
   cases e3
   exact⟨b,o,e,by omega,c0,by rw[Nat.add_assoc];exact c1,by rw[Nat.add_assoc];exact c2,by rw[Nat.add_assoc];exact c3⟩
theorem xM_{P:Program}{ops:Array Oper}{o:Oper}{a:Act}{w:World}{K:Act->World->Prop}{Q:Exit->Act->World->Prop}{E:Prop}
 (hg:o.guard=none) (d x:Operand) (dT sT:TypeId) (hop:o.op=Op.call { callee:=Callee.builtin Builtin.append,args:=#[d,x],argTypes:=#[dT,sT] })
 (v u:Value) (hd:a.eval d=v) (hx:a.eval x=u) {v':Value} {w':World} (hr:(Builtin.append_ #[dT,sT] o.type #[v,u]).run P w=.ok v' w') (hK:K (a.put o.dst v') w') :
 if Region.wanted o (yielded ops a.tmps)=true then Oper.wp P o a w K Q else E:=by
 have hw:Region.wanted o (yielded ops a.tmps)=true:=by simp[Region.wanted,hg]
 rw[if_pos hw]
 unfold Oper.wp
 simp[execOp,hop,resolve,invoke,builtin,hd,hx,hr,Result.andThen]
 exact hK
structure TkI(T:Nat->Nat)(g:Gh)(w:World)(H X n:Nat)(q:List Int)(B:Nat->Bl)(M:Nat->Nat->List Vt)(cs:Array Value)(T':Nat->Nat)(h':Hd)(wr:World):Prop where
 net:Net T' g wr X n q B M h'
 box:wr.heap[H]?=some (.cells cs 39 (0,0))
 tH:T' H=0
 os:wr.os=w.os
 tape:wr.tape=w.tape
 output:wr.output=w.output
 size:w.heap.size<=wr.heap.size
 fr:∀k,k<w.heap.size->T k=0->T' k=0/\wr.heap[k]?=w.heap[k]?
theorem TkI.step{T:Nat->Nat}{g:Gh}{w:World}{H X n:Nat}{q:List Int}{B:Nat->Bl}{M:Nat->Nat->List Vt}{cs:Array Value}{T':Nat->Nat}{h':Hd}{wr:World}(hI:TkI T g w H X n q B M cs T' h' wr){i j:Nat}(hi:i<n)(hj:j<n)(m:Vt)(hl:(M i j).length<=100000) :
 ∃ (W4 W5 W6 W7 : World) (v' : Value) (T2 : Nat → Nat) (h2 : Hd) (Hp Kt : Nat) (A2 : Option Addr) (N2 C2 : Nat), v' = .slice A2 N2 C2 ∧ wr.heap.size = Hp ∧ wr.alloc (.cells #[.int .i64 m.k, .int .i64 m.to, .int .i64 m.st, .int .i64 m.ss] 46) = W4 ∧
   W4.cell? ⟨Hp,0,none⟩=some (.int .i64 m.k)/\W4.cell? ⟨Hp,1,none⟩=some (.int .i64 m.to)/\W4.cell? ⟨Hp,2,none⟩=some (.int .i64 m.st)/\W4.cell? ⟨Hp,3,none⟩=some (.int .i64 m.ss) /\
   W4.cell? ⟨X,2,none⟩=some (.slice (some ⟨h'.bk,0,none⟩) n h'.bc)/\W4.cell? ⟨X,3,none⟩=some (.slice (some ⟨h'.mb,0,none⟩) n h'.mc)/\W4.cell? ⟨h'.mb,i,none⟩=some (.slice (some ⟨h'.rk i,0,none⟩) n (h'.rc i))/\W4.cell? ⟨h'.rk i,j,none⟩=some (h'.mv i j) /\
   W4.heap.size=Kt/\W4.drew.drew.alloc (.cells #[.int .i64 m.k,.int .i64 m.to,.int .i64 m.st,.int .i64 m.ss] 46)=W5/\(∀ty,(Builtin.append_ #[41,41] ty #[h'.mv i j,.slice (some ⟨Kt,0,none⟩) 1 1]).run Try.prog W5=.ok v' W6) /\
   (W6.frozen? ⟨h'.rk i,j,none⟩=false/\W6.setCell ⟨h'.rk i,j,none⟩ v'=W7)/\(W5.cell? ⟨Hp,0,none⟩=some (.int .i64 m.k)/\W5.cell? ⟨Hp,1,none⟩=some (.int .i64 m.to)/\W5.cell? ⟨Hp,2,none⟩=some (.int .i64 m.st)/\W5.cell? ⟨Hp,3,none⟩=some (.int .i64 m.ss)/\W5.cell? ⟨X,3,none⟩=some (.slice (some ⟨h'.mb,0,none⟩) n h'.mc)/\W5.cell? ⟨h'.mb,i,none⟩=some (.slice (some ⟨h'.rk i,0,none⟩) n (h'.rc i))/\W5.cell? ⟨h'.rk i,j,none⟩=some (h'.mv i j))/\(W6.cell? ⟨Hp,0,none⟩=some (.int .i64 m.k)/\W6.cell? ⟨Hp,1,none⟩=some (.int .i64 m.to)/\W6.cell? ⟨Hp,2,none⟩=some (.int .i64 m.st)/\W6.cell? ⟨Hp,3,none⟩=some (.int .i64 m.ss)/\W6.cell? ⟨X,3,none⟩=some (.slice (some ⟨h'.mb,0,none⟩) n h'.mc)/\W6.cell? ⟨h'.mb,i,none⟩=some (.slice (some ⟨h'.rk i,0,none⟩) n (h'.rc i))/\W6.cell? ⟨h'.rk i,j,none⟩=some (h'.mv i j))/\(W7.cell? ⟨Hp,0,none⟩=some (.int .i64 m.k)/\W7.cell? ⟨Hp,1,none⟩=some (.int .i64 m.to)/\W7.cell? ⟨Hp,2,none⟩=some (.int .i64 m.st)/\W7.cell? ⟨Hp,3,none⟩=some (.int .i64 m.ss)/\W7.cell? ⟨X,3,none⟩=some (.slice (some ⟨h'.mb,0,none⟩) n h'.mc)/\W7.cell? ⟨h'.mb,i,none⟩=some (.slice (some ⟨h'.rk i,0,none⟩) n (h'.rc i)))/\TkI T g w H X n q B (updM M i j (M i j++[m])) cs T2 h2 W7:=by
 obtain⟨hn,hbx,htH,ho1,ho2,ho3,hsz,hfr⟩:=hI
 have n9:=hn.n9
 have hHw:H<wr.heap.size:=(zzm_.1 hbx).1
 obtain⟨W4,hWa⟩:∃W4,wr.alloc (.cells #[.int .i64 m.k,.int .i64 m.to,.int .i64 m.st,.int .i64 m.ss] 46)=W4:=⟨_,rfl⟩
 have b4:W4.heap[wr.heap.size]?=some (.cells #[.int .i64 m.k,.int .i64 m.to,.int .i64 m.st,.int .i64 m.ss] 46 (0,0)):=by rw[<-hWa];exact heap_alloc_new wr _
 have z4:W4.heap.size=wr.heap.size+1:=by rw[<-hWa];simp
 have hW4b:∀k,k<wr.heap.size->W4.heap[k]?=wr.heap[k]?:=fun k hk=>by rw[<-hWa];exact Below.heap_alloc wr _ k hk
 have hWao:W4.os=wr.os/\W4.tape=wr.tape/\W4.output=wr.output:=by rw[<-hWa];exact⟨rfl,rfl,rfl⟩
 have hn4:Net T' g W4 X n q B M h':=hn.grow (by omega) hW4b (fun _ _=>rfl) (fun k hk=>zzk_ (hn.Ilt k hk) (by omega))
 obtain⟨W5,hW5⟩:∃W5,W4.drew.drew.alloc (.cells #[.int .i64 m.k,.int .i64 m.to,.int .i64 m.st,.int .i64 m.ss] 46)=W5:=⟨_,rfl⟩
 have hW5n:W5.heap[W4.heap.size]?=some (.cells #[.int .i64 m.k,.int .i64 m.to,.int .i64 m.st,.int .i64 m.ss] 46 (0,0)):=by rw[<-hW5];exact heap_alloc_new W4.drew.drew _
 have hW5s:W5.heap.size=W4.heap.size+1:=by rw[<-hW5,World.size_alloc];rfl
 have hW5b:∀k,k<W4.heap.size->W5.heap[k]?=W4.heap[k]?:=fun k hk=>by rw[<-hW5];exact Below.heap_alloc W4.drew.drew _ k hk
 have hW5o:W5.os=W4.os/\W5.tape=W4.tape/\W5.output=W4.output:=by rw[<-hW5];exact⟨rfl,rfl,rfl⟩
 have hn5:Net T' g W5 X n q B M h':=hn4.grow (by omega) hW5b (fun _ _=>rfl) (fun k hk=>zzk_ (hn4.Ilt k hk) (by omega))
 obtain⟨v',W6,hrun,hmb,q1,q2,q3,q4,q5,q6⟩:=kK_ (hn5.vv i j hi hj) m (kt:=W4.heap.size) (fun p u hp=>by
  have hp4:p<4:=(zzc_.1 hp).1
  simp only[World.cell?,hW5n]
  match p,hp4 with
  |0,_=>simpa[fv] using hp
  |1,_=>simpa[fv] using hp
  |2,_=>simpa[fv] using hp
  |3,_=>simpa[fv] using hp) hl
 obtain⟨hn7,k1,k2⟩:=hn5.setV hi hj q4 q5 hmb (fun k hk=>q6 k hk)
 obtain⟨cr,r1,r2⟩:=hn5.rr i hi
 have hTr:=hn5.tag.r i hi
 have hr6:W6.heap[h'.rk i]?=some (.cells cr 41 (0,0)):=(q5 _ (hn5.tz _ (by omega)).1 (fun e=>by have:=hn5.tag.v i j _ hi hj e;omega)).trans r1
 have hjc:=(zzm_.1 (r2 j hj)).1
 have hv1:v'.oneCell'=true:=by
  rcases hmb with ⟨_,A,rfl⟩|⟨_,_,_,_,rfl,_⟩<;>rfl
 have hst:(store ⟨h'.rk i,j,none⟩ v').run Try.prog W6=.ok () (W6.setCell ⟨h'.rk i,j,none⟩ v'):=uv_ (u:=cr[j]) (by simp[World.cell?,hr6,hjc]) (by simp[World.frozen?,hr6]) hv1
 have hnotv:∀k,T' k=0->rb (h'.mv i j)≠some k:=fun k h0 e=>by have:=hn5.tag.v i j k hi hj e;omega
 obtain⟨cm,m1,m2⟩:=hn4.mm
 obtain⟨cr4,r41,r42⟩:=hn4.rr i hi
 have hb5:W5.heap[wr.heap.size]?=W4.heap[wr.heap.size]?:=hW5b _ (by omega)
 have hm5:W5.heap[h'.mb]?=W4.heap[h'.mb]?:=hW5b _ (hn4.tz _ (by rw[hn4.tag.m];omega)).1
 have hnT:T' wr.heap.size=0:=by
  by_cases h0:T' wr.heap.size=0
  .exact h0
  .have:=(hn.tz _ h0).1;omega
 have hb6:W6.heap[wr.heap.size]?=W5.heap[wr.heap.size]?:=q5 _ (by omega) (hnotv _ hnT)
 have hX6:W6.heap[X]?=W5.heap[X]?:=q5 _ (hn5.tz _ (by rw[hn5.tag.x];omega)).1 (fun e=>by have:=hn5.tag.v i j _ hi hj e;have:=hn5.tag.x;omega)
 have hm6:W6.heap[h'.mb]?=W5.heap[h'.mb]?:=q5 _ (hn5.tz _ (by rw[hn5.tag.m];omega)).1 (fun e=>by have:=hn5.tag.v i j _ hi hj e;have:=hn5.tag.m;omega)
 have hb7:(W6.setCell ⟨h'.rk i,j,none⟩ v').heap[wr.heap.size]?=W6.heap[wr.heap.size]?:=k2 _ (by omega) (by intro e;have:=(hn.tz _ (show T' (h'.rk i)≠0 by omega)).1;omega)
 have hX7:(W6.setCell ⟨h'.rk i,j,none⟩ v').heap[X]?=W6.heap[X]?:=k2 _ (by have:=(hn5.tz _ (show T' X≠0 by rw[hn5.tag.x];omega)).1;omega) (by intro e;have:=hn5.tag.x;rw[e]at this;omega)
 have hm7:(W6.setCell ⟨h'.rk i,j,none⟩ v').heap[h'.mb]?=W6.heap[h'.mb]?:=k2 _ (by have:=(hn5.tz _ (show T' h'.mb≠0 by rw[hn5.tag.m];omega)).1;omega) (by intro e;have:=hn5.tag.m;rw[e]at this;omega)
 obtain⟨A2,N2,C2,hv2⟩:∃A2 N2 C2,v'=.slice A2 N2 C2:=by
  rcases hmb with ⟨_,A,rfl⟩|⟨_,_,_,_,rfl,_⟩<;>exact⟨_,_,_,rfl⟩
 refine⟨W4,W5,W6,_,v',_,_,wr.heap.size,W4.heap.size,A2,N2,C2,hv2,rfl,hWa,by simp[World.cell?,b4],by simp[World.cell?,b4],by simp[World.cell?,b4],by simp[World.cell?,b4],by simp[World.cell?,hn4.hX],by simp[World.cell?,hn4.hX],?_,?_,rfl,hW5,hrun,⟨by simp[World.frozen?,hr6],rfl⟩,⟨?_,?_,?_,?_,?_,?_,?_⟩,⟨?_,?_,?_,?_,?_,?_,?_⟩,⟨?_,?_,?_,?_,?_,?_⟩,hn7,?_,?_,?_,?_,?_,?_,fun k hk h0=>?_⟩
 .have:=m2 i hi
  simp[World.cell?,m1,this]
 .have:=r42 j hj
  simp[World.cell?,r41,this]
 .simp[World.cell?,hb5,b4]
 .simp[World.cell?,hb5,b4]
 .simp[World.cell?,hb5,b4]
 .simp[World.cell?,hb5,b4]
 .simp[World.cell?,hn5.hX]
 .have:=m2 i hi
  simp[World.cell?,hm5,m1,this]
 .have:=r2 j hj
  simp[World.cell?,r1,this]
 .simp[World.cell?,hb6,hb5,b4]
 .simp[World.cell?,hb6,hb5,b4]
 .simp[World.cell?,hb6,hb5,b4]
 .simp[World.cell?,hb6,hb5,b4]
 .simp[World.cell?,hX6,hn5.hX]
 .have:=m2 i hi
  simp[World.cell?,hm6,hm5,m1,this]
 .have:=r2 j hj
  simp[World.cell?,hr6,this]
 .simp only[World.cell?,hb7,hb6,hb5,b4];simp
 .simp only[World.cell?,hb7,hb6,hb5,b4];simp
 .simp only[World.cell?,hb7,hb6,hb5,b4];simp
 .simp only[World.cell?,hb7,hb6,hb5,b4];simp
 .simp only[World.cell?,hX7,hX6,hn5.hX];simp
 .have:=m2 i hi
  simp only[World.cell?,hm7,hm6,hm5,m1];simpa using this
 .rw[k2 H (by omega) (by rintro rfl;omega),q5 H (by omega) (hnotv H htH),hW5b H (by omega),hW4b H hHw]
  exact hbx
 .unfold putT
  split
  .next e =>
   rcases(q6 H e).1 with e'|e'
   .exact absurd e' (hnotv H htH)
   .omega
  .exact htH
 .exact q1.trans (hW5o.1.trans (hWao.1.trans ho1))
 .exact q2.trans (hW5o.2.1.trans (hWao.2.1.trans ho2))
 .exact q3.trans (hW5o.2.2.trans (hWao.2.2.trans ho3))
 .rw[k1];omega
 .obtain⟨f1,f2⟩:=hfr k hk h0
  refine⟨?_,?_⟩
  .unfold putT
   split
   .next e =>
    rcases(q6 k e).1 with e'|e'
    .exact absurd e' (hnotv k f1)
    .omega
   .exact f1
  .rw[k2 k (by omega) (by rintro rfl;omega),q5 k (by omega) (hnotv k f1),hW5b k (by omega),hW4b k (by omega)]
   exact f2
end Go.Proofs.Ytpfjlnmnolbiaaa
namespace Go.Proofs.Ytpfjlnmnolbiaaa
open Go Go.Proofs
def zA_(P:Program)(ops:Array Oper)(Q:Exit->Act->World->Prop)(S:World->Prop)(t:Nat):Nat->Array Bool->Act->World->Prop
 |0,listed,a,w=>Region.ready .any ops listed=[]/\Q .normal a w
 | f + 1, listed, a, w =>
   (Region.ready .any ops listed=[]->Q .normal a w) /\
   ∀i∈Region.ready .any ops listed,wpOp P ops Q i (fun a' w'=>((listed.setIfInBounds i true).getD t true=false->S w')/\zA_ P ops Q S t f (listed.setIfInBounds i true) a' w') a w
def Closed(ops:Array Oper)(listed:Array Bool):Prop:=∀j oj,ops[j]?=some oj->listed.getD j false=true->∀e∈oj.after,Region.binds .any e=true->listed.getD e.on false=true
def pA_(ops:Array Oper):Nat->List Nat->List Nat
 |0,L=>L
 |f+1,L=>pA_ ops f (L++L.flatMap fun j=>match ops[j]? with|some o=>(o.after.filter (fun e=>Region.binds .any e)).toList.map (·.on)|none=>[])
section
variable{P:Program}{ops:Array Oper}{Q:Exit->Act->World->Prop}{S:World->Prop}{t:Nat}
theorem tF_{listed:Array Bool}(hc:Closed ops listed):∀(f:Nat) (L:List Nat),(∀x∈L,listed.getD x false=true)->∀y∈pA_ ops f L,listed.getD y false=true
 |0,L,h,y,hy=>h y hy
 | f + 1, L, h, y, hy => by
   refine tF_ hc f _ (fun x hx=>?_) y hy
   rcases zzw_.1 hx with hx|hx
   .exact h x hx
   .obtain⟨j,hj,hx⟩:=List.mem_flatMap.1 hx
    split at hx
    .next o ho =>
     obtain⟨e,he,rfl⟩:=List.mem_map.1 hx
     have he':=Array.mem_filter.1 (Array.mem_toList_iff.1 he)
     exact hc j o ho (h j hj) e he'.1 he'.2
    .simp at hx
theorem Closed.set{listed:Array Bool}(hc:Closed ops listed){i:Nat}(hi:i∈Region.ready .any ops listed):Closed ops (listed.setIfInBounds i true):=by
 obtain⟨_,oi,hoi,hall⟩:=mem_ready.1 hi
 intro j oj hj hl e he hb
 by_cases hij:i=j
 .subst hij
  have:oj=oi:=Option.some.inj (hj.symm.trans hoi)
  subst this
  exact getD_set_true (hall e he hb)
 .rw[getD_set_ne false hij]at hl
  exact getD_set_true (hc j oj hj hl e he hb)
theorem uj_:∀(f:Nat) (listed:Array Bool) (a:Act) (w:World),zA_ P ops Q S t f listed a w->wpAny P .any ops Q f listed a w
 |0,_,_,_,h=>h
 |f+1,_,_,_,h=>⟨h.1,fun i hi=>wpOp_mono (fun a' w' h'=>uj_ f _ a' w' h'.2) (h.2 i hi)⟩
theorem vd_{i:Nat}{oi:Oper}{v:Value}{Si:World->Prop}(hi:ops[i]?=some oi)(hit:i≠t)(hsel:∀(j:Nat) (o:Oper) cs b,ops[j]?=some o->o.op≠.select cs b)
 (hQ:∀c a w,Q (.panic c) (a.put oi.dst v) w->Q (.panic c) a w)
 (hSi:∀(listed:Array Bool) (w:World),listed.size=ops.size->Closed ops listed->listed.getD i true=false->(listed.getD t true=false->S w)->Si w) :
 ∀ (f : Nat) (listed : Array Bool) (a : Act) (w : World), listed.size = ops.size → Closed ops listed →
   (∀j oj,ops[j]?=some oj->j≠i->listed.getD j true=false->(∀e∈oj.after,Region.binds .any e=true->e.on≠i)->oi.apart ops oj=true) ->
   i∈Region.ready .any ops listed->YieldsIf P ops Si oi v a->(listed.getD t true=false->S w) ->
   zA_ P ops Q S t f (listed.setIfInBounds i true) (a.put oi.dst v) w->zA_ P ops Q S t (f+1) listed a w:=by
 intro f
 induction f with
 | zero =>
   intro listed a w hsz hcl _ hr hy hS H
   refine⟨fun h=>(by rw[h]at hr;cases hr),fun j hj=>?_⟩
   by_cases hji:j=i
   .subst hji
    refine hy.wpOp hi (hSi listed w hsz hcl (mem_ready.1 hr).1 hS) ⟨fun h=>hS ?_,H⟩
    by_cases e:j=t
    .subst e;exact(mem_ready.1 hr).1
    .rwa [getD_set_ne true e]at h
   .have:=ready_mono hj hji
    rw[H.1]at this
    cases this
 | succ f ih =>
   intro listed a w hsz hcl hfree hr hy hS H
   refine⟨fun h=>(by rw[h]at hr;cases hr),fun j hj=>?_⟩
   by_cases hji:j=i
   .subst hji
    refine hy.wpOp hi (hSi listed w hsz hcl (mem_ready.1 hr).1 hS) ⟨fun h=>hS ?_,H⟩
    by_cases e:j=t
    .subst e;exact(mem_ready.1 hr).1
    .rwa [getD_set_ne true e]at h
   .have h1:=H.2 j (ready_mono hj hji)
    obtain⟨hjun,oj,hoj,hall⟩:=mem_ready.1 hj
    have hnot:∀e∈oj.after,Region.binds .any e=true->e.on≠i:=fun e he hb heq=>by
     have h1:=hall e he hb
     have h0:=(mem_ready.1 hr).1
     rw[heq]at h1
     rcases yym_ i listed.size with h'|h'
     .simp[h']at h0 h1;rw[h0]at h1;cases h1
     .simp[Array.getElem?_eq_none h']at h1
    have h2:=wpOp_putIf hoj (hfree j oj hoj hji hjun hnot) (fun cs b=>hsel i oi cs b hi) (fun cs b=>hsel j oj cs b hoj) hQ hy h1
    have hfree':∀k ok,ops[k]?=some ok->k≠i->(listed.setIfInBounds j true).getD k true=false ->
     (∀e∈ok.after,Region.binds .any e=true->e.on≠i)->oi.apart ops ok=true:=fun k ok hk hki hun hno=>by
     refine hfree k ok hk hki ?_ hno
     by_cases hjk:j=k
     .subst hjk;exact hjun
     .rw[getD_set_ne true hjk]at hun;exact hun
    have hSj:∀w':World,(((listed.setIfInBounds i true).setIfInBounds j true).getD t true=false->S w')->(listed.setIfInBounds j true).getD t true=false->S w':=by
     intro w' hs ht
     refine hs ?_
     rw[Array.setIfInBounds_comm _ _ (Ne.symm hji),getD_set_ne true hit]
     exact ht
    refine wpOp_mono (fun a' w' h3=>⟨hSj w' h3.2.1,ih (listed.setIfInBounds j true) a' w' (by simp[hsz]) (hcl.set hj) hfree' (ready_mono hr (Ne.symm hji)) h3.1 (hSj w' h3.2.1) ?_⟩) h2
    rw[Array.setIfInBounds_comm _ _ hji]
    exact h3.2.2
def wm_(ops:Array Oper)(listed:Array Bool):Bool:=(List.range ops.size).all fun j=>match ops[j]? with|some o=>!listed.getD j false||o.after.all (fun e=>!Region.binds .any e||listed.getD e.on false)|none=>true
theorem vh_{listed:Array Bool}(h:wm_ ops listed=true):Closed ops listed:=by
 intro j oj hj hl e he hb
 have:=zzh_.1 h j (List.mem_range.2 (zzm_.1 hj).1)
 rw[hj]at this
 simp only[hl,Bool.not_true,Bool.false_or]at this
 have:=Array.all_eq_true'.1 this e he
 simpa[hb] using this
theorem tD_{i:Nat}{oi:Oper}{v:Value}{f:Nat}{listed:Array Bool}{a:Act}{w:World}(hi:ops[i]?=some oi)(hit:i≠t)
 (hs:Region.noSelect ops=true) (hf:Region.free .any ops listed i=true) (hr:(Region.ready .any ops listed).contains i=true) (hc:wm_ ops listed=true) (hsz:listed.size=ops.size)
 (hQ:∀c a w,Q (.panic c) (a.put oi.dst v) w->Q (.panic c) a w) (hw:Region.wanted oi (yielded ops a.tmps)=true) (hy:∀w,(execOp a.eval oi).run P w=.ok (.value v) w) (hS:listed.getD t true=false->S w)
 (h:zA_ P ops Q S t f (listed.setIfInBounds i true) (a.put oi.dst v) w):zA_ P ops Q S t (f+1) listed a w :=
 vd_ (Si:=fun _=>True) hi hit (Region.noSelect_spec hs) hQ (fun _ _ _ _ _ _=>trivial) f listed a w hsz (vh_ hc) (Region.free_spec hi hf) (by simpa using hr) (.inl ⟨hw,fun w _=>hy w⟩) hS h
theorem tC_{i:Nat}{oi:Oper}{v:Value}{f:Nat}{listed:Array Bool}{a:Act}{w:World}(hi:ops[i]?=some oi)(hit:i≠t)
 (hs:Region.noSelect ops=true) (hf:Region.free .any ops listed i=true) (hr:(Region.ready .any ops listed).contains i=true) (hc:wm_ ops listed=true) (hwt:decide (t<ops.size)&&(pA_ ops 4 [t]).contains i=true) (hsz:listed.size=ops.size)
 (hQ:∀c a w,Q (.panic c) (a.put oi.dst v) w->Q (.panic c) a w) (hw:Region.wanted oi (yielded ops a.tmps)=true) (hy:∀w,S w->(execOp a.eval oi).run P w=.ok (.value v) w) (hS:listed.getD t true=false->S w)
 (h:zA_ P ops Q S t f (listed.setIfInBounds i true) (a.put oi.dst v) w):zA_ P ops Q S t (f+1) listed a w:=by
 simp only[zzg_,zzp_]at hwt
 refine vd_ (Si:=S) hi hit (Region.noSelect_spec hs) hQ (fun listed' w' hsz' hcl hun hSw=>hSw ?_) f listed a w hsz (vh_ hc) (Region.free_spec hi hf) (by simpa using hr) (.inl ⟨hw,hy⟩) hS h
 cases e:listed'.getD t true with
 |false=>rfl
 | true =>
   exfalso
   have htl:t<listed'.size:=by omega
   have e':listed'.getD t false=true:=by rw[Array.getD,dif_pos htl]at e ⊢;exact e
   have hm:=tF_ hcl 4 [t] (fun x hx=>by rw[List.mem_singleton.1 hx];exact e') i (by simpa using hwt.2)
   have hil:i<listed'.size:=by
    rcases yym_ i listed'.size with h|h
    .exact h
    .rw[Array.getD,dif_neg (by omega)]at hm;cases hm
   rw[Array.getD,dif_pos hil]at hm hun
   rw[hm]at hun
   cases hun
theorem qI_{rs:List Nat}{f:Nat}{listed:Array Bool}{a:Act}{w:World}(hr:Region.ready .any ops listed=rs)(hne:rs≠[])
 (h:∀i∈rs,wpOp P ops Q i (fun a' w'=>((listed.setIfInBounds i true).getD t true=false->S w')/\zA_ P ops Q S t f (listed.setIfInBounds i true) a' w') a w):zA_ P ops Q S t (f+1) listed a w :=
 ⟨fun h0=>absurd (hr ▸ h0) hne,hr ▸ h⟩
def AllG(P:Program)(ops:Array Oper)(Q:Exit->Act->World->Prop)(S:World->Prop)(t:Nat)(f:Nat)(listed:Array Bool)(a:Act)(w:World)(rs:List Nat):Prop :=
 ∀i∈rs,wpOp P ops Q i (fun a' w'=>((listed.setIfInBounds i true).getD t true=false->S w')/\zA_ P ops Q S t f (listed.setIfInBounds i true) a' w') a w
theorem AllG.nil{f:Nat}{listed:Array Bool}{a:Act}{w:World}:AllG P ops Q S t f listed a w []:=fun _ h=>by cases h
theorem AllG.cons{f:Nat}{listed:Array Bool}{a:Act}{w:World}{i:Nat}{o:Oper}{rs:List Nat}(ho:ops[i]?=some o)
 (h:∀K':Act->World->Prop,Shut (∀a w,((listed.setIfInBounds i true).getD t true=false->S w)->zA_ P ops Q S t f (listed.setIfInBounds i true) a w->K' a w)->if Region.wanted o (yielded ops a.tmps)=true then Oper.wp P o a w K' Q else K' (a.put o.dst undef) w)
 (hs:AllG P ops Q S t f listed a w rs):AllG P ops Q S t f listed a w (i::rs):=fun j hj=>by
 rcases List.mem_cons.1 hj with rfl|hj
 .exact wpOp_step ho (fun K' hK=>h K' (fun a w hS hW=>hK a w ⟨hS,hW⟩))
 .exact hs j hj
theorem xK_{rs:List Nat}{f:Nat}{listed:Array Bool}{a:Act}{w:World}(hr:Region.ready .any ops listed=rs)(hne:rs≠[])(h:AllG P ops Q S t f listed a w rs):zA_ P ops Q S t (f+1) listed a w:=qI_ hr hne h
theorem nN_{o:Oper}{a:Act}{w w':World}{K:Act->World->Prop}{E:Prop}{v:Value}(hg:o.guard=none)(hr:(execOp a.eval o).run P w=.ok (.value v) w')(hK:K (a.put o.dst v) w') :
 if Region.wanted o (yielded ops a.tmps)=true then Oper.wp P o a w K Q else E:=by
 have hw:Region.wanted o (yielded ops a.tmps)=true:=by simp[Region.wanted,hg]
 rw[if_pos hw]
 unfold Oper.wp
 rw[hr]
 exact hK
theorem uk_:∀(l:List Oper) (k:Nat) (listed:Array Bool) (a:Act) (w:World),(∀j,l[j]?=ops[k+j]?)->Region.seqB .any ops l.length k listed=true->(k=t\/listed.getD t true=true)->t<listed.size->wpList P ops Q l a w->zA_ P ops Q S t l.length listed a w
 |[],_,_,_,_,_,hB,_,_,h=>⟨by simpa[Region.seqB] using hB,h⟩
 | o :: l, k, listed, a, w, hl, hB, ht, hsz, h => by
   have h0:ops[k]?=some o:=by simpa using(hl 0).symm
   simp only[List.length_cons,Region.seqB,zzg_,zzp_]at hB
   refine⟨fun h1=>(by rw[hB.1]at h1;cases h1),fun i hi=>?_⟩
   rw[hB.1]at hi
   have hik:i=k:=by simpa using hi
   subst hik
   have hw:wpOp P ops Q i (wpList P ops Q l) a w:=by unfold wpOp;simp only[h0];exact h
   have hT:(listed.setIfInBounds i true).getD t true=true:=by
    by_cases e:i=t
    .subst e
     rw[Array.getD,dif_pos (by simpa using hsz)]
     simp
    .rw[getD_set_ne true e]
     exact ht.resolve_left e
   refine wpOp_mono (fun a' w' h'=>⟨fun q=>(by rw[hT]at q;cases q),?_⟩) hw
   exact uk_ l (i+1) _ a' w' (fun j=>by have:=hl (j+1);simpa[Nat.add_assoc,Nat.add_comm 1 j] using this) hB.2 (.inr hT) (by simpa using hsz) h'
theorem wj_{l r:List Oper}{i:Nat}{o:Oper}(h:l.drop i=o::r):l.toArray[i]?=some o:=by
 have:(l.drop i)[0]?=some o:=by rw[h];rfl
 simpa using this
theorem pr_{l r:List Oper}{i:Nat}{oi:Oper}{v:Value}{f:Nat}{listed:Array Bool}{a:Act}{w:World}(hi:l.drop i=oi::r)(hit:i≠t)
 (hs:Region.noSelect l.toArray=true) (hf:Region.free .any l.toArray listed i=true) (hr:(Region.ready .any l.toArray listed).contains i=true) (hc:wm_ l.toArray listed=true) (hsz:listed.size=l.toArray.size)
 (hQ:∀c a w,Q (.panic c) (a.put oi.dst v) w->Q (.panic c) a w) (hw:Region.wanted oi (yielded l.toArray a.tmps)=true) (hy:∀w,(execOp a.eval oi).run P w=.ok (.value v) w) (hS:listed.getD t true=false->S w)
 (h:zA_ P l.toArray Q S t f (listed.setIfInBounds i true) (a.put oi.dst v) w):zA_ P l.toArray Q S t (f+1) listed a w :=
 tD_ (wj_ hi) hit hs hf hr hc hsz hQ hw hy hS h
theorem pq_{l r:List Oper}{i:Nat}{oi:Oper}{v:Value}{f:Nat}{listed:Array Bool}{a:Act}{w:World}(hi:l.drop i=oi::r)(hit:i≠t)
 (hs:Region.noSelect l.toArray=true) (hf:Region.free .any l.toArray listed i=true) (hr:(Region.ready .any l.toArray listed).contains i=true) (hc:wm_ l.toArray listed=true) (hwt:decide (t<l.toArray.size)&&(pA_ l.toArray 4 [t]).contains i=true) (hsz:listed.size=l.toArray.size)
 (hQ:∀c a w,Q (.panic c) (a.put oi.dst v) w->Q (.panic c) a w) (hw:Region.wanted oi (yielded l.toArray a.tmps)=true) (hy:∀w,S w->(execOp a.eval oi).run P w=.ok (.value v) w) (hS:listed.getD t true=false->S w)
 (h:zA_ P l.toArray Q S t f (listed.setIfInBounds i true) (a.put oi.dst v) w):zA_ P l.toArray Q S t (f+1) listed a w :=
 tC_ (wj_ hi) hit hs hf hr hc hwt hsz hQ hw hy hS h
theorem uT_{l r:List Oper}{f:Nat}{listed:Array Bool}{a:Act}{w:World}{i:Nat}{o:Oper}{rs:List Nat}(hi:l.drop i=o::r)
 (h:∀K':Act->World->Prop,Shut (∀a w,((listed.setIfInBounds i true).getD t true=false->S w)->zA_ P l.toArray Q S t f (listed.setIfInBounds i true) a w->K' a w)->if Region.wanted o (yielded l.toArray a.tmps)=true then Oper.wp P o a w K' Q else K' (a.put o.dst undef) w)
 (hs:AllG P l.toArray Q S t f listed a w rs):AllG P l.toArray Q S t f listed a w (i::rs):=AllG.cons (wj_ hi) h hs
theorem ps_{l:List Oper}{f:Nat}{listed:Array Bool}{a:Act}{w:World}(hf:f=(l.drop t).length)(hs:Region.seqB .any l.toArray (l.drop t).length t listed=true)(hsz:t<listed.size)(h:wpList P l.toArray Q (l.drop t) a w):zA_ P l.toArray Q S t f listed a w:=by
 subst hf
 exact uk_ (l.drop t) t listed a w (fun j=>by simp[zzA_]) hs (.inl rfl) hsz h
theorem vb_{l:List Oper}{id:Nat}{a:Act}{w:World}(S:World->Prop)(t:Nat)(hm:P.follows .mixedOrders=true)(h:zA_ P l.toArray Q S t l.length (Array.replicate l.length false) a w.drew):(Code.region id l.toArray true).wp P Q a w :=
 wp_region_any hm (uj_ _ _ _ _ (by simpa using h))
end
end Go.Proofs.Ytpfjlnmnolbiaaa
namespace Go.Proofs.Ytpfjlnmnolbiaaa
open Go Go.Proofs
section
variable{P:Program}{ops:Array Oper}{Q:Exit->Act->World->Prop}{S:World->Prop}{t:Nat}
theorem zR_{l r:List Oper}{i:Nat}{oi:Oper}{v:Value}{f:Nat}{listed:Array Bool}{a:Act}{w:World}(hi:l.drop i=oi::r)
 (hk:(Region.noSelect l.toArray&&Region.free .any l.toArray listed i&&(Region.ready .any l.toArray listed).contains i&&wm_ l.toArray listed&&listed.size==l.toArray.size&&i != t)=true)
 (hQ:∀c a w,Q (.panic c) (a.put oi.dst v) w->Q (.panic c) a w) (hw:Region.wanted oi (yielded l.toArray a.tmps)=true) (hy:∀w,(execOp a.eval oi).run P w=.ok (.value v) w) (hS:listed.getD t true=false->S w)
 (h:zA_ P l.toArray Q S t f (listed.setIfInBounds i true) (a.put oi.dst v) w):zA_ P l.toArray Q S t (f+1) listed a w:=by
 simp only[zzg_,beq_iff_eq,bne_iff_ne]at hk
 exact pr_ hi hk.2 hk.1.1.1.1.1 hk.1.1.1.1.2 hk.1.1.1.2 hk.1.1.2 hk.1.2 hQ hw hy hS h
theorem xJ_{l r:List Oper}{i:Nat}{oi:Oper}{v:Value}{f:Nat}{listed:Array Bool}{a:Act}{w:World}(hi:l.drop i=oi::r)
 (hk:(Region.noSelect l.toArray&&Region.free .any l.toArray listed i&&(Region.ready .any l.toArray listed).contains i&&wm_ l.toArray listed&&listed.size==l.toArray.size&&i != t)=true) (hk2:decide (t<l.toArray.size)&&(pA_ l.toArray 4 [t]).contains i=true)
 (hQ:∀c a w,Q (.panic c) (a.put oi.dst v) w->Q (.panic c) a w) (hw:Region.wanted oi (yielded l.toArray a.tmps)=true) (hy:∀w,S w->(execOp a.eval oi).run P w=.ok (.value v) w) (hS:listed.getD t true=false->S w)
 (h:zA_ P l.toArray Q S t f (listed.setIfInBounds i true) (a.put oi.dst v) w):zA_ P l.toArray Q S t (f+1) listed a w:=by
 simp only[zzg_,beq_iff_eq,bne_iff_ne]at hk
 exact pq_ hi hk.2 hk.1.1.1.1.1 hk.1.1.1.1.2 hk.1.1.1.2 hk.1.1.2 hk2 hk.1.2 hQ hw hy hS h
theorem xH_{rs:List Nat}{f:Nat}{listed:Array Bool}{a:Act}{w:World}(hr:(Region.ready .any ops listed==rs&&!rs.isEmpty)=true)(h:AllG P ops Q S t f listed a w rs):zA_ P ops Q S t (f+1) listed a w:=by
 rw[zzg_]at hr
 exact xK_ (eq_of_beq hr.1) (by rintro rfl;simp at hr) h
end
end Go.Proofs.Ytpfjlnmnolbiaaa
namespace Go.Proofs.Ytpfjlnmnolbiaaa
open Go.RowKit Go.Proofs
theorem xo_{m:Nat}{w wx:World}{b o:Nat}{v:Option Value}(h:Below m w wx)(hc:w.cell? ⟨b,o,none⟩=v)(hb:b<m):wx.cell? ⟨b,o,none⟩=v :=
 (yyb_ (a:=⟨b,o,none⟩) (h.block b hb)).trans hc
theorem wT_{T:Nat->Nat}{g:Gh}{w:World}{X n:Nat}{q:List Int}{B:Nat->Bl}{M:Nat->Nat->List Vt}{h:Hd}(hn:Net T g w X n q B M h){i:Nat}(hi:i<n){b:Bl}{vs:Array Value}{A:Option Addr}{cap:Nat}{l:List Vt}
 (hq:q.length<=1000) (hb:b.sm) (hbv:Rep g w b.v (.agg vs)) (hlv:Rep g w (.list 4 (vl l)) (.slice A l.length cap)) (hto:∀m∈l,0<=m.to/\m.to<n) (hl:l.length<=1000) (hM:∀a b,(M a b).length+l.length<=100000) :
 Calls Try.prog 31 #[.pointer (some ⟨X,0,none⟩),.int .i64 i,.agg vs,.slice A l.length cap] w fun e w'=>∃T' g' h',e=.returned (.bool (bOk n q i b))/\Net T' g' w' X n q (updB B i b) (yB_ M i l) h' /\
  w'.os=w.os/\w'.tape=w.tape/\w'.output=w.output/\w.heap.size<=w'.heap.size/\(∀k,k<w.heap.size->T k=0->T' k=0/\w'.heap[k]?=w.heap[k]?)/\(∀k,k<w.heap.size->g'.I k=g.I k):=by
 have mx:=zp_
 obtain⟨v0,v1,v2,v3,v4,v5,v6,v7,v8,v9,v10,rfl⟩:∃v0 v1 v2 v3 v4 v5 v6 v7 v8 v9 v10,vs=#[v0,v1,v2,v3,v4,v5,v6,v7,v8,v9,v10]:=by
  cases hbv with
  | agg e1 e2 e3 =>
    have:vs.toList.length=11:=by have:=e1;simp[Bl.cs]at this;simp;omega
    match hv:vs.toList,this with
    |[a0,a1,a2,a3,a4,a5,a6,a7,a8,a9,a10],_=>exact⟨a0,a1,a2,a3,a4,a5,a6,a7,a8,a9,a10,Array.ext' (by simpa using hv)⟩
 have hone:∀v∈[v0,v1,v2,v3,v4,v5,v6,v7,v8,v9,v10],v.oneCell'=true:=by
  cases hbv with
  |agg e1 e2 e3=>exact e2
 have hrep:∀(j:Nat) (u:V) (c:Value),b.cs[j]?=some u->[v0,v1,v2,v3,v4,v5,v6,v7,v8,v9,v10][j]?=some c->Rep g w u c:=by
  cases hbv with
  |agg e1 e2 e3=>exact fun j u c hu hc=>e3 j u c hu (by simpa using hc)
 have hiz:(i:Int)<n:=by omega
 have hi0:¬(i:Int)<0:=by omega
 have hbcn:=hn.bcn
 -- the box of the state
 obtain⟨H,hH⟩:∃H,H=w.heap.size:=⟨_,rfl⟩
 obtain⟨W,hW⟩:∃W,W=w.alloc (.cells #[v0,v1,v2,v3,v4,v5,v6,v7,v8,v9,v10] 39):=⟨_,rfl⟩
 have hWb:∀k,k<H->W.heap[k]?=w.heap[k]?:=fun k hk=>by rw[hW];exact Below.heap_alloc w _ k (by omega)
 have hWn:W.heap[H]?=some (.cells #[v0,v1,v2,v3,v4,v5,v6,v7,v8,v9,v10] 39 (0,0)):=by rw[hW,hH];exact heap_alloc_new w _
 have hnW:Net T g W X n q B M h:=by
  rw[hW]
  exact hn.grow (by simp) (fun k hk=>Below.heap_alloc w _ k hk) (fun _ _=>rfl) (fun k hk=>zzk_ (hn.Ilt k hk) (by simp))
 have c0:∀j,W.cell? ⟨H,j,none⟩=(#[v0,v1,v2,v3,v4,v5,v6,v7,v8,v9,v10]:Array Value)[j]?:=fun j=>by simp[World.cell?,hWn]
 have cX:W.cell? ⟨X,2,none⟩=some (.slice (some ⟨h.bk,0,none⟩) n h.bc):=by simp[World.cell?,hnW.hX]
 obtain⟨cb,cb1,cb2,_⟩:=hnW.bb
 obtain⟨y1,y2,y3,y4,y5,y6,y7,y8,y9,y10,z0,z1,z2,z3,z4,z5,z6,z7,z8,z9,z10⟩:=uY_ (P:=Try.prog) (w:=W.drew) (o:=i*11) cb1 (by omega) hone
 obtain⟨W1,hW1⟩:∃W1,W1=W.drew.setCells h.bk (i*11) [v0,v1,v2,v3,v4,v5,v6,v7,v8,v9,v10]:=⟨_,rfl⟩
 rw[<-hW1]at z10
 have hWa:w.alloc (.cells #[v0,v1,v2,v3,v4,v5,v6,v7,v8,v9,v10] 39)=W:=hW.symm
 clear hW
 have HW1:=Lib.hid hW1
 clear hW1
 have hHs:w.heap.size=H:=hH.symm
 clear hH
 go_enter Try.func31,Try.ntmps31
 go_wp2
 go_region
 have hlen64:(l.length:Int)<9223372036854775807:=by omega
 have hn1:TkI T g w H X n q (updB B i b) (yB_ M i (l.take 0)) #[v0,v1,v2,v3,v4,v5,v6,v7,v8,v9,v10] T h W1:=by
  have hd:Net T g W.drew X n q B M h:=hnW.grow (zzl_ _) (fun _ _=>rfl) (fun _ _=>rfl) hnW.Ilt
  have hrW:∀(j:Nat) (u:V) (c:Value),b.cs[j]?=some u->[v0,v1,v2,v3,v4,v5,v6,v7,v8,v9,v10][j]?=some c->Rep g W.drew u c:=fun j u c hu hc=>zu_ (hrep j u c hu hc) (wc_ _ u (zzd_ hu)) fun b o ho=>⟨ho,yyb_ (a:=⟨b,o,none⟩) (hWb b (by rw[<-hHs];exact hn.Ilt b (by omega)))⟩
  obtain⟨k1,k2,k3⟩:=hd.setB hi (vs:=[v0,v1,v2,v3,v4,v5,v6,v7,v8,v9,v10]) rfl hone hrW
  have hHW:H<W.drew.heap.size:=(zzm_.1 hWn).1
  have hTH:T H=0:=by
   by_cases h0:T H=0
   .exact h0
   .have:=(hn.tz H h0).1;omega
  rw[HW1.out,List.take_zero,qU_]
  have hWo:W.drew.os=w.os/\W.drew.tape=w.tape/\W.drew.output=w.output:=by rw[<-hWa];exact⟨rfl,rfl,rfl⟩
  have hf:=z8_ h.bk [v0,v1,v2,v3,v4,v5,v6,v7,v8,v9,v10] (i*11) W.drew
  refine⟨k1,?_,hTH,hf.1.trans hWo.1,hf.2.1.trans hWo.2.1,hf.2.2.trans hWo.2.2,by rw[k2];omega,fun k hk h0=>⟨h0,?_⟩⟩
  .rw[k3 H hHW (by rintro rfl;have:=hn.tag.b;omega)];exact hWn
  .rw[k3 k (by omega) (by rintro rfl;have:=hn.tag.b;omega)];exact hWb k (by omega)
 have HI1:=Lib.hid hn1
 have HN:=Lib.hid hn
 have HL:=Lib.hid hlv
 have HTO:=Lib.hid hto
 have HM:=Lib.hid hM
 have HV:=Lib.hid (And.intro hrep hone)
 clear hn1 z0 z1 z2 z3 z4 z5 z6 z7 z8 z9 z10 c0 cX cb1 hnW hWn hWb hWa hn hlv hto hM hrep hone hbv cb2
 go_wp2
 go_loopg [20] l.length (fun kx s20 wr=>∃(p:Nat) (T':Nat->Nat) (h':Hd),s20=.int .i64 p/\p+kx=l.length/\TkI T g w H X n q (updB B i b) (yB_ M i (l.take p)) #[v0,v1,v2,v3,v4,v5,v6,v7,v8,v9,v10] T' h' wr)
 case atStart=>exact⟨0,T,h,rfl,by omega,HI1.out⟩
 case round =>
  obtain⟨p,T',h',rfl,hp,hI⟩:=hrel
  have HI:=Lib.hid hI
  have hIc:∀b o,o<g.I b->o<g.I b/\wr.cell? ⟨b,o,none⟩=w.cell? ⟨b,o,none⟩:=fun b o ho=>by
   have hT:T b=0:=by
    by_cases h0:T b=0
    .exact h0
    .have:=(HN.out.tz b h0).2;omega
   exact⟨ho,yyb_ (a:=⟨b,o,none⟩) ((hI.fr b (HN.out.Ilt b (by omega)) hT).2)⟩
  have HC:=Lib.hid hIc
  clear hI hIc
  by_cases hm:p<l.length
  .have hlr:Rep g wr (.list 4 (vl l)) (.slice A l.length cap):=zu_ HL.out rfl HC.out
   obtain⟨lb,lo,rfl,_,c0,c1,c2,c3⟩:=nG_ hlr hm
   have ht1:l.take (p+1)=l.take p++[l[p]]:=by rw[yyw_,zzf_ hm];rfl
   have hto1:=HTO.out l[p] (yyp_ hm)
   have hlm:(yB_ M i (l.take p) i (l[p].to.toNat)).length<=100000:=by
    have:=qV_ M i (l.take p) i l[p].to.toNat
    have:=HM.out i l[p].to.toNat
    simp at *
    omega
   clear hlr
   generalize l[p]=m at c0 c1 c2 c3 ht1 hto1 hlm
   obtain⟨mk,mt,ms,mss⟩:=m
   simp only at c0 c1 c2 c3 hto1 hlm
   obtain⟨j,rfl⟩:∃j:Nat,mt=(j:Int):=⟨mt.toNat,by omega⟩
   have hj:j<n:=by omega
   have hjz:(j:Int)<(n:Int):=by omega
   have hj0:¬(j:Int)<0:=by omega
   have hji:¬(n:Int)<=(j:Int):=by omega
   rw[yys_]at hlm
   obtain⟨Y4,Y5,Y6,Y7,v',T2,h2,Hp,Kt,A2,N2,C2,rfl,e1,e2,f0,f1,f2,f3,f4,f5,f6,f7,e7,e8,e9,⟨e10,e11⟩,⟨i0,i1,i2,i3,i5,i6,i7⟩,⟨j0',j1,j2,j3,j5,j6,j7⟩,⟨l0,l1,l2,l3,l5,l6⟩,hI2⟩:=HI.out.step hi hj ⟨mk,j,ms,mss⟩ hlm
   simp only at e2 f0 f1 f2 f3 e8 i0 i1 i2 i3 j0' j1 j2 j3 l0 l1 l2 l3
   have HI2:=Lib.hid hI2
   have HT1:=Lib.hid ht1
   clear hI2 ht1 hto1 hlm
   have hpl:(p:Int)<(l.length:Int):=by omega
   have hp0:¬(p:Int)<0:=by omega
   have hwp:IntKind.i64.wrap ((p:Int)+1)=(p:Int)+1:=by rw[yye_];omega
   have HP:=Lib.hid hp
   clear hp
   have E2:Asd (wr.alloc (.cells #[.int .i64 mk,.int .i64 j,.int .i64 ms,.int .i64 mss] 46)=Y4):=⟨e2⟩
   have hd1:decide ((j:Int)<0)=false:=by simp
   have hd2:decide ((n:Int)<=(j:Int))=false:=by simpa using hj
   have hd3:decide ((j:Int)>=(n:Int))=false:=hd2
   have hd4:decide (n<=j)=false:=by simp;omega
   clear e2
   go_wp2
   rw[E2.out]
   go_region
   go_wp2
   refine vb_ (fun wx=>wx.cell? ⟨Hp,0,none⟩=some (.int .i64 mk)/\wx.cell? ⟨Hp,1,none⟩=some (.int .i64 j)/\wx.cell? ⟨Hp,2,none⟩=some (.int .i64 ms)/\wx.cell? ⟨Hp,3,none⟩=some (.int .i64 mss)/\wx.cell? ⟨X,3,none⟩=some (.slice (some ⟨h'.mb,0,none⟩) n h'.mc)/\wx.cell? ⟨h'.mb,i,none⟩=some (.slice (some ⟨h'.rk i,0,none⟩) n (h'.rc i))/\wx.cell? ⟨h'.rk i,j,none⟩=some (h'.mv i j)) 24 (by kernel_rfl) ?_
   have s0:=(show _/\_/\_/\_/\_/\_/\_ from ⟨f0,f1,f2,f3,f5,f6,f7⟩)
   refine zR_ (i:=0) (v:=?_) rfl (by kernel_rfl) (fun _ _ _ h=>h) (by kernel_rfl) ?_ (fun _=>s0) ?_
   rotate_left
   ·(intro w9;go_simp;first|done|with_reducible rfl)
   try simp only[Act.put,zze_,zzi_,zzj_]
   refine zR_ (i:=1) (v:=?_) rfl (by kernel_rfl) (fun _ _ _ h=>h) (by kernel_rfl) ?_ (fun _=>s0) ?_
   rotate_left
   ·(intro w9;go_simp;first|done|with_reducible rfl)
   try simp only[Act.put,zze_,zzi_,zzj_]
   refine zR_ (i:=2) (v:=?_) rfl (by kernel_rfl) (fun _ _ _ h=>h) (by kernel_rfl) ?_ (fun _=>s0) ?_
   rotate_left
   ·(intro w9;go_simp;first|done|with_reducible rfl)
   try simp only[Act.put,zze_,zzi_,zzj_]
   refine xJ_ (i:=3) (v:=?_) rfl (by kernel_rfl) (by kernel_rfl) (fun _ _ _ h=>h) (by kernel_rfl) ?_ (fun _=>s0) ?_
   rotate_left
   ·(intro w9 hSw;(try dsimp only at hSw);go_simp;first|done|with_reducible rfl)
   try simp only[Act.put,zze_,zzi_,zzj_]
   refine zR_ (i:=4) (v:=?_) rfl (by kernel_rfl) (fun _ _ _ h=>h) (by kernel_rfl) ?_ (fun _=>s0) ?_
   rotate_left
   ·(intro w9;go_simp;first|done|with_reducible rfl)
   try simp only[Act.put,zze_,zzi_,zzj_]
   refine zR_ (i:=5) (v:=?_) rfl (by kernel_rfl) (fun _ _ _ h=>h) (by kernel_rfl) ?_ (fun _=>s0) ?_
   rotate_left
   ·(intro w9;go_simp;first|done|with_reducible rfl)
   try simp only[Act.put,zze_,zzi_,zzj_]
   refine xJ_ (i:=6) (v:=?_) rfl (by kernel_rfl) (by kernel_rfl) (fun _ _ _ h=>h) (by kernel_rfl) ?_ (fun _=>s0) ?_
   rotate_left
   ·(intro w9 hSw;(try dsimp only at hSw);go_simp;first|done|with_reducible rfl)
   try simp only[Act.put,zze_,zzi_,zzj_]
   refine zR_ (i:=7) (v:=?_) rfl (by kernel_rfl) (fun _ _ _ h=>h) (by kernel_rfl) ?_ (fun _=>s0) ?_
   rotate_left
   ·(intro w9;go_simp;first|done|with_reducible rfl)
   try simp only[Act.put,zze_,zzi_,zzj_]
   refine xJ_ (i:=8) (v:=?_) rfl (by kernel_rfl) (by kernel_rfl) (fun _ _ _ h=>h) (by kernel_rfl) ?_ (fun _=>s0) ?_
   rotate_left
   ·(intro w9 hSw;(try dsimp only at hSw);go_simp;first|done|with_reducible rfl)
   try simp only[Act.put,zze_,zzi_,zzj_]
   refine zR_ (i:=9) (v:=?_) rfl (by kernel_rfl) (fun _ _ _ h=>h) (by kernel_rfl) ?_ (fun _=>s0) ?_
   rotate_left
   ·(intro w9;go_simp;first|done|with_reducible rfl)
   try simp only[Act.put,zze_,zzi_,zzj_]
   refine zR_ (i:=10) (v:=?_) rfl (by kernel_rfl) (fun _ _ _ h=>h) (by kernel_rfl) ?_ (fun _=>s0) ?_
   rotate_left
   ·(intro w9;go_simp;first|done|with_reducible rfl)
   try simp only[Act.put,zze_,zzi_,zzj_]
   refine zR_ (i:=11) (v:=?_) rfl (by kernel_rfl) (fun _ _ _ h=>h) (by kernel_rfl) ?_ (fun _=>s0) ?_
   rotate_left
   ·(intro w9;go_simp;first|done|with_reducible rfl)
   try simp only[Act.put,zze_,zzi_,zzj_]
   refine xJ_ (i:=12) (v:=?_) rfl (by kernel_rfl) (by kernel_rfl) (fun _ _ _ h=>h) (by kernel_rfl) ?_ (fun _=>s0) ?_
   rotate_left
   ·(intro w9 hSw;(try dsimp only at hSw);go_simp;first|done|with_reducible rfl)
   try simp only[Act.put,zze_,zzi_,zzj_]
   refine zR_ (i:=13) (v:=?_) rfl (by kernel_rfl) (fun _ _ _ h=>h) (by kernel_rfl) ?_ (fun _=>s0) ?_
   rotate_left
   ·(intro w9;go_simp;first|done|with_reducible rfl)
   try simp only[Act.put,zze_,zzi_,zzj_]
   refine zR_ (i:=14) (v:=?_) rfl (by kernel_rfl) (fun _ _ _ h=>h) (by kernel_rfl) ?_ (fun _=>s0) ?_
   rotate_left
   ·(intro w9;go_simp;first|done|with_reducible rfl)
   try simp only[Act.put,zze_,zzi_,zzj_]
   refine xJ_ (i:=15) (v:=?_) rfl (by kernel_rfl) (by kernel_rfl) (fun _ _ _ h=>h) (by kernel_rfl) ?_ (fun _=>s0) ?_
   rotate_left
   ·(intro w9 hSw;(try dsimp only at hSw);go_simp;first|done|with_reducible rfl)
   try simp only[Act.put,zze_,zzi_,zzj_]
   refine zR_ (i:=16) (v:=?_) rfl (by kernel_rfl) (fun _ _ _ h=>h) (by kernel_rfl) ?_ (fun _=>s0) ?_
   rotate_left
   ·(intro w9;go_simp;first|done|with_reducible rfl)
   try simp only[Act.put,zze_,zzi_,zzj_]
   refine xJ_ (i:=17) (v:=?_) rfl (by kernel_rfl) (by kernel_rfl) (fun _ _ _ h=>h) (by kernel_rfl) ?_ (fun _=>s0) ?_
   rotate_left
   ·(intro w9 hSw;(try dsimp only at hSw);go_simp;first|done|with_reducible rfl)
   try simp only[Act.put,zze_,zzi_,zzj_]
   refine zR_ (i:=18) (v:=?_) rfl (by kernel_rfl) (fun _ _ _ h=>h) (by kernel_rfl) ?_ (fun _=>s0) ?_
   rotate_left
   ·(intro w9;go_simp;first|done|with_reducible rfl)
   try simp only[Act.put,zze_,zzi_,zzj_]
   refine xJ_ (i:=19) (v:=?_) rfl (by kernel_rfl) (by kernel_rfl) (fun _ _ _ h=>h) (by kernel_rfl) ?_ (fun _=>s0) ?_
   rotate_left
   ·(intro w9 hSw;(try dsimp only at hSw);go_simp;first|done|with_reducible rfl)
   try simp only[Act.put,zze_,zzi_,zzj_]
   refine xJ_ (i:=20) (v:=?_) rfl (by kernel_rfl) (by kernel_rfl) (fun _ _ _ h=>h) (by kernel_rfl) ?_ (fun _=>s0) ?_
   rotate_left
   ·(intro w9 hSw;(try dsimp only at hSw);go_simp;first|done|with_reducible rfl)
   try simp only[Act.put,zze_,zzi_,zzj_]
   refine xK_ (rs:=[21]) (by kernel_rfl) (by simp) ?_
   refine uT_ rfl (fun K hK=>?_) ?_
   .go_simp
    have s1:=And.intro i0 (And.intro i1 (And.intro i2 (And.intro i3 (And.intro i5 (And.intro i6 (i7))))))
    refine hK.out _ _ (fun _=>s1) ?_
    clear hK K
    try simp only[Act.put,zze_,zzi_,zzj_]
    refine xK_ (rs:=[22]) (by kernel_rfl) (by simp) ?_
    refine uT_ rfl (fun K hK=>?_) ?_
    .refine xM_ rfl _ _ 41 41 rfl _ _ (by simp[Act.eval,Act.put]) (by simp[Act.eval,Act.put]) (e9 _) ?_
     have s2:=And.intro j0' (And.intro j1 (And.intro j2 (And.intro j3 (And.intro j5 (And.intro j6 (j7))))))
     refine hK.out _ _ (fun _=>s2) ?_
     clear hK K
     try simp only[Act.put,zze_,zzi_,zzj_]
     refine zR_ (i:=23) (v:=?_) rfl (by kernel_rfl) (fun _ _ _ h=>h) (by kernel_rfl) ?_ (fun _=>s2) ?_
     rotate_left
     ·(intro w9;go_simp;first|done|with_reducible rfl)
     try simp only[Act.put,zze_,zzi_,zzj_]
     refine ps_ (by kernel_rfl) (by kernel_rfl) (by decide) ?_
     simp only[List.drop_succ_cons,List.drop_zero]
     go_wp2
     go_roundg (gk-1)
     case measure=>have:=HP.out;omega
     case rel =>
      have hp:=HP.out
      have:=HI2.out
      rw[<-rb_ M i (l.take p) ⟨mk,(j:Int),ms,mss⟩ rfl,<-HT1.out]at this
      exact⟨p+1,T2,h2,rfl,by omega,this⟩
    exact AllG.nil
   exact AllG.nil
  .have hpl:¬(p:Int)<(l.length:Int):=by omega
   have hpe:p=l.length:=by omega
   have hI:=HI.out
   rw[hpe,List.take_length]at hI
   have d0:∀j,wr.cell? ⟨H,j,none⟩=(#[v0,v1,v2,v3,v4,v5,v6,v7,v8,v9,v10]:Array Value)[j]?:=fun j=>by simp[World.cell?,hI.box]
   have d1:wr.cell? ⟨X,0,none⟩=some (.int .i64 n):=by simp[World.cell?,hI.net.hX]
   have d2:wr.cell? ⟨X,1,none⟩=some h'.qv:=by simp[World.cell?,hI.net.hX]
   have hqo:h'.qv.oneCell'=true:=hI.net.hq.one rfl
   have hIv:∀(x:Nat) (u:V) (c:Value),b.cs[x]?=some u->[v0,v1,v2,v3,v4,v5,v6,v7,v8,v9,v10][x]?=some c->Rep g wr.drew u c:=fun x u c hu hc=>zu_ (HV.out.1 x u c hu hc) (wc_ _ u (zzd_ hu)) HC.out
   have hcall:Calls Try.prog 19 #[.agg #[v0,v1,v2,v3,v4,v5,v6,v7,v8,v9,v10],.agg #[.int .i64 n,h'.qv],.int .i64 i] wr.drew fun e w'=>∃g':Gh,e=.returned (.bool (bOk n q i b))/\Below wr.heap.size wr w'/\(∀k,k<wr.heap.size->g'.I k=g.I k)/\∀k,0<g'.I k->k<w'.heap.size:=by
    refine(xk_ (yV_ b n q i hq hb) (g:=g) (w:=wr.drew) (vals:=#[.agg #[v0,v1,v2,v3,v4,v5,v6,v7,v8,v9,v10],.agg #[.int .i64 n,h'.qv],.int .i64 i]) rfl ?_ ?_ hI.net.Ilt).mono ?_
    .intro x hx
     simp at hx
     rcases hx with rfl|rfl|rfl<;>rfl
    .intro x u c hu hc
     match x,hu,hc with
     | 0, hu, hc =>
       cases hu
       cases hc
       exact .agg rfl HV.out.2 (fun x u c hu hc=>hIv x u c hu (by simpa using hc))
     | 1, hu, hc =>
       cases hu
       cases hc
       refine .agg rfl (by intro c hc;simp at hc;rcases hc with rfl|rfl;rfl;exact hqo) (fun x u c hu hc=>?_)
       match x,hu,hc with
       |0,hu,hc=>cases hu;cases hc;exact .s rfl
       |1,hu,hc=>cases hu;cases hc;exact zu_ hI.net.hq rfl fun b o ho=>⟨ho,rfl⟩
     |2,hu,hc=>cases hu;cases hc;exact .s rfl
    .rintro e w' ⟨v,r,g',rfl,rfl,hr,hbel,hg,hlt⟩
     have:=hr.of_s rfl
     subst this
     exact⟨g',rfl,⟨hbel.os,hbel.tape,hbel.output,hbel.size,hbel.block⟩,hg,hlt⟩
   have HI3:=Lib.hid hI
   clear hI hIv
   go_wp2
   have hXl:X<wr.heap.size:=(HI3.out.net.tz X (by rw[HI3.out.net.tag.x];omega)).1
   have hHl:H<wr.heap.size:=(zzm_.1 HI3.out.box).1
   have hS:∀wx,Below wr.heap.size wr wx->wx.cell? ⟨X,0,none⟩=some (.int .i64 n)/\wx.cell? ⟨X,1,none⟩=some h'.qv/\wx.cell? ⟨H,0,none⟩=some v0/\wx.cell? ⟨H,1,none⟩=some v1/\wx.cell? ⟨H,2,none⟩=some v2/\wx.cell? ⟨H,3,none⟩=some v3/\wx.cell? ⟨H,4,none⟩=some v4/\wx.cell? ⟨H,5,none⟩=some v5/\wx.cell? ⟨H,6,none⟩=some v6/\wx.cell? ⟨H,7,none⟩=some v7/\wx.cell? ⟨H,8,none⟩=some v8/\wx.cell? ⟨H,9,none⟩=some v9/\wx.cell? ⟨H,10,none⟩=some v10:=fun wx hb=>⟨xo_ hb d1 hXl,xo_ hb d2 hXl,xo_ hb (d0 0) hHl,xo_ hb (d0 1) hHl,xo_ hb (d0 2) hHl,xo_ hb (d0 3) hHl,xo_ hb (d0 4) hHl,xo_ hb (d0 5) hHl,xo_ hb (d0 6) hHl,xo_ hb (d0 7) hHl,xo_ hb (d0 8) hHl,xo_ hb (d0 9) hHl,xo_ hb (d0 10) hHl⟩
   have HS:=Lib.hid hS
   have hB1:Below wr.heap.size wr wr.drew:=⟨rfl,rfl,rfl,zzl_ _,fun _ _=>rfl⟩
   clear hS d0 d1 d2
   go_region_held3 (fun wx=>wx.cell? ⟨X,0,none⟩=some (.int .i64 n)/\wx.cell? ⟨X,1,none⟩=some h'.qv/\wx.cell? ⟨H,0,none⟩=some v0/\wx.cell? ⟨H,1,none⟩=some v1/\wx.cell? ⟨H,2,none⟩=some v2/\wx.cell? ⟨H,3,none⟩=some v3/\wx.cell? ⟨H,4,none⟩=some v4/\wx.cell? ⟨H,5,none⟩=some v5/\wx.cell? ⟨H,6,none⟩=some v6/\wx.cell? ⟨H,7,none⟩=some v7/\wx.cell? ⟨H,8,none⟩=some v8/\wx.cell? ⟨H,9,none⟩=some v9/\wx.cell? ⟨H,10,none⟩=some v10)
    ((refine HS.out _ ?_;assumption))
    (first|(go_at_call 19;refine hcall.mono ?_;rintro e w' ⟨g',rfl,hbel,hg,hlt⟩;have HB:=Lib.hid (And.intro hbel (And.intro hg hlt));clear hg hlt))
   all_goals go_wp2
   all_goals go_ret
   all_goals
    obtain⟨r1,r2,r3,r4,r5,r6,r7,r8⟩:=HI3.out
    obtain⟨s1,s2,s3⟩:=HB.out
    exact⟨T',g',h',rfl,r1.grow s1.size s1.block s2 s3,s1.os.trans r4,s1.tape.trans r5,s1.output.trans r6,yyd_ r7 s1.size,fun k hk h0=>⟨(r8 k hk h0).1,(s1.block k (zzk_ hk r7)).trans (r8 k hk h0).2⟩,fun k hk=>s2 k (zzk_ hk r7)⟩
section
theorem kJ_{w:World}{v:Value}{m:Vt}{l:List Vt}(h:MBx w v (m::l)):∃k off cap,v=.slice (some ⟨k,off,none⟩) (l.length+1) cap/\l.length+1<=cap/\cap<=maxLen /\
 w.cell? ⟨k,off,none⟩=some (.int .i64 m.k)/\w.cell? ⟨k,off+1,none⟩=some (.int .i64 m.to)/\w.cell? ⟨k,off+2,none⟩=some (.int .i64 m.st)/\w.cell? ⟨k,off+3,none⟩=some (.int .i64 m.ss) /\
 MBx w (.slice (if cap=1 then some ⟨k,off,none⟩ else some ⟨k,off+4,none⟩) l.length (cap-1)) l/\∀k',rb (.slice (if cap=1 then some ⟨k,off,none⟩ else some ⟨k,off+4,none⟩) l.length (cap-1))=some k'->rb v=some k':=by
 rcases h with ⟨h,_⟩|⟨k,off,cap,cur,rfl,h1,h2,h3,h4,h5,h6⟩
 .cases h
 have e:(m::l).length=l.length+1:=rfl
 have hc:∀(p:Nat) (u:Value),(fv (m::l))[p]?=some u->w.cell? ⟨k,off+p,none⟩=some u:=fun p u hp=>by simpa[World.cell?,h4] using h6 p u hp
 have hrb:rb (.slice (some ⟨k,off,none⟩) (m::l).length cap)=some k:=by simp[rb];omega
 refine⟨k,off,cap,rfl,h2,h3,hc 0 _ rfl,hc 1 _ rfl,hc 2 _ rfl,hc 3 _ rfl,?_,fun k' hk'=>?_⟩
 .by_cases hcap:cap=1
  .refine .inl ⟨yyj_ (by omega),some ⟨k,off,none⟩,?_⟩
   rw[if_pos hcap,hcap]
   have:l.length=0:=by omega
   rw[this]
  .rw[if_neg hcap]
   refine .inr ⟨k,off+4,cap-1,cur,rfl,by omega,by omega,by omega,h4,by omega,fun p u hp=>?_⟩
   have:=h6 (p+4) u (by simpa[fv] using hp)
   rw[Nat.add_assoc,Nat.add_comm 4 p]
   exact this
 .rw[hrb]
  split at hk'
  .simp[rb]at hk';rw[hk'.2]
  .simp[rb]at hk';rw[hk'.2]
def z39:Array Value:=#[.int .i64 0,.int .i64 0,.int .i64 0,.int .i64 0,.int .i64 0,.int .i64 0,.int .i64 0,.bool false,.slice none 0 0,.slice none 0 0,.bool false]
theorem mS_{P:Program}(w:World){v0 v1 v2 v3 v4 v5 v6 v7 v8 v9 v10:Value}(h1:∀v∈[v0,v1,v2,v3,v4,v5,v6,v7,v8,v9,v10],v.oneCell'=true) :
 ∃ w1 w2 w3 w4 w5 w6 w7 w8 w9 w10 W : World, (store ⟨w.heap.size, 0, none⟩ v0).run P (w.alloc (.cells #[.int .i64 0, .int .i64 0, .int .i64 0, .int .i64 0, .int .i64 0, .int .i64 0, .int .i64 0, .bool false, .slice none 0 0, .slice none 0 0, .bool false] 39)) = .ok () w1 ∧ (store ⟨w.heap.size, 1, none⟩ v1).run P w1 = .ok () w2 ∧ (store ⟨w.heap.size, 2, none⟩ v2).run P w2 = .ok () w3 ∧ (store ⟨w.heap.size, 3, none⟩ v3).run P w3 = .ok () w4 ∧
   (store ⟨w.heap.size,4,none⟩ v4).run P w4=.ok () w5/\(store ⟨w.heap.size,5,none⟩ v5).run P w5=.ok () w6/\(store ⟨w.heap.size,6,none⟩ v6).run P w6=.ok () w7/\(store ⟨w.heap.size,7,none⟩ v7).run P w7=.ok () w8/\(store ⟨w.heap.size,8,none⟩ v8).run P w8=.ok () w9 /\
   (store ⟨w.heap.size,9,none⟩ v9).run P w9=.ok () w10/\(store ⟨w.heap.size,10,none⟩ v10).run P w10=.ok () W/\Below w.heap.size w W/\W.heap.size=w.heap.size+1/\W.heap[w.heap.size]?=some (.cells #[v0,v1,v2,v3,v4,v5,v6,v7,v8,v9,v10] 39 (0,0)):=by
 have hn:=heap_alloc_new w (.cells z39 39)
 obtain⟨y1,y2,y3,y4,y5,y6,y7,y8,y9,y10,z0,z1,z2,z3,z4,z5,z6,z7,z8,z9,z10⟩:=uY_ (P:=P) (w:=w.alloc (.cells z39 39)) (o:=0) hn (by simp[z39]) h1
 simp only[Nat.zero_add]at z0 z1 z2 z3 z4 z5 z6 z7 z8 z9 z10
 obtain⟨cur',d1,d2,d3⟩:=zw_ [v0,v1,v2,v3,v4,v5,v6,v7,v8,v9,v10] 0 (w.alloc (.cells z39 39)) w.heap.size z39 39 hn (by simp[z39])
 have hsz:∀vs o (W:World),(W.setCells w.heap.size o vs).heap.size=W.heap.size:=fun vs=>by
  induction vs with
  |nil=>intro o W;rfl
  |cons v r ih=>intro o W;rw[World.setCells,ih];simp[World.setCell]
 have hf:=z8_ w.heap.size [v0,v1,v2,v3,v4,v5,v6,v7,v8,v9,v10] 0 (w.alloc (.cells z39 39))
 refine⟨y1,y2,y3,y4,y5,y6,y7,y8,y9,y10,_,z0,z1,z2,z3,z4,z5,z6,z7,z8,z9,z10,⟨hf.1.trans rfl,hf.2.1.trans rfl,hf.2.2.trans rfl,by rw[hsz];simp,fun k hk=>?_⟩,by rw[hsz];simp,?_⟩
 .rw[zv_ (by simp;omega) (by omega)]
  exact Below.heap_alloc w _ k hk
 .rw[d1]
  have:cur'=#[v0,v1,v2,v3,v4,v5,v6,v7,v8,v9,v10]:=Array.ext' (by rw[d3];rfl)
  rw[this]
section
variable{T:Nat->Nat}{g:Gh}{w:World}{X n:Nat}{q:List Int}{B:Nat->Bl}{M:Nat->Nat->List Vt}{h:Hd}
theorem Net.x0(hn:Net T g w X n q B M h):w.cell? ⟨X,0,none⟩=some (.int .i64 n):=by simp[World.cell?,hn.hX]
theorem Net.x1(hn:Net T g w X n q B M h):w.cell? ⟨X,1,none⟩=some h.qv:=by simp[World.cell?,hn.hX]
theorem Net.x2(hn:Net T g w X n q B M h):w.cell? ⟨X,2,none⟩=some (.slice (some ⟨h.bk,0,none⟩) n h.bc):=by simp[World.cell?,hn.hX]
theorem Net.x3(hn:Net T g w X n q B M h):w.cell? ⟨X,3,none⟩=some (.slice (some ⟨h.mb,0,none⟩) n h.mc):=by simp[World.cell?,hn.hX]
theorem Net.m1(hn:Net T g w X n q B M h){i:Nat}(hi:i<n):w.cell? ⟨h.mb,i,none⟩=some (.slice (some ⟨h.rk i,0,none⟩) n (h.rc i)):=by
 obtain⟨c,h1,h2⟩:=hn.mm
 have:=h2 i hi
 simp[World.cell?,h1,this]
theorem Net.m2(hn:Net T g w X n q B M h){i j:Nat}(hi:i<n)(hj:j<n):w.cell? ⟨h.rk i,j,none⟩=some (h.mv i j):=by
 obtain⟨c,h1,h2⟩:=hn.rr i hi
 have:=h2 j hj
 simp[World.cell?,h1,this]
theorem Net.st(hn:Net T g w X n q B M h){i:Nat}(hi:i<n):∃v0 v1 v2 v3 v4 v5 v6 v7 v8 v9 v10,w.cell? ⟨h.bk,i*11,none⟩=some v0/\w.cell? ⟨h.bk,i*11+1,none⟩=some v1/\w.cell? ⟨h.bk,i*11+2,none⟩=some v2/\w.cell? ⟨h.bk,i*11+3,none⟩=some v3 /\
 w.cell? ⟨h.bk,i*11+4,none⟩=some v4/\w.cell? ⟨h.bk,i*11+5,none⟩=some v5/\w.cell? ⟨h.bk,i*11+6,none⟩=some v6/\w.cell? ⟨h.bk,i*11+7,none⟩=some v7/\w.cell? ⟨h.bk,i*11+8,none⟩=some v8/\w.cell? ⟨h.bk,i*11+9,none⟩=some v9 /\
 w.cell? ⟨h.bk,i*11+10,none⟩=some v10/\Rep g w (B i).v (.agg #[v0,v1,v2,v3,v4,v5,v6,v7,v8,v9,v10])/\(v0.oneCell'=true/\v1.oneCell'=true/\v2.oneCell'=true/\v3.oneCell'=true/\v4.oneCell'=true/\v5.oneCell'=true/\v6.oneCell'=true/\v7.oneCell'=true/\v8.oneCell'=true/\v9.oneCell'=true/\v10.oneCell'=true)/\v7=.bool (B i).using'/\v1=.int .i64 (B i).qu:=by
 obtain⟨cur,h1,h2,h3⟩:=hn.bb
 have key:∀(j:Nat) (u:V),(B i).cs[j]?=some u->∃c,w.cell? ⟨h.bk,i*11+j,none⟩=some c/\c.oneCell'=true/\Rep g w u c:=fun j u hu=>by
  obtain⟨c,q1,q2,q3⟩:=h3 i hi j u hu
  exact⟨c,by simp[World.cell?,h1,q1],q2,q3⟩
 obtain⟨v0,a0,b0,c0⟩:=key 0 _ rfl
 obtain⟨v1,a1,b1,c1⟩:=key 1 _ rfl
 obtain⟨v2,a2,b2,c2⟩:=key 2 _ rfl
 obtain⟨v3,a3,b3,c3⟩:=key 3 _ rfl
 obtain⟨v4,a4,b4,c4⟩:=key 4 _ rfl
 obtain⟨v5,a5,b5,c5⟩:=key 5 _ rfl
 obtain⟨v6,a6,b6,c6⟩:=key 6 _ rfl
 obtain⟨v7,a7,b7,c7⟩:=key 7 _ rfl
 obtain⟨v8,a8,b8,c8⟩:=key 8 _ rfl
 obtain⟨v9,a9,b9,c9⟩:=key 9 _ rfl
 obtain⟨v10,a10,b10,c10⟩:=key 10 _ rfl
 refine⟨v0,v1,v2,v3,v4,v5,v6,v7,v8,v9,v10,a0,a1,a2,a3,a4,a5,a6,a7,a8,a9,a10,.agg rfl (fun c hc=>?_) (fun j u c hu hc=>?_),⟨b0,b1,b2,b3,b4,b5,b6,b7,b8,b9,b10⟩,c7.of_s rfl,c1.of_s rfl⟩
 .simp at hc
  rcases hc with rfl|rfl|rfl|rfl|rfl|rfl|rfl|rfl|rfl|rfl|rfl<;>assumption
 ·have hj:j<11:=by
   have:=(zzc_.1 hu).1
   simpa[Bl.cs] using this
  match j,hj,hu,hc with
  |0,_,hu,hc=>cases hu;cases hc;exact c0
  |1,_,hu,hc=>cases hu;cases hc;exact c1
  |2,_,hu,hc=>cases hu;cases hc;exact c2
  |3,_,hu,hc=>cases hu;cases hc;exact c3
  |4,_,hu,hc=>cases hu;cases hc;exact c4
  |5,_,hu,hc=>cases hu;cases hc;exact c5
  |6,_,hu,hc=>cases hu;cases hc;exact c6
  |7,_,hu,hc=>cases hu;cases hc;exact c7
  |8,_,hu,hc=>cases hu;cases hc;exact c8
  |9,_,hu,hc=>cases hu;cases hc;exact c9
  |10,_,hu,hc=>cases hu;cases hc;exact c10
end
end
def cntU(B:Nat->Bl):Nat->Nat
 |0=>0
 |k+1=>cntU B k+if (B k).using' then 1 else 0
theorem nk_(B:Nat->Bl):∀k,cntU B k<=k
 |0=>zzl_ _
 | k + 1 => by
   have:=nk_ B k
   simp only[cntU]
   split<;>omega
theorem rw_{T:Nat->Nat}{g:Gh}{w:World}{X n:Nat}{q:List Int}{B:Nat->Bl}{M:Nat->Nat->List Vt}{h:Hd}(hn:Net T g w X n q B M h) :
 Calls Try.prog 13 #[.pointer (some ⟨X,0,none⟩)] w fun e w'=>e=.returned (.bool (decide (cntU B n<=1)))/\Below w.heap.size w w':=by
 have mx:=zp_
 have x2:=hn.x2
 have n9:=hn.n9
 have hbcn:=hn.bcn
 have HN:=Lib.hid hn
 clear hn
 go_enter Try.func13,Try.ntmps13
 go_wp2
 go_loopg [3,11] n (fun kx s3 s11 wr=>∃p:Nat,s3=.int .i64 (cntU B p:Nat)/\s11=.int .i64 p/\p+kx=n/\Below w.heap.size w wr)
 case atStart=>exact⟨0,rfl,rfl,by omega,Below.refl _ _⟩
 case round =>
  obtain⟨p,rfl,rfl,hp,hbel⟩:=hrel
  have hnr:=HN.out.below hbel
  by_cases hm:p<n
  .obtain⟨v0,v1,v2,v3,v4,v5,v6,v7,v8,v9,v10,a0,a1,a2,a3,a4,a5,a6,a7,a8,a9,a10,_,⟨o0,o1,o2,o3,o4,o5,o6,o7,o8,o9,o10⟩,e7,e1⟩:=hnr.st hm
   have hpz:(p:Int)<(n:Int):=by omega
   have hp0:¬(p:Int)<0:=by omega
   have hwp:IntKind.i64.wrap ((p:Int)+1)=(p:Int)+1:=by rw[yye_];omega
   have hcl:=nk_ B p
   have hwc:IntKind.i64.wrap ((cntU B p:Int)+1)=(cntU B p:Int)+1:=by rw[yye_];omega
   obtain⟨y1,y2,y3,y4,y5,y6,y7,y8,y9,y10,W,z0,z1,z2,z3,z4,z5,z6,z7,z8,z9,z10,hW1,hW2,hW3⟩:=mS_ (P:=Try.prog) wr (v0:=v0) (v1:=v1) (v2:=v2) (v3:=v3) (v4:=v4) (v5:=v5) (v6:=v6) (v7:=v7) (v8:=v8) (v9:=v9) (v10:=v10) (by
    intro v hv
    simp at hv
    rcases hv with rfl|rfl|rfl|rfl|rfl|rfl|rfl|rfl|rfl|rfl|rfl<;>assumption)
   have hW7:W.cell? ⟨wr.heap.size,7,none⟩=some (.bool (B p).using'):=by simp[World.cell?,hW3,e7]
   have HW:Asd (Below w.heap.size w W):=⟨hbel.trans (Below.trans ⟨hW1.os,hW1.tape,hW1.output,hW1.size,fun k hk=>hW1.block k (zzk_ hk hbel.size)⟩ (Below.refl _ _))⟩
   have hs1:cntU B (p+1)=cntU B p+if (B p).using' then 1 else 0:=rfl
   have HS:Asd (cntU B (p+1)=cntU B p+if (B p).using' then 1 else 0):=⟨hs1⟩
   have HP:Asd (p+gk=n):=⟨hp⟩
   clear e7 e1 hnr hs1 hbel hp hW1 hW2 hW3 o0 o1 o2 o3 o4 o5 o6 o7 o8 o9 o10
   cases hu:(B p).using'
   all_goals
    rw[hu]at HS hW7
    go_wp2
    go_roundg (gk-1)
    case measure=>have:=HP.out;omega
    case rel =>
     have h1:=HS.out
     have h2:=HP.out
     exact⟨p+1,by simp[h1],by rfl,by omega,HW.out⟩
  .have hpz:¬(p:Int)<(n:Int):=by omega
   have hpe:p=n:=by omega
   have hd:(cntU B p<=1)↔(cntU B n<=1):=by rw[hpe]
   have HD:Asd ((cntU B p<=1)↔(cntU B n<=1)):=⟨hd⟩
   have HB:Asd (Below w.heap.size w wr):=⟨hbel⟩
   clear hd hbel hnr
   go_wp2
   go_ret
   refine⟨?_,HB.out⟩
   have:=HD.out
   have e:decide ((cntU B p:Int)<=1)=decide (cntU B n<=1):=by
    rw[yyt_]
    simp only[zzp_]
    omega
   first|(rw[<-e];rfl)|(simp only[<-e];rfl)|(simp[<-this];constructor<;>intro hh<;>(have h2:=HD.out;omega))
section
structure Gv(g:Gh)(w:World)(b:Bl)(l:List Vt)(w':World)(g':Gh)(r0 r1 r2 r3 r4 r5 r6 r7 r8 r9 r10:Value)(A:Option Addr)(C:Nat):Prop where
 below:Below w.heap.size w w'
 same:∀k,k<w.heap.size->g'.I k=g.I k
 Ilt:∀k,0<g'.I k->k<w'.heap.size
 rb:Rep g' w' b.v (.agg #[r0,r1,r2,r3,r4,r5,r6,r7,r8,r9,r10])
 rl:Rep g' w' (.list 4 (vl l)) (.slice A l.length C)
 one:∀v∈[r0,r1,r2,r3,r4,r5,r6,r7,r8,r9,r10],v.oneCell'=true
theorem kQ_{g g':Gh}{w w':World}{b:Bl}{l:List Vt}{v:Value}(hr:Rep g' w' (okR b l) v)(h1:Below w.heap.size w w')(h2:∀k,k<w.heap.size->g'.I k=g.I k)(h3:∀k,0<g'.I k->k<w'.heap.size) :
 ∃r0 r1 r2 r3 r4 r5 r6 r7 r8 r9 r10 A C,v=.tuple #[.agg #[r0,r1,r2,r3,r4,r5,r6,r7,r8,r9,r10],.slice A l.length C,.int .i64 0]/\Gv g w b l w' g' r0 r1 r2 r3 r4 r5 r6 r7 r8 r9 r10 A C:=by
 cases hr with
 | tup e1 e2 =>
   rename_i vs
   obtain⟨a,c,d,rfl⟩:∃a c d,vs=#[a,c,d]:=by
    have:vs.toList.length=3:=by have:=e1;simp at this;simp;omega
    match hv:vs.toList,this with
    |[a,c,d],_=>exact⟨a,c,d,Array.ext' (by simpa using hv)⟩
   have ha:=e2 0 _ a rfl rfl
   have hc:=e2 1 _ c rfl rfl
   have hd:=(e2 2 _ d rfl rfl).of_s rfl
   subst hd
   obtain⟨vs,rfl⟩:∃vs,a=.agg vs:=by
    cases ha with
    |agg _ _ _=>exact⟨_,rfl⟩
   obtain⟨v0,v1,v2,v3,v4,v5,v6,v7,v8,v9,v10,rfl⟩:∃v0 v1 v2 v3 v4 v5 v6 v7 v8 v9 v10,vs=#[v0,v1,v2,v3,v4,v5,v6,v7,v8,v9,v10]:=by
    cases ha with
    | agg e1 e2 e3 =>
      have:vs.toList.length=11:=by have:=e1;simp[Bl.cs]at this;simp;omega
      match hv:vs.toList,this with
      |[a0,a1,a2,a3,a4,a5,a6,a7,a8,a9,a10],_=>exact⟨a0,a1,a2,a3,a4,a5,a6,a7,a8,a9,a10,Array.ext' (by simpa using hv)⟩
   have hone:∀v∈[v0,v1,v2,v3,v4,v5,v6,v7,v8,v9,v10],v.oneCell'=true:=by
    cases ha with
    |agg e1 e2 e3=>exact e2
   obtain⟨A,C,rfl⟩:∃A C,c=.slice A l.length C:=by
    cases hc with
    |list vals hc hm hA hz hi hcell hrep=>exact⟨_,_,by rw[vl_length]⟩
   exact⟨v0,v1,v2,v3,v4,v5,v6,v7,v8,v9,v10,A,C,rfl,h1,h2,h3,ha,hc,hone⟩
theorem Gv.box1{P:Program}{g g':Gh}{w w':World}{b:Bl}{l:List Vt}{r0 r1 r2 r3 r4 r5 r6 r7 r8 r9 r10:Value}{A:Option Addr}{C:Nat}(h:Gv g w b l w' g' r0 r1 r2 r3 r4 r5 r6 r7 r8 r9 r10 A C){k:Nat}(hk:w.heap[k]?=some (.cells z39 39 (0,0))) :
 ∃ w1 w2 w3 w4 w5 w6 w7 w8 w9 w10 W : World, (store ⟨k, 0, none⟩ r0).run P w' = .ok () w1 ∧ (store ⟨k, 1, none⟩ r1).run P w1 = .ok () w2 ∧ (store ⟨k, 2, none⟩ r2).run P w2 = .ok () w3 ∧ (store ⟨k, 3, none⟩ r3).run P w3 = .ok () w4 ∧
   (store ⟨k,4,none⟩ r4).run P w4=.ok () w5/\(store ⟨k,5,none⟩ r5).run P w5=.ok () w6/\(store ⟨k,6,none⟩ r6).run P w6=.ok () w7/\(store ⟨k,7,none⟩ r7).run P w7=.ok () w8/\(store ⟨k,8,none⟩ r8).run P w8=.ok () w9 /\
   (store ⟨k,9,none⟩ r9).run P w9=.ok () w10/\(store ⟨k,10,none⟩ r10).run P w10=.ok () W/\W.os=w'.os/\W.tape=w'.tape/\W.output=w'.output/\W.heap.size=w'.heap.size/\(∀j,j≠k->j<w'.heap.size->W.heap[j]?=w'.heap[j]?)/\W.heap[k]?=some (.cells #[r0,r1,r2,r3,r4,r5,r6,r7,r8,r9,r10] 39 (0,0)):=by
 have hkl:k<w.heap.size:=(zzm_.1 hk).1
 have hn:w'.heap[k]?=some (.cells z39 39 (0,0)):=(h.below.block k hkl).trans hk
 obtain⟨y1,y2,y3,y4,y5,y6,y7,y8,y9,y10,z0,z1,z2,z3,z4,z5,z6,z7,z8,z9,z10⟩:=uY_ (P:=P) (w:=w') (o:=0) hn (by simp[z39]) h.one
 simp only[Nat.zero_add]at z0 z1 z2 z3 z4 z5 z6 z7 z8 z9 z10
 obtain⟨cur',d1,d2,d3⟩:=zw_ [r0,r1,r2,r3,r4,r5,r6,r7,r8,r9,r10] 0 w' k z39 39 hn (by simp[z39])
 have hsz:∀vs o (W:World),(W.setCells k o vs).heap.size=W.heap.size:=fun vs=>by
  induction vs with
  |nil=>intro o W;rfl
  |cons v r ih=>intro o W;rw[World.setCells,ih];simp[World.setCell]
 have hf:=z8_ k [r0,r1,r2,r3,r4,r5,r6,r7,r8,r9,r10] 0 w'
 refine⟨y1,y2,y3,y4,y5,y6,y7,y8,y9,y10,_,z0,z1,z2,z3,z4,z5,z6,z7,z8,z9,z10,hf.1,hf.2.1,hf.2.2,by rw[hsz],fun j hj hjs=>zv_ hjs hj,?_⟩
 rw[d1]
 have:cur'=#[r0,r1,r2,r3,r4,r5,r6,r7,r8,r9,r10]:=Array.ext' (by rw[d3];rfl)
 rw[this]
structure Aft(T:Nat->Nat)(g:Gh)(w:World)(X n:Nat)(q:List Int)(B:Nat->Bl)(M:Nat->Nat->List Vt)(h:Hd)(b:Bl)(l:List Vt)(g':Gh)(W:World)(r0 r1 r2 r3 r4 r5 r6 r7 r8 r9 r10:Value)(A:Option Addr)(C:Nat):Prop where
 net:Net T g' W X n q B M h
 rb:Rep g' W b.v (.agg #[r0,r1,r2,r3,r4,r5,r6,r7,r8,r9,r10])
 rl:Rep g' W (.list 4 (vl l)) (.slice A l.length C)
 os:W.os=w.os
 tape:W.tape=w.tape
 output:W.output=w.output
 size:w.heap.size<=W.heap.size
 fr:∀k,k<w.heap.size->W.heap[k]?=w.heap[k]?
 same:∀k,k<w.heap.size->g'.I k=g.I k
section
variable{T:Nat->Nat}{g g':Gh}{w wx w' W:World}{X n:Nat}{q:List Int}{B:Nat->Bl}{M:Nat->Nat->List Vt}{h:Hd}{b:Bl}{l:List Vt}{r0 r1 r2 r3 r4 r5 r6 r7 r8 r9 r10:Value}{A:Option Addr}{C:Nat}
theorem jA_(l:List Vt):immC (.list 4 (vl l))=true:=by rfl
theorem Gv.aft(hv:Gv g wx b l w' g' r0 r1 r2 r3 r4 r5 r6 r7 r8 r9 r10 A C)(hn:Net T g w X n q B M h)(hb:Below w.heap.size w wx){k:Nat}(hk:w.heap.size<=k)(hkI:g'.I k=0)(h1:W.os=w'.os)(h2:W.tape=w'.tape)(h3:W.output=w'.output)(h4:w'.heap.size<=W.heap.size)(h5:∀j,j≠k->j<w'.heap.size->W.heap[j]?=w'.heap[j]?) :
 Aft T g w X n q B M h b l g' W r0 r1 r2 r3 r4 r5 r6 r7 r8 r9 r10 A C:=by
 obtain⟨a1,a2,a3,a4,a5,a6⟩:=hv
 have hI:∀b o,o<g'.I b->o<g'.I b/\W.cell? ⟨b,o,none⟩=w'.cell? ⟨b,o,none⟩:=fun b o ho=>by
  have hl:=a3 b (by omega)
  exact⟨ho,yyb_ (a:=⟨b,o,none⟩) (h5 b (by rintro rfl;omega) hl)⟩
 have s1:=hb.size
 have s2:=a1.size
 have hfr:∀j,j<w.heap.size->W.heap[j]?=w.heap[j]?:=fun j hj=>(h5 j (by omega) (by omega)).trans ((a1.block j (by omega)).trans (hb.block j hj))
 have hsm:∀j,j<w.heap.size->g'.I j=g.I j:=fun j hj=>a2 j (by omega)
 refine⟨hn.grow (by omega) hfr hsm fun j hj=>zzk_ (a3 j hj) h4,?_,zu_ a5 (jA_ l) hI,h1.trans (a1.os.trans hb.os),h2.trans (a1.tape.trans hb.tape),h3.trans (a1.output.trans hb.output),by omega,hfr,hsm⟩
 cases a4 with
 |agg e1 e2 e3=>exact .agg e1 e2 fun j u c hu hc=>zu_ (e3 j u c hu hc) (wc_ b u (zzd_ hu)) hI
theorem Gv.aft1(hv:Gv g wx b l w' g' r0 r1 r2 r3 r4 r5 r6 r7 r8 r9 r10 A C)(hn:Net T g w X n q B M h)(hb:Below w.heap.size w wx)(hW:Below w'.heap.size w' W):Aft T g w X n q B M h b l g' W r0 r1 r2 r3 r4 r5 r6 r7 r8 r9 r10 A C:=by
 refine hv.aft hn hb (k:=w'.heap.size) ?_ ?_ hW.os hW.tape hW.output hW.size fun j _ hj=>hW.block j hj
 .have:=hb.size;have:=hv.below.size;omega
 .by_cases h0:0<g'.I w'.heap.size
  .have:=hv.Ilt _ h0;omega
  .omega
theorem Gv.aft2(hv:Gv g wx b l w' g' r0 r1 r2 r3 r4 r5 r6 r7 r8 r9 r10 A C)(hn:Net T g w X n q B M h)(hb:Below w.heap.size w wx){k:Nat}(hk:w.heap.size<=k)(hkx:k<wx.heap.size)(h1:W.os=w'.os)(h2:W.tape=w'.tape)(h3:W.output=w'.output)(h4:W.heap.size=w'.heap.size)(h5:∀j,j≠k->j<w'.heap.size->W.heap[j]?=w'.heap[j]?) :
 Aft T g w X n q B M h b l g' W r0 r1 r2 r3 r4 r5 r6 r7 r8 r9 r10 A C:=by
 refine hv.aft hn hb hk ?_ h1 h2 h3 (by omega) h5
 rw[hv.same k hkx]
 by_cases h0:0<g.I k
 .have:=hn.Ilt _ h0;omega
 .omega
end
end
theorem xZ_{g:Gh}{w wx:World}{b:Bl}{vs:Array Value}(h:Rep g w b.v (.agg vs))(hI:∀b o,o<g.I b->o<g.I b/\wx.cell? ⟨b,o,none⟩=w.cell? ⟨b,o,none⟩):Rep g wx b.v (.agg vs):=by
 cases h with
 |agg e1 e2 e3=>exact .agg e1 e2 fun j u c hu hc=>zu_ (e3 j u c hu hc) (wc_ b u (zzd_ hu)) hI
theorem Net.keepI{T:Nat->Nat}{g:Gh}{w wx:World}{X n:Nat}{q:List Int}{B:Nat->Bl}{M:Nat->Nat->List Vt}{h:Hd}(hn:Net T g w X n q B M h)(hb:Below w.heap.size w wx):∀b o,o<g.I b->o<g.I b/\wx.cell? ⟨b,o,none⟩=w.cell? ⟨b,o,none⟩ :=
 fun b o ho=>⟨ho,yyb_ (a:=⟨b,o,none⟩) (hb.block b (hn.Ilt b (by omega)))⟩
theorem z0_{m:Nat}{w wx:World}{b o:Nat}{v:Value}(h:Below m w wx)(hc:w.cell? ⟨b,o,none⟩=some v)(hb:b<m):wx.cell? ⟨b,o,none⟩=some v :=
 (yyb_ (a:=⟨b,o,none⟩) (h.block b hb)).trans hc
theorem Below.mono1{m m':Nat}{w wx:World}(h:Below m w wx)(hm:m'<=m):Below m' w wx:=⟨h.os,h.tape,h.output,h.size,fun k hk=>h.block k (by omega)⟩
theorem zK_(w:World)(o:Obj):Below w.heap.size w (w.alloc o):=⟨rfl,rfl,rfl,by simp,fun k hk=>Below.heap_alloc w o k hk⟩
theorem va_{W:World}{k:Nat}{r0 r1 r2 r3 r4 r5 r6 r7 r8 r9 r10:Value}(hw:W.heap[k]?=some (.cells #[r0,r1,r2,r3,r4,r5,r6,r7,r8,r9,r10] 39 (0,0))) :
 W.cell? ⟨k,0,none⟩=some r0/\W.cell? ⟨k,1,none⟩=some r1/\W.cell? ⟨k,2,none⟩=some r2/\W.cell? ⟨k,3,none⟩=some r3/\W.cell? ⟨k,4,none⟩=some r4/\W.cell? ⟨k,5,none⟩=some r5/\W.cell? ⟨k,6,none⟩=some r6/\W.cell? ⟨k,7,none⟩=some r7/\W.cell? ⟨k,8,none⟩=some r8/\W.cell? ⟨k,9,none⟩=some r9/\W.cell? ⟨k,10,none⟩=some r10:=by
 simp[World.cell?,hw]
theorem pe_{T:Nat->Nat}{g:Gh}{w:World}{X n:Nat}{q:List Int}{B:Nat->Bl}{M:Nat->Nat->List Vt}{h:Hd}(hn:Net T g w X n q B M h){i:Nat}(hi:i<n){b:Bl}{l:List Vt}
 (hq:q.length<=1000) (hbi:(B i).sm) (hb:b.sm) (hR:xI_ n q i (B i) (relO (mbU (B i).qu 9))=okR b l) (hto:∀m∈l,0<=m.to/\m.to<n) (hl:l.length<=1000) (hM:∀a b,(M a b).length+l.length<=100000) :
 Calls Try.prog 11 #[.pointer (some ⟨X,0,none⟩),.int .i64 i] w fun e w'=>∃T' g' h',e=.returned (.bool (bOk n q i b))/\Net T' g' w' X n q (updB B i b) (yB_ M i l) h' /\
  w'.os=w.os/\w'.tape=w.tape/\w'.output=w.output/\w.heap.size<=w'.heap.size/\(∀k,k<w.heap.size->T k=0->T' k=0/\w'.heap[k]?=w.heap[k]?)/\(∀k,k<w.heap.size->g'.I k=g.I k):=by
 have mx:=zp_
 have x0:=hn.x0
 have x1:=hn.x1
 have x2:=hn.x2
 have n9:=hn.n9
 have hbcn:=hn.bcn
 have hqo:h.qv.oneCell'=true:=hn.hq.one rfl
 have hiz:(i:Int)<n:=by omega
 have hi0:¬(i:Int)<0:=by omega
 obtain⟨v0,v1,v2,v3,v4,v5,v6,v7,v8,v9,v10,a0,a1,a2,a3,a4,a5,a6,a7,a8,a9,a10,hrv,⟨o0,o1,o2,o3,o4,o5,o6,o7,o8,o9,o10⟩,e7,e1⟩:=hn.st hi
 have hcall:∀wx,Below w.heap.size w wx->Calls Try.prog 21 #[.agg #[v0,v1,v2,v3,v4,v5,v6,v7,v8,v9,v10],.agg #[.int .i64 n,h.qv],.int .i64 i] wx fun e w'=>∃g' r0 r1 r2 r3 r4 r5 r6 r7 r8 r9 r10 A C,e=.returned (.tuple #[.agg #[r0,r1,r2,r3,r4,r5,r6,r7,r8,r9,r10],.slice A l.length C,.int .i64 0])/\Gv g wx b l w' g' r0 r1 r2 r3 r4 r5 r6 r7 r8 r9 r10 A C:=by
  intro wx hbx
  have hI:=hn.keepI hbx
  refine(xk_ (nB_ (B i) n q i hq hbi) (g:=g) (w:=wx) (vals:=#[.agg #[v0,v1,v2,v3,v4,v5,v6,v7,v8,v9,v10],.agg #[.int .i64 n,h.qv],.int .i64 i]) rfl ?_ ?_ fun k hk=>zzk_ (hn.Ilt k hk) hbx.size).mono ?_
  .intro x hx
   simp at hx
   rcases hx with rfl|rfl|rfl<;>rfl
  .intro x u c hu hc
   match x,hu,hc with
   | 0, hu, hc =>
     cases hu
     cases hc
     exact xZ_ hrv hI
   | 1, hu, hc =>
     cases hu
     cases hc
     refine .agg rfl (by intro c hc;simp at hc;rcases hc with rfl|rfl;rfl;exact hqo) (fun x u c hu hc=>?_)
     match x,hu,hc with
     |0,hu,hc=>cases hu;cases hc;exact .s rfl
     |1,hu,hc=>cases hu;cases hc;exact zu_ hn.hq rfl hI
   |2,hu,hc=>cases hu;cases hc;exact .s rfl
  .rintro e w' ⟨v,r,g',rfl,rfl,hr,hbel,hg,hlt⟩
   rw[hR]at hr
   obtain⟨r0,r1,r2,r3,r4,r5,r6,r7,r8,r9,r10,A,C,rfl,hv⟩:=kQ_ hr hbel hg hlt
   exact⟨g',r0,r1,r2,r3,r4,r5,r6,r7,r8,r9,r10,A,C,rfl,hv⟩
 have hB1:Below w.heap.size w w.drew:=⟨rfl,rfl,rfl,zzl_ _,fun _ _=>rfl⟩
 have hB2:Below w.heap.size w (w.drew.alloc (.cells #[.int .i64 0,.int .i64 0,.int .i64 0,.int .i64 0,.int .i64 0,.int .i64 0,.int .i64 0,.bool false,.slice none 0 0,.slice none 0 0,.bool false] 39)):=⟨rfl,rfl,rfl,by simp,fun k hk=>Below.heap_alloc w.drew _ k hk⟩
 have hZ2:(w.drew.alloc (.cells #[.int .i64 0,.int .i64 0,.int .i64 0,.int .i64 0,.int .i64 0,.int .i64 0,.int .i64 0,.bool false,.slice none 0 0,.slice none 0 0,.bool false] 39)).heap[w.heap.size]?=some (.cells z39 39 (0,0)):=heap_alloc_new w.drew (.cells z39 39)
 have hz2:w.heap.size<(w.drew.alloc (.cells #[.int .i64 0,.int .i64 0,.int .i64 0,.int .i64 0,.int .i64 0,.int .i64 0,.int .i64 0,.bool false,.slice none 0 0,.slice none 0 0,.bool false] 39)).heap.size:=by simp
 have hXl:X<w.heap.size:=(hn.tz X (by rw[hn.tag.x];omega)).1
 have hBl:h.bk<w.heap.size:=(hn.tz _ (by rw[hn.tag.b];omega)).1
 have hS:∀wx,Below w.heap.size w wx->wx.cell? ⟨X,0,none⟩=some (.int .i64 n)/\wx.cell? ⟨X,1,none⟩=some h.qv/\wx.cell? ⟨X,2,none⟩=some (.slice (some ⟨h.bk,0,none⟩) n h.bc)/\wx.cell? ⟨h.bk,i*11,none⟩=some v0/\wx.cell? ⟨h.bk,i*11+1,none⟩=some v1/\wx.cell? ⟨h.bk,i*11+2,none⟩=some v2/\wx.cell? ⟨h.bk,i*11+3,none⟩=some v3/\wx.cell? ⟨h.bk,i*11+4,none⟩=some v4/\wx.cell? ⟨h.bk,i*11+5,none⟩=some v5/\wx.cell? ⟨h.bk,i*11+6,none⟩=some v6/\wx.cell? ⟨h.bk,i*11+7,none⟩=some v7/\wx.cell? ⟨h.bk,i*11+8,none⟩=some v8/\wx.cell? ⟨h.bk,i*11+9,none⟩=some v9/\wx.cell? ⟨h.bk,i*11+10,none⟩=some v10:=fun wx hb=>⟨z0_ hb x0 hXl,z0_ hb x1 hXl,z0_ hb x2 hXl,z0_ hb a0 hBl,z0_ hb a1 hBl,z0_ hb a2 hBl,z0_ hb a3 hBl,z0_ hb a4 hBl,z0_ hb a5 hBl,z0_ hb a6 hBl,z0_ hb a7 hBl,z0_ hb a8 hBl,z0_ hb a9 hBl,z0_ hb a10 hBl⟩
 have HS:=Lib.hid hS
 clear hS x0 x1 x2 a0 a1 a2 a3 a4 a5 a6 a7 a8 a9 a10
 have HN:=Lib.hid hn
 have HC:=Lib.hid hcall
 have HB0:=Lib.hid hb
 have HTO:=Lib.hid hto
 have HM:=Lib.hid hM
 clear hn hcall hb hto hM hR hrv hqo e7 e1 o0 o1 o2 o3 o4 o5 o6 o7 o8 o9 o10
 go_enter Try.func11,Try.ntmps11
 go_wp2
 go_region_held3 (fun wx=>wx.cell? ⟨X,0,none⟩=some (.int .i64 n)/\wx.cell? ⟨X,1,none⟩=some h.qv/\wx.cell? ⟨X,2,none⟩=some (.slice (some ⟨h.bk,0,none⟩) n h.bc)/\wx.cell? ⟨h.bk,i*11,none⟩=some v0/\wx.cell? ⟨h.bk,i*11+1,none⟩=some v1/\wx.cell? ⟨h.bk,i*11+2,none⟩=some v2/\wx.cell? ⟨h.bk,i*11+3,none⟩=some v3/\wx.cell? ⟨h.bk,i*11+4,none⟩=some v4/\wx.cell? ⟨h.bk,i*11+5,none⟩=some v5/\wx.cell? ⟨h.bk,i*11+6,none⟩=some v6/\wx.cell? ⟨h.bk,i*11+7,none⟩=some v7/\wx.cell? ⟨h.bk,i*11+8,none⟩=some v8/\wx.cell? ⟨h.bk,i*11+9,none⟩=some v9/\wx.cell? ⟨h.bk,i*11+10,none⟩=some v10)
  ((refine HS.out _ ?_;assumption))
  (first
  | (go_at_call 21
     refine(HC.out _ hB1).mono ?_
     rintro e w' ⟨g',r0,r1,r2,r3,r4,r5,r6,r7,r8,r9,r10,A,C,rfl,hv⟩
     have hB3:=hB1.trans (Below.mono1 hv.below hB1.size)
     obtain⟨y1,y2,y3,y4,y5,y6,y7,y8,y9,y10,W,z0,z1,z2,z3,z4,z5,z6,z7,z8,z9,z10,hW1,hW2,hW3⟩:=mS_ (P:=Try.prog) w' hv.one
     have hB4:Below w.heap.size w (w'.alloc (.cells #[.int .i64 0,.int .i64 0,.int .i64 0,.int .i64 0,.int .i64 0,.int .i64 0,.int .i64 0,.bool false,.slice none 0 0,.slice none 0 0,.bool false] 39)):=hB3.trans (Below.mono1 (zK_ w' _) hB3.size)
     have hB5:Below w.heap.size w W:=hB3.trans (Below.mono1 hW1 hB3.size)
     have HA:=Lib.hid (hv.aft1 HN.out hB1 hW1)
     have HO:=Lib.hid hv.one
     have HW:=Lib.hid (And.intro hB3.size hW3)
     clear hv hW1 hW2 hW3)
  | (go_at_call 21
     refine(HC.out _ hB2).mono ?_
     rintro e w' ⟨g',r0,r1,r2,r3,r4,r5,r6,r7,r8,r9,r10,A,C,rfl,hv⟩
     have hB3:=hB2.trans (Below.mono1 hv.below hB2.size)
     obtain⟨y1,y2,y3,y4,y5,y6,y7,y8,y9,y10,W,z0,z1,z2,z3,z4,z5,z6,z7,z8,z9,z10,hW1,hW2,hW3,hW4,hW5,hW6⟩:=hv.box1 (P:=Try.prog) hZ2
     have HA:=Lib.hid (hv.aft2 HN.out hB2 (zzl_ _) hz2 hW1 hW2 hW3 hW4 hW5)
     have hB5:Below w.heap.size w W:=⟨HA.out.os,HA.out.tape,HA.out.output,HA.out.size,HA.out.fr⟩
     have HO:=Lib.hid hv.one
     have HW:=Lib.hid (And.intro (zzl_ w.heap.size) hW6)
     clear hv hW1 hW2 hW3 hW4 hW5 hW6))
 all_goals
  obtain⟨q0,q1,q2,q3,q4,q5,q6,q7,q8,q9,q10⟩:=va_ HW.out.2
  have hcall2:=wT_ HA.out.net hi hq HB0.out HA.out.rb HA.out.rl HTO.out hl HM.out
  have HC2:=Lib.hid hcall2
  clear hcall2
  go_wp2_with ((go_at_call 31
                refine HC2.out.mono ?_
                rintro e w2 ⟨T',g2,h',rfl,hk⟩
                have HK:=Lib.hid hk
                clear hk))
  all_goals go_wp2
  all_goals go_ret
  all_goals
   obtain⟨t1,t2,t3,t4,t5,t6,t7⟩:=HK.out
   have ha:=HA.out
   exact⟨T',g2,h',rfl,t1,t2.trans ha.os,t3.trans ha.tape,t4.trans ha.output,yyd_ ha.size t5,fun k hk h0=>⟨(t6 k (zzk_ hk ha.size) h0).1,(t6 k (zzk_ hk ha.size) h0).2.trans (ha.fr k hk)⟩,fun k hk=>(t7 k (zzk_ hk ha.size)).trans (ha.same k hk)⟩
structure Pop(T:Nat->Nat)(g:Gh)(w:World)(X n:Nat)(q:List Int)(B:Nat->Bl)(M:Nat->Nat->List Vt)(T':Nat->Nat)(h':Hd)(m:Vt)(Kt:Nat)(W:World):Prop where
 net:Net T' g W X n q B M h'
 box:W.heap[Kt]?=some (.cells #[.int .i64 m.k,.int .i64 m.to,.int .i64 m.st,.int .i64 m.ss] 46 (0,0))
 tK:T' Kt=0
 lt:w.heap.size<=Kt
 os:W.os=w.os
 tape:W.tape=w.tape
 output:W.output=w.output
 size:w.heap.size<=W.heap.size
 fr:∀k,k<w.heap.size->T k=0->T' k=0/\W.heap[k]?=w.heap[k]?
theorem qO_{k off cap m:Nat}(h1:m+1<=cap)(h2:cap<=maxLen)(Y:World):(Instr.slice 41 (.slice (some ⟨k,off,none⟩) (m+1) cap) (some (.int .i64 1)) none none).run Try.prog Y=.ok (.slice (if cap=1 then some ⟨k,off,none⟩ else some ⟨k,off+4,none⟩) m (cap-1)) Y:=by
 obtain⟨i0,hi0,hzs⟩:∃i0,Try.prog.info? 46=some i0/\i0.size=4:=⟨_,rfl,by kernel_rfl⟩
 have hb:(Instr.sliceBounds true (m+1) cap (some (.int .i64 1)) none none).run Try.prog Y=.ok (1,m+1,cap) Y:=by
  have h3:(1:Int)<=(m:Int)+1:=by omega
  simp[Instr.sliceBounds,Instr.sliceBound,asIntOf,h3]
 simp[Instr.slice,run_underlying Try.underlying41,hb,sizeOf,typeInfo,hi0,hzs,Addr.add]
theorem Net.popV{T:Nat->Nat}{g:Gh}{w:World}{X n:Nat}{q:List Int}{B:Nat->Bl}{M:Nat->Nat->List Vt}{h:Hd}(hn:Net T g w X n q B M h){i j:Nat}(hi:i<n)(hj:j<n){m:Vt}{rest:List Vt}(hm:M i j=m::rest) :
 ∃ (k off cap Kt C2 : Nat) (A2 : Option Addr) (W4 W5 : World) (T2 : Nat → Nat) (h2 : Hd), h.mv i j = .slice (some ⟨k, off, none⟩) (rest.length + 1) cap ∧ rest.length + 1 ≤ cap ∧ cap ≤ maxLen ∧
   (w.cell? ⟨k,off,none⟩=some (.int .i64 m.k)/\w.cell? ⟨k,off+1,none⟩=some (.int .i64 m.to)/\w.cell? ⟨k,off+2,none⟩=some (.int .i64 m.st)/\w.cell? ⟨k,off+3,none⟩=some (.int .i64 m.ss)) /\
   w.heap.size=Kt/\Asd (w.alloc (.cells #[.int .i64 m.k,.int .i64 m.to,.int .i64 m.st,.int .i64 m.ss] 46)=W4)/\W4.cell? ⟨X,3,none⟩=some (.slice (some ⟨h.mb,0,none⟩) n h.mc)/\W4.cell? ⟨h.mb,i,none⟩=some (.slice (some ⟨h.rk i,0,none⟩) n (h.rc i))/\W4.cell? ⟨h.rk i,j,none⟩=some (h.mv i j) /\
   W4.frozen? ⟨h.rk i,j,none⟩=false/\Asd (∀Y:World,Y=W4.drew->Y.setCell ⟨h.rk i,j,none⟩ (.slice A2 rest.length C2)=W5)/\(∀Y:World,(Instr.slice 41 (.slice (some ⟨k,off,none⟩) (rest.length+1) cap) (some (.int .i64 1)) none none).run Try.prog Y=.ok (.slice A2 rest.length C2) Y)/\(W5.cell? ⟨X,3,none⟩=some (.slice (some ⟨h.mb,0,none⟩) n h.mc)/\W5.cell? ⟨h.mb,i,none⟩=some (.slice (some ⟨h.rk i,0,none⟩) n (h.rc i)))/\Asd (Pop T g w X n q B (updM M i j rest) T2 h2 m Kt W5):=by
 have n9:=hn.n9
 have hv0:=hn.vv i j hi hj
 rw[hm]at hv0
 obtain⟨k,off,cap,e,e1,e2,c0,c1,c2,c3,hmb,hrb⟩:=kJ_ hv0
 obtain⟨W4,hW4⟩:∃W4,W4=w.alloc (.cells #[.int .i64 m.k,.int .i64 m.to,.int .i64 m.st,.int .i64 m.ss] 46):=⟨_,rfl⟩
 have hb4:Below w.heap.size w W4:=by rw[hW4];exact zK_ w _
 have hs4:W4.heap.size=w.heap.size+1:=by rw[hW4];simp
 have hK4:W4.heap[w.heap.size]?=some (.cells #[.int .i64 m.k,.int .i64 m.to,.int .i64 m.st,.int .i64 m.ss] 46 (0,0)):=by rw[hW4];exact heap_alloc_new w _
 have hn4:=hn.below hb4
 have hd:Net T g W4.drew X n q B M h:=hn4.grow (zzl_ _) (fun _ _=>rfl) (fun _ _=>rfl) hn4.Ilt
 have hm4:MBx W4.drew (.slice (if cap=1 then some ⟨k,off,none⟩ else some ⟨k,off+4,none⟩) rest.length (cap-1)) rest:=hmb.keep fun k' hk'=>hb4.block k' (hn.vt hi hj (hrb k' hk')).1
 obtain⟨q1,q2,q3⟩:=hd.setV hi hj (w1:=W4.drew) (l':=rest) (zzl_ _) (fun _ _ _=>rfl) hm4 fun k' hk'=>⟨.inl (hrb k' hk'),by have:=(hn.vt hi hj (hrb k' hk')).1;show k'<W4.heap.size;omega⟩
 have hTr:=hn.tag.r i hi
 obtain⟨cr,r1,r2⟩:=hn4.rr i hi
 have hKT:T w.heap.size=0:=by
  by_cases h0:T w.heap.size=0
  .exact h0
  .have:=(hn.tz _ h0).1;omega
 have hp0:∀a,T a=0->putT T i j (.slice (if cap=1 then some ⟨k,off,none⟩ else some ⟨k,off+4,none⟩) rest.length (cap-1)) a=0:=fun a ha=>by
  by_cases e':rb (.slice (if cap=1 then some ⟨k,off,none⟩ else some ⟨k,off+4,none⟩) rest.length (cap-1))=some a
  .have:=hn.tag.v i j a hi hj (hrb a e');omega
  .unfold putT
   rw[if_neg e']
   exact ha
 refine⟨k,off,cap,w.heap.size,cap-1,if cap=1 then some ⟨k,off,none⟩ else some ⟨k,off+4,none⟩,W4,_,_,_,e,e1,e2,⟨c0,c1,c2,c3⟩,rfl,⟨hW4.symm⟩,hn4.x3,hn4.m1 hi,hn4.m2 hi hj,by simp[World.frozen?,r1],⟨fun Y hY=>by rw[hY]⟩,fun Y=>qO_ e1 e2 Y,⟨q1.x3,q1.m1 hi⟩,⟨q1,?_,hp0 _ hKT,zzl_ _,hb4.os,hb4.tape,hb4.output,?_,fun a ha h0=>⟨hp0 a h0,?_⟩⟩⟩
 .rw[q3 _ (by show w.heap.size<W4.heap.size;omega) (by intro e';rw[e']at hKT;omega)]
  exact hK4
 .rw[q2];show w.heap.size<=W4.heap.size;omega
 .rw[q3 a (by show a<W4.heap.size;omega) (by rintro rfl;omega)]
  exact hb4.block a ha
theorem nH_{M:Nat->Nat->List Vt}{i j:Nat}{m:Vt}{rest:List Vt}(hm:M i j=m::rest)(a b:Nat):(updM M i j rest a b).length<=(M a b).length:=by
 unfold updM
 split
 .next e=>rw[e.1,e.2,hm];simp
 .exact zzl_ _
theorem tt_{T:Nat->Nat}{g:Gh}{w:World}{X n:Nat}{q:List Int}{B:Nat->Bl}{M:Nat->Nat->List Vt}{h:Hd}(hn:Net T g w X n q B M h){i j:Nat}(hi:i<n)(hj:j<n){m:Vt}{rest:List Vt}(hm:M i j=m::rest){b:Bl}{l:List Vt}
 (hq:q.length<=1000) (hg:(B j).given.length<=1000) (hqq:(B j).queue.length<=1000) (hb:b.sm) (hR:zt_ n q j i m (B j)=okR b l) (hto:∀m∈l,0<=m.to/\m.to<n) (hl:l.length<=1000) (hM:∀a b,(M a b).length+l.length<=100000) :
 Calls Try.prog 12 #[.pointer (some ⟨X,0,none⟩),.int .i64 i,.int .i64 j] w fun e w'=>∃T' g' h',e=.returned (.bool (bOk n q j b))/\Net T' g' w' X n q (updB B j b) (yB_ (updM M i j rest) j l) h' /\
  w'.os=w.os/\w'.tape=w.tape/\w'.output=w.output/\w.heap.size<=w'.heap.size/\(∀k,k<w.heap.size->T k=0->T' k=0/\w'.heap[k]?=w.heap[k]?)/\(∀k,k<w.heap.size->g'.I k=g.I k):=by
 have mx:=zp_
 have n9:=hn.n9
 have x3:=hn.x3
 have m1:=hn.m1 hi
 have m2:=hn.m2 hi hj
 have hbcn:=hn.bcn
 have hmcn:=hn.mcn
 have hrcn:=hn.rcn i hi
 have hiz:(i:Int)<n:=by omega
 have hjz:(j:Int)<n:=by omega
 obtain⟨k,off,cap,Kt,C2,A2,W4,W5,T2,h2,e,e1,e2,⟨c0,c1,c2,c3⟩,hKt,hW4,f3,f1,f2,ffr,hst,hsl,⟨s3,s1⟩,hP⟩:=hn.popV hi hj hm
 rw[e]at f2 m2
 have HN:=Lib.hid hn
 have hlr:((rest.length+1:Nat):Int)=(rest.length:Int)+1:=by omega
 have HQ:=Lib.hid hm
 have HP:=Lib.hid hP
 clear e hn hm
 have d2:W4.drew.cell? ⟨h.rk i,j,none⟩=some (.slice (some ⟨k,off,none⟩) (rest.length+1) cap):=f2
 have d3:W4.drew.cell? ⟨X,3,none⟩=some (.slice (some ⟨h.mb,0,none⟩) n h.mc):=f3
 have d1:W4.drew.cell? ⟨h.mb,i,none⟩=some (.slice (some ⟨h.rk i,0,none⟩) n (h.rc i)):=f1
 have dfr:W4.drew.frozen? ⟨h.rk i,j,none⟩=false:=ffr
 have hst1:W4.drew.setCell ⟨h.rk i,j,none⟩ (.slice A2 rest.length C2)=W5:=hst.out _ rfl
 clear hst
 have HE:=Lib.hid (And.intro e1 e2)
 -- behind the first region
 have hN:=hP.out.net
 have x0:=hN.x0
 have x1:=hN.x1
 have x2:=hN.x2
 have hbc2:=hN.bcn
 have hqo:h2.qv.oneCell'=true:=hN.hq.one rfl
 obtain⟨v0,v1,v2,v3,v4,v5,v6,v7,v8,v9,v10,a0,a1,a2,a3,a4,a5,a6,a7,a8,a9,a10,hrv,⟨o0,o1,o2,o3,o4,o5,o6,o7,o8,o9,o10⟩,e7,e8⟩:=hN.st hj
 have hKl:Kt<W5.heap.size:=(zzm_.1 hP.out.box).1
 have k0:W5.cell? ⟨Kt,0,none⟩=some (.int .i64 m.k):=by simp[World.cell?,hP.out.box]
 have k1:W5.cell? ⟨Kt,1,none⟩=some (.int .i64 m.to):=by simp[World.cell?,hP.out.box]
 have k2:W5.cell? ⟨Kt,2,none⟩=some (.int .i64 m.st):=by simp[World.cell?,hP.out.box]
 have k3:W5.cell? ⟨Kt,3,none⟩=some (.int .i64 m.ss):=by simp[World.cell?,hP.out.box]
 have hcall:∀wx,Below W5.heap.size W5 wx->Calls Try.prog 23 #[.agg #[v0,v1,v2,v3,v4,v5,v6,v7,v8,v9,v10],.agg #[.int .i64 n,h2.qv],.int .i64 j,.int .i64 i,.agg #[.int .i64 m.k,.int .i64 m.to,.int .i64 m.st,.int .i64 m.ss]] wx fun e w'=>∃g' r0 r1 r2 r3 r4 r5 r6 r7 r8 r9 r10 A C,e=.returned (.tuple #[.agg #[r0,r1,r2,r3,r4,r5,r6,r7,r8,r9,r10],.slice A l.length C,.int .i64 0])/\Gv g wx b l w' g' r0 r1 r2 r3 r4 r5 r6 r7 r8 r9 r10 A C:=by
  intro wx hbx
  have hI:=hN.keepI hbx
  refine(xk_ (tB_ (B j) n q j i m hq hg hqq) (g:=g) (w:=wx) (vals:=#[.agg #[v0,v1,v2,v3,v4,v5,v6,v7,v8,v9,v10],.agg #[.int .i64 n,h2.qv],.int .i64 j,.int .i64 i,.agg #[.int .i64 m.k,.int .i64 m.to,.int .i64 m.st,.int .i64 m.ss]]) rfl ?_ ?_ fun k hk=>zzk_ (hN.Ilt k hk) hbx.size).mono ?_
  .intro x hx
   simp at hx
   rcases hx with rfl|rfl|rfl|rfl|rfl<;>rfl
  .intro x u c hu hc
   match x,hu,hc with
   | 0, hu, hc =>
     cases hu
     cases hc
     exact xZ_ hrv hI
   | 1, hu, hc =>
     cases hu
     cases hc
     refine .agg rfl (by intro c hc;simp at hc;rcases hc with rfl|rfl;rfl;exact hqo) (fun x u c hu hc=>?_)
     match x,hu,hc with
     |0,hu,hc=>cases hu;cases hc;exact .s rfl
     |1,hu,hc=>cases hu;cases hc;exact zu_ hN.hq rfl hI
   |2,hu,hc=>cases hu;cases hc;exact .s rfl
   |3,hu,hc=>cases hu;cases hc;exact .s rfl
   | 4, hu, hc =>
     cases hu
     cases hc
     refine .agg rfl (by intro c hc;simp at hc;rcases hc with rfl|rfl|rfl|rfl<;>rfl) (fun x u c hu hc=>?_)
     match x,hu,hc with
     |0,hu,hc=>cases hu;cases hc;exact .s rfl
     |1,hu,hc=>cases hu;cases hc;exact .s rfl
     |2,hu,hc=>cases hu;cases hc;exact .s rfl
     |3,hu,hc=>cases hu;cases hc;exact .s rfl
  .rintro e w' ⟨v,r,g',rfl,rfl,hr,hbel,hg,hlt⟩
   rw[hR]at hr
   obtain⟨r0,r1,r2,r3,r4,r5,r6,r7,r8,r9,r10,A,C,rfl,hv⟩:=kQ_ hr hbel hg hlt
   exact⟨g',r0,r1,r2,r3,r4,r5,r6,r7,r8,r9,r10,A,C,rfl,hv⟩
 have hB1:Below W5.heap.size W5 W5.drew:=⟨rfl,rfl,rfl,zzl_ _,fun _ _=>rfl⟩
 have hB2:Below W5.heap.size W5 (W5.drew.alloc (.cells #[.int .i64 0,.int .i64 0,.int .i64 0,.int .i64 0,.int .i64 0,.int .i64 0,.int .i64 0,.bool false,.slice none 0 0,.slice none 0 0,.bool false] 39)):=⟨rfl,rfl,rfl,by simp,fun k hk=>Below.heap_alloc W5.drew _ k hk⟩
 have hZ2:(W5.drew.alloc (.cells #[.int .i64 0,.int .i64 0,.int .i64 0,.int .i64 0,.int .i64 0,.int .i64 0,.int .i64 0,.bool false,.slice none 0 0,.slice none 0 0,.bool false] 39)).heap[W5.heap.size]?=some (.cells z39 39 (0,0)):=heap_alloc_new W5.drew (.cells z39 39)
 have hz2:W5.heap.size<(W5.drew.alloc (.cells #[.int .i64 0,.int .i64 0,.int .i64 0,.int .i64 0,.int .i64 0,.int .i64 0,.int .i64 0,.bool false,.slice none 0 0,.slice none 0 0,.bool false] 39)).heap.size:=by simp
 have hXl:X<W5.heap.size:=(hN.tz X (by rw[hN.tag.x];omega)).1
 have hBl:h2.bk<W5.heap.size:=(hN.tz _ (by rw[hN.tag.b];omega)).1
 have hS:∀wx,Below W5.heap.size W5 wx->wx.cell? ⟨X,0,none⟩=some (.int .i64 n)/\wx.cell? ⟨X,1,none⟩=some h2.qv/\wx.cell? ⟨X,2,none⟩=some (.slice (some ⟨h2.bk,0,none⟩) n h2.bc)/\wx.cell? ⟨h2.bk,j*11,none⟩=some v0/\wx.cell? ⟨h2.bk,j*11+1,none⟩=some v1/\wx.cell? ⟨h2.bk,j*11+2,none⟩=some v2/\wx.cell? ⟨h2.bk,j*11+3,none⟩=some v3/\wx.cell? ⟨h2.bk,j*11+4,none⟩=some v4/\wx.cell? ⟨h2.bk,j*11+5,none⟩=some v5/\wx.cell? ⟨h2.bk,j*11+6,none⟩=some v6/\wx.cell? ⟨h2.bk,j*11+7,none⟩=some v7/\wx.cell? ⟨h2.bk,j*11+8,none⟩=some v8/\wx.cell? ⟨h2.bk,j*11+9,none⟩=some v9/\wx.cell? ⟨h2.bk,j*11+10,none⟩=some v10/\wx.cell? ⟨Kt,0,none⟩=some (.int .i64 m.k)/\wx.cell? ⟨Kt,1,none⟩=some (.int .i64 m.to)/\wx.cell? ⟨Kt,2,none⟩=some (.int .i64 m.st)/\wx.cell? ⟨Kt,3,none⟩=some (.int .i64 m.ss):=fun wx hb=>⟨z0_ hb x0 hXl,z0_ hb x1 hXl,z0_ hb x2 hXl,z0_ hb a0 hBl,z0_ hb a1 hBl,z0_ hb a2 hBl,z0_ hb a3 hBl,z0_ hb a4 hBl,z0_ hb a5 hBl,z0_ hb a6 hBl,z0_ hb a7 hBl,z0_ hb a8 hBl,z0_ hb a9 hBl,z0_ hb a10 hBl,z0_ hb k0 hKl,z0_ hb k1 hKl,z0_ hb k2 hKl,z0_ hb k3 hKl⟩
 have HS:=Lib.hid hS
 clear hS x0 x1 x2 a0 a1 a2 a3 a4 a5 a6 a7 a8 a9 a10 k0 k1 k2 k3
 have HN:=Lib.hid hN
 have HC:=Lib.hid hcall
 have HB0:=Lib.hid hb
 have HTO:=Lib.hid hto
 have HM:=Lib.hid hM
 clear hN hcall hb hto hM hR hrv hqo e7 e8 o0 o1 o2 o3 o4 o5 o6 o7 o8 o9 o10
 go_enter Try.func12,Try.ntmps12
 go_wp2
 rw[hW4.out]
 go_wp2
 go_region
 go_wp2
 go_region_held3 (fun wx=>wx.cell? ⟨X,0,none⟩=some (.int .i64 n)/\wx.cell? ⟨X,1,none⟩=some h2.qv/\wx.cell? ⟨X,2,none⟩=some (.slice (some ⟨h2.bk,0,none⟩) n h2.bc)/\wx.cell? ⟨h2.bk,j*11,none⟩=some v0/\wx.cell? ⟨h2.bk,j*11+1,none⟩=some v1/\wx.cell? ⟨h2.bk,j*11+2,none⟩=some v2/\wx.cell? ⟨h2.bk,j*11+3,none⟩=some v3/\wx.cell? ⟨h2.bk,j*11+4,none⟩=some v4/\wx.cell? ⟨h2.bk,j*11+5,none⟩=some v5/\wx.cell? ⟨h2.bk,j*11+6,none⟩=some v6/\wx.cell? ⟨h2.bk,j*11+7,none⟩=some v7/\wx.cell? ⟨h2.bk,j*11+8,none⟩=some v8/\wx.cell? ⟨h2.bk,j*11+9,none⟩=some v9/\wx.cell? ⟨h2.bk,j*11+10,none⟩=some v10/\wx.cell? ⟨Kt,0,none⟩=some (.int .i64 m.k)/\wx.cell? ⟨Kt,1,none⟩=some (.int .i64 m.to)/\wx.cell? ⟨Kt,2,none⟩=some (.int .i64 m.st)/\wx.cell? ⟨Kt,3,none⟩=some (.int .i64 m.ss))
  ((refine HS.out _ ?_;assumption))
  (first
  | (go_at_call 23
     refine(HC.out _ hB1).mono ?_
     rintro e w' ⟨g',r0,r1,r2,r3,r4,r5,r6,r7,r8,r9,r10,A,C,rfl,hv⟩
     have hB3:=hB1.trans (Below.mono1 hv.below hB1.size)
     obtain⟨y1,y2,y3,y4,y5,y6,y7,y8,y9,y10,W,z0,z1,z2,z3,z4,z5,z6,z7,z8,z9,z10,hW1,hW2,hW3⟩:=mS_ (P:=Try.prog) w' hv.one
     have hB4:Below W5.heap.size W5 (w'.alloc (.cells #[.int .i64 0,.int .i64 0,.int .i64 0,.int .i64 0,.int .i64 0,.int .i64 0,.int .i64 0,.bool false,.slice none 0 0,.slice none 0 0,.bool false] 39)):=hB3.trans (Below.mono1 (zK_ w' _) hB3.size)
     have hB5:Below W5.heap.size W5 W:=hB3.trans (Below.mono1 hW1 hB3.size)
     have HA:=Lib.hid (hv.aft1 HN.out hB1 hW1)
     have HO:=Lib.hid hv.one
     have HW:=Lib.hid (And.intro hB3.size hW3)
     clear hv hW1 hW2 hW3)
  | (go_at_call 23
     refine(HC.out _ hB2).mono ?_
     rintro e w' ⟨g',r0,r1,r2,r3,r4,r5,r6,r7,r8,r9,r10,A,C,rfl,hv⟩
     have hB3:=hB2.trans (Below.mono1 hv.below hB2.size)
     obtain⟨y1,y2,y3,y4,y5,y6,y7,y8,y9,y10,W,z0,z1,z2,z3,z4,z5,z6,z7,z8,z9,z10,hW1,hW2,hW3,hW4,hW5,hW6⟩:=hv.box1 (P:=Try.prog) hZ2
     have HA:=Lib.hid (hv.aft2 HN.out hB2 (zzl_ _) hz2 hW1 hW2 hW3 hW4 hW5)
     have hB5:Below W5.heap.size W5 W:=⟨HA.out.os,HA.out.tape,HA.out.output,HA.out.size,HA.out.fr⟩
     have HO:=Lib.hid hv.one
     have HW:=Lib.hid (And.intro (zzl_ W5.heap.size) hW6)
     clear hv hW1 hW2 hW3 hW4 hW5 hW6))
 all_goals
  obtain⟨q0,q1,q2,q3,q4,q5,q6,q7,q8,q9,q10⟩:=va_ HW.out.2
  have hcall2:=wT_ HA.out.net hj hq HB0.out HA.out.rb HA.out.rl HTO.out hl (fun a b=>yyd_ (Nat.add_le_add_right (nH_ HQ.out a b) _) (HM.out a b))
  have HC2:=Lib.hid hcall2
  clear hcall2
  go_wp2_with ((go_at_call 31
                refine HC2.out.mono ?_
                rintro e w2 ⟨T',g2,h',rfl,hk⟩
                have HK:=Lib.hid hk
                clear hk))
  all_goals go_wp2
  all_goals go_ret
  all_goals
   obtain⟨t1,t2,t3,t4,t5,t6,t7⟩:=HK.out
   have ha:=HA.out
   have hp:=HP.out.out
   exact⟨T',g2,h',rfl,t1,t2.trans (ha.os.trans hp.os),t3.trans (ha.tape.trans hp.tape),t4.trans (ha.output.trans hp.output),yyd_ hp.size (yyd_ ha.size t5),fun k hk h0=>⟨(t6 k (zzk_ (zzk_ hk hp.size) ha.size) (hp.fr k hk h0).1).1,(t6 k (zzk_ (zzk_ hk hp.size) ha.size) (hp.fr k hk h0).1).2.trans ((ha.fr k (zzk_ hk hp.size)).trans (hp.fr k hk h0).2)⟩,fun k hk=>(t7 k (zzk_ (zzk_ hk hp.size) ha.size)).trans (ha.same k (zzk_ hk hp.size))⟩
end Go.Proofs.Ytpfjlnmnolbiaaa
namespace Go.Proofs.Ytpfjlnmnolbiaaa.QP
abbrev Ms:=List (Kd×Sp)
def toUp:Kd->Option Up
 |.ask=>some .ask|.yld=>some .yld|.rel=>some .rel|_=>none
def toDn:Kd->Option Dn
 |.yes=>some .yes|.fal=>some .fal|.inq=>some .inq|_=>none
def upM(l:Ms):List Up:=l.filterMap fun m=>toUp m.1
def dnM(l:Ms):List Dn:=l.filterMap fun m=>toDn m.1
theorem sQ_(a b:Ms):upM (a++b)=upM a++upM b:=by simp[upM]
theorem rt_(a b:Ms):dnM (a++b)=dnM a++dnM b:=by simp[dnM]
def Rof(b:Bt)(v:Nat):Ra:=if b.qu.testBit v then (if b.votes.testBit v then .h else .w) else .o
def hasS(l:List Sp)(i:Nat):Bool:=l.any fun x=>x.s==i
def Vof(b:Bt)(i:Nat):Va:=if hasS b.given i then .g else if hasS b.queue i then .q else .n
theorem xD_{l:List Sp}{i:Nat}:hasS l i=true↔∃x∈l,x.s=i:=by simp[hasS]
def got(out:Out)(st:Sp)(v:Nat):Ms:=(out.filter fun o=>o.2==v).map fun o=>(o.1,if o.1=.ask then st else ⟨0,0⟩)
def put(M:Nat->Nat->Ms)(j:Nat)(out:Out)(st:Sp)(a v:Nat):Ms:=if a=j then M a v++got out st v else M a v
def pop(M:Nat->Nat->Ms)(i j a v:Nat):Ms:=if a=i/\v=j then (M a v).tail else M a v
def upd1(B:Nat->Bt)(j:Nat)(b:Bt)(a:Nat):Bt:=if a=j then b else B a
structure NInv(n:Nat)(Q:List Nat)(T:Nat)(B:Nat->Bt)(M:Nat->Nat->Ms):Prop where
 sh:∀i v,i<n->v<n->Shape (Rof (B i) v) (Vof (B v) i) (upM (M i v)) (dnM (M v i))
 ao:∀i,i<n->AOk Q i (B i)
 vo:∀i,i<n->VOk n T (B i)
 ms:∀i v,∀m∈M i v,(m.1=.ask->m.2.s=i/\m.2.t<=T)/\(m.1≠.ask->m.2=⟨0,0⟩)
theorem ld_{v:Nat}{p:Nat->Bool}:∀ {n:Nat},((List.range n).filter fun x=>p x&&x==v)=if v<n/\p v=true then [v] else []
 |0=>by simp
 | n + 1 => by
   rw[yyv_,List.filter_append,ld_]
   by_cases h:v=n
   .subst h
    cases e:p v<;>simp[e]
   .have h1:(n==v)=false:=by simpa using fun e:n=v=>h e.symm
    have h2:(v<n+1)↔v<n:=by omega
    simp[h1,h2]
theorem tk_{n s v:Nat}{k:Kd}{st:Sp}(hv:v<n):got ((mem n s).map fun x=>(k,x)) st v=if s.testBit v then [(k,if k=.ask then st else ⟨0,0⟩)] else []:=by
 have e:((mem n s).map fun x=>(k,x)).filter (fun o=>o.2==v)=((mem n s).filter fun x=>x==v).map fun x=>(k,x):=by
  rw[List.filter_map];rfl
 unfold got
 rw[e]
 unfold mem
 rw[List.filter_filter]
 have e2:((List.range n).filter fun x=>x==v&&s.testBit x)=(List.range n).filter fun x=>s.testBit x&&x==v:=by
  congr 1;funext x;exact Bool.and_comm ..
 rw[e2,ld_]
 cases s.testBit v<;>simp[hv]
theorem is_{out:Out}{st:Sp}{v i T:Nat}(hs:∀o∈out,o.1=.ask->st.s=i/\st.t<=T):∀m∈got out st v,(m.1=.ask->m.2.s=i/\m.2.t<=T)/\(m.1≠.ask->m.2=⟨0,0⟩):=by
 intro m hm
 unfold got at hm
 obtain⟨o,ho,rfl⟩:=List.mem_map.1 hm
 have ho:=(List.mem_filter.1 ho).1
 refine⟨fun e=>?_,fun e=>?_⟩
 .have e:o.1=.ask:=e
  simp only[e,if_true]
  exact hs o ho e
 .have e:o.1≠.ask:=e
  simp[e]
section
variable{n:Nat}{Q:List Nat}{T:Nat}{B:Nat->Bt}{M:Nat->Nat->Ms}
theorem og_(h:∀i v,∀m∈M i v,(m.1=.ask->m.2.s=i/\m.2.t<=T)/\(m.1≠.ask->m.2=⟨0,0⟩)){j:Nat}{out:Out}{st:Sp}{T':Nat}(ht:T<=T')(hs:∀o∈out,o.1=.ask->st.s=j/\st.t<=T') :
 ∀i v,∀m∈put M j out st i v,(m.1=.ask->m.2.s=i/\m.2.t<=T')/\(m.1≠.ask->m.2=⟨0,0⟩):=by
 intro i v m hm
 have old:∀m∈M i v,(m.1=.ask->m.2.s=i/\m.2.t<=T')/\(m.1≠.ask->m.2=⟨0,0⟩):=fun m hm=>⟨fun e=>⟨((h i v m hm).1 e).1,yyd_ ((h i v m hm).1 e).2 ht⟩,(h i v m hm).2⟩
 unfold put at hm
 split at hm
 .next e =>
  subst e
  rcases zzw_.1 hm with hm|hm
  .exact old m hm
  .exact is_ hs m hm
 .exact old m hm
theorem lg_(h:∀i v,∀m∈M i v,(m.1=.ask->m.2.s=i/\m.2.t<=T)/\(m.1≠.ask->m.2=⟨0,0⟩))(a c:Nat) :
 ∀i v,∀m∈pop M a c i v,(m.1=.ask->m.2.s=i/\m.2.t<=T)/\(m.1≠.ask->m.2=⟨0,0⟩):=by
 intro i v m hm
 unfold pop at hm
 split at hm
 .exact h i v m (List.mem_of_mem_tail hm)
 .exact h i v m hm
theorem NInv.asker{j:Nat}{b:Bt}{s:Nat}{k:Kd}{u:Up}{st:Sp}{T':Nat}(h:NInv n Q T B M)(hj:j<n)(hT:T<=T')(hk:toUp k=some u)(hkd:toDn k=none)
 (hb:b.given=(B j).given/\b.queue=(B j).queue) (ha:AOk Q j b) (hv:VOk n T' b) (hs:k=.ask->st.s=j/\st.t<=T')
 (hr:∀v,v<n->s.testBit v=false->Rof b v=Rof (B j) v)
 (hw:∀v d w,v<n->s.testBit v=true->Shape (Rof (B j) v) w (upM (M j v)) d->Shape (Rof b v) w (upM (M j v)++[u]) d) :
 NInv n Q T' (upd1 B j b) (put M j ((mem n s).map fun v=>(k,v)) st):=by
 have hV:∀v i,Vof (upd1 B j b v) i=Vof (B v) i:=by
  intro v i
  unfold upd1
  split
  .next e=>subst e;unfold Vof;rw[hb.1,hb.2]
  .rfl
 have hdn:∀a v,v<n->dnM (put M j ((mem n s).map fun v=>(k,v)) st a v)=dnM (M a v):=by
  intro a v hvn
  unfold put
  split
  .rw[rt_,tk_ hvn]
   split<;>simp[dnM,hkd]
  .rfl
 refine⟨fun i v hi hvn=>?_,fun i hi=>?_,fun i hi=>?_,og_ h.ms hT fun o ho e=>?_⟩
 .rw[hV,hdn v i hi]
  have old:=h.sh i v hi hvn
  by_cases e:i=j
  .subst e
   have e1:upd1 B i b i=b:=by simp[upd1]
   have e2:upM (put M i ((mem n s).map fun v=>(k,v)) st i v)=upM (M i v)++(if s.testBit v then [u] else []):=by
    unfold put
    rw[if_pos rfl,sQ_,tk_ hvn]
    cases s.testBit v<;>simp[upM,hk]
   rw[e1,e2]
   cases hsv:s.testBit v
   .rw[hr v hvn hsv]
    simpa using old
   .simpa using hw v _ _ hvn hsv old
  .have e1:upd1 B j b i=B i:=by simp[upd1,e]
   have e2:put M j ((mem n s).map fun v=>(k,v)) st i v=M i v:=by simp[put,e]
   rw[e1,e2]
   exact old
 .unfold upd1
  split
  .next e=>subst e;exact ha
  .exact h.ao i hi
 .unfold upd1
  split
  .exact hv
  .exact(h.vo i hi).mono hT
 .obtain⟨v,_,rfl⟩:=List.mem_map.1 ho
  exact hs e
theorem NInv.want{j q:Nat}(h:NInv n Q T B M)(hj:j<n)(h0:(B j).qu=0)(hq:q∈Q)(hq0:q≠0) :
 NInv n Q (T+1) (upd1 B j (wantB n (B j) j q).1) (put M j (wantB n (B j) j q).2 (wantB n (B j) j q).1.stamp):=by
 have hvt:(B j).votes=0:=eq_of_bits fun v=>by
  cases e:(B j).votes.testBit v
  .simp
  .have:=(h.ao j hj).vq v e;rw[h0]at this;simp at this
 have hvo:=h.vo j hj
 refine h.asker (s:=q) (k:=.ask) (u:=.ask) hj (by omega) rfl rfl ⟨rfl,rfl⟩ ((h.ao j hj).want h0 hq hq0) ?_ (fun _=>⟨rfl,?_⟩) (fun v hv hb=>?_) fun v d w hv hb hs=>?_
 .exact⟨hvo.g1,hvo.gq,hvo.aq,fun x hx=>⟨(hvo.rng x hx).1,by have:=(hvo.rng x hx).2;omega⟩,hvo.ds,hvo.asc,by have:=hvo.tm;show (B j).time+1<=T+1;omega⟩
 .have:=hvo.tm;show (B j).time+1<=T+1;omega
 .have e1:Rof (B j) v=.o:=by simp[Rof,h0]
  have e2:Rof (wantB n (B j) j q).1 v=.o:=by simp[Rof,wantB,hb]
  rw[e1,e2]
 .have e1:Rof (B j) v=.o:=by simp[Rof,h0]
  have e2:Rof (wantB n (B j) j q).1 v=.w:=by simp[Rof,wantB,hb,hvt]
  rw[e1]at hs
  rw[e2]
  exact hs.want
theorem NInv.done{j:Nat}(h:NInv n Q T B M)(hj:j<n)(hu:(B j).using'=true) :
 NInv n Q T (upd1 B j (doneB n (B j)).1) (put M j (doneB n (B j)).2 ⟨0,0⟩):=by
 have hvo:=h.vo j hj
 obtain⟨hq0,hvq⟩:=(h.ao j hj).us.1 hu
 refine h.asker (s:=(B j).qu) (k:=.rel) (u:=.rel) hj (zzl_ _) rfl rfl ⟨rfl,rfl⟩ ((h.ao j hj).done hu) ?_ (fun e=>by cases e) (fun v hv hb=>?_) fun v d w hv hb hs=>?_
 .exact⟨hvo.g1,hvo.gq,hvo.aq,hvo.rng,hvo.ds,hvo.asc,hvo.tm⟩
 .have e1:Rof (B j) v=.o:=by simp[Rof,hb]
  have e2:Rof (doneB n (B j)).1 v=.o:=by simp[Rof,doneB]
  rw[e1,e2]
 .have e1:Rof (B j) v=.h:=by simp[Rof,hvq,hb]
  have e2:Rof (doneB n (B j)).1 v=.o:=by simp[Rof,doneB]
  rw[e1]at hs
  rw[e2]
  exact hs.release
end
end Go.Proofs.Ytpfjlnmnolbiaaa.QP
namespace Go.Proofs.Ytpfjlnmnolbiaaa.QP
section
variable{n:Nat}{Q:List Nat}{T:Nat}{B:Nat->Bt}{M:Nat->Nat->Ms}
theorem pL_{i j:Nat}{m:Kd×Sp}{rest:Ms}(hM:M i j=m::rest)(hk:toUp m.1=none)(a v:Nat):upM (pop M i j a v)=upM (M a v):=by
 unfold pop
 split
 .next e =>
  obtain⟨rfl,rfl⟩:=e
  rw[hM];simp[upM,hk]
 .rfl
theorem ng_{i j:Nat}{m:Kd×Sp}{rest:Ms}(hM:M i j=m::rest)(hk:toDn m.1=none)(a v:Nat):dnM (pop M i j a v)=dnM (M a v):=by
 unfold pop
 split
 .next e =>
  obtain⟨rfl,rfl⟩:=e
  rw[hM];simp[dnM,hk]
 .rfl
theorem q4_{i j a v:Nat}(h:¬(a=i/\v=j)):pop M i j a v=M a v:=by simp[pop,h]
theorem yJ_{i j:Nat}{m:Kd×Sp}{rest:Ms}(hM:M i j=m::rest):pop M i j i j=rest:=by simp[pop,hM]
theorem NInv.hearA{i j:Nat}{m:Kd×Sp}{rest:Ms}{d0:Dn}{b:Bt}{s:Nat}(h:NInv n Q T B M)(hi:i<n)(hj:j<n)(hM:M i j=m::rest)(hk:toDn m.1=some d0)(hku:toUp m.1=none)
 (hb:b.given=(B j).given/\b.queue=(B j).queue) (ha:AOk Q j b) (hv:VOk n T b)
 (hr:∀v,v<n->v≠i->s.testBit v=false->Rof b v=Rof (B j) v)
 (hw:∀v,v<n->v≠i->s.testBit v=true->Rof (B j) v=.h/\Rof b v=.w)
 (hx:∀w u d,Shape (Rof (B j) i) w u (d0::d)->Shape (Rof b i) w (u++if s.testBit i then [.yld] else []) d) :
 NInv n Q T (upd1 B j b) (put (pop M i j) j ((mem n s).map fun v=>(.yld,v)) ⟨0,0⟩):=by
 have hV:∀v a,Vof (upd1 B j b v) a=Vof (B v) a:=by
  intro v a
  unfold upd1
  split
  .next e=>subst e;unfold Vof;rw[hb.1,hb.2]
  .rfl
 have hdn:∀a v,v<n->dnM (put (pop M i j) j ((mem n s).map fun v=>(.yld,v)) ⟨0,0⟩ a v)=dnM (pop M i j a v):=by
  intro a v hvn
  unfold put
  split
  .rw[rt_,tk_ hvn]
   split<;>simp[dnM,toDn]
  .rfl
 refine⟨fun a v han hvn=>?_,fun a han=>?_,fun a han=>?_,og_ (lg_ h.ms i j) (zzl_ _) fun o ho e=>?_⟩
 .rw[hV,hdn v a han]
  have old:=h.sh a v han hvn
  by_cases ea:a=j
  .subst ea
   have e1:upd1 B a b a=b:=by simp[upd1]
   have e2:upM (put (pop M i a) a ((mem n s).map fun v=>(.yld,v)) ⟨0,0⟩ a v)=upM (M a v)++(if s.testBit v then [.yld] else []):=by
    unfold put
    rw[if_pos rfl,sQ_,tk_ hvn,pL_ hM hku]
    cases s.testBit v<;>simp[upM,toUp]
   rw[e1,e2]
   by_cases ev:v=i
   .subst ev
    rw[yJ_ hM]
    refine hx _ _ _ ?_
    have:dnM (M v a)=d0::dnM rest:=by rw[hM];simp[dnM,hk]
    rw[this]at old
    exact old
   .rw[q4_ (by intro q;exact ev q.1)]
    cases hsv:s.testBit v
    .rw[hr v hvn ev hsv];simpa using old
    .obtain⟨w1,w2⟩:=hw v hvn ev hsv
     rw[w1]at old
     rw[w2]
     simpa using old.yield
  .have e1:upd1 B j b a=B a:=by simp[upd1,ea]
   have e2:upM (put (pop M i j) j ((mem n s).map fun v=>(.yld,v)) ⟨0,0⟩ a v)=upM (M a v):=by
    unfold put
    rw[if_neg ea,pL_ hM hku]
   rw[e1,e2,q4_ (by intro q;exact ea q.2)]
   exact old
 .unfold upd1
  split
  .next e=>subst e;exact ha
  .exact h.ao a han
 .unfold upd1
  split
  .exact hv
  .exact h.vo a han
 .obtain⟨v,_,rfl⟩:=List.mem_map.1 ho
  cases e
theorem NInv.hearV{i j:Nat}{m:Kd×Sp}{rest:Ms}{u0:Up}{b:Bt}{out:Out}(h:NInv n Q T B M)(hi:i<n)(hj:j<n)(hM:M i j=m::rest)(hk:toUp m.1=some u0)(hkd:toDn m.1=none)
 (hb:b.qu=(B j).qu/\b.votes=(B j).votes) (ha:AOk Q j b) (hv:VOk n T b) (ho:∀o∈out,toUp o.1=none)
 (hx:∀r u d,Shape r (Vof (B j) i) (u0::u) d->Shape r (Vof b i) u (d++dnM (got out ⟨0,0⟩ i)))
 (hy:∀a r u d,a<n->a≠i->Shape r (Vof (B j) a) u d->Shape r (Vof b a) u (d++dnM (got out ⟨0,0⟩ a))) :
 NInv n Q T (upd1 B j b) (put (pop M i j) j out ⟨0,0⟩):=by
 have hR:∀a v,Rof (upd1 B j b a) v=Rof (B a) v:=by
  intro a v
  unfold upd1
  split
  .next e=>subst e;unfold Rof;rw[hb.1,hb.2]
  .rfl
 have hgu:∀a,upM (got out ⟨0,0⟩ a)=[]:=by
  intro a
  unfold upM
  rw[List.filterMap_eq_nil_iff]
  intro x hx
  unfold got at hx
  obtain⟨o,ho',rfl⟩:=List.mem_map.1 hx
  exact ho o (List.mem_filter.1 ho').1
 have hup:∀a v,upM (put (pop M i j) j out ⟨0,0⟩ a v)=upM (pop M i j a v):=by
  intro a v
  unfold put
  split
  .rw[sQ_,hgu];simp
  .rfl
 refine⟨fun a v han hvn=>?_,fun a han=>?_,fun a han=>?_,og_ (lg_ h.ms i j) (zzl_ _) fun o ho' e=>?_⟩
 .rw[hR,hup]
  have old:=h.sh a v han hvn
  by_cases ev:v=j
  .subst ev
   have e1:upd1 B v b v=b:=by simp[upd1]
   have e2:dnM (put (pop M i v) v out ⟨0,0⟩ v a)=dnM (M v a)++dnM (got out ⟨0,0⟩ a):=by
    unfold put
    rw[if_pos rfl,rt_,ng_ hM hkd]
   rw[e1,e2]
   by_cases ea:a=i
   .subst ea
    rw[yJ_ hM]
    refine hx _ _ _ ?_
    have:upM (M a v)=u0::upM rest:=by rw[hM];simp[upM,hk]
    rw[this]at old
    exact old
   .rw[q4_ (by intro q;exact ea q.1)]
    exact hy a _ _ _ han ea old
  .have e1:upd1 B j b v=B v:=by simp[upd1,ev]
   have e2:dnM (put (pop M i j) j out ⟨0,0⟩ v a)=dnM (M v a):=by
    unfold put
    rw[if_neg ev,ng_ hM hkd]
   rw[e1,e2,q4_ (by intro q;exact ev q.2)]
   exact old
 .unfold upd1
  split
  .next e=>subst e;exact ha
  .exact h.ao a han
 .unfold upd1
  split
  .exact hv
  .exact h.vo a han
 .have:=ho o ho'
  rw[e]at this
  cases this
theorem mem0(n:Nat):mem n 0=[]:=by simp[mem]
theorem of_(j:Nat)(st:Sp):put M j [] st=M:=by
 funext a v
 unfold put
 split<;>simp[got]
theorem NInv.yes{i j:Nat}{s:Sp}{rest:Ms}(h:NInv n Q T B M)(hi:i<n)(hj:j<n)(hM:M i j=(.yes,s)::rest) :
 ((B j).qu.testBit i=true/\(B j).votes.testBit i=false)/\NInv n Q T (upd1 B j (yesA (B j) i)) (pop M i j):=by
 have old:=h.sh j i hj hi
 have ed:dnM (M i j)=.yes::dnM rest:=by rw[hM];simp[dnM,toDn]
 rw[ed]at old
 have hw:=old.yes.1
 have hq:(B j).qu.testBit i=true/\(B j).votes.testBit i=false:=by
  unfold Rof at hw
  cases e1:(B j).qu.testBit i
  .rw[e1]at hw;simp at hw
  .cases e2:(B j).votes.testBit i
   .exact⟨rfl,rfl⟩
   .rw[e1,e2]at hw;simp at hw
 refine⟨hq,?_⟩
 have hvo:=h.vo j hj
 have hvb:∀v,(yesA (B j) i).votes.testBit v=((B j).votes.testBit v||decide (i=v)):=fun v=>by
  have:(yesA (B j) i).votes=(B j).votes|||2^i:=by unfold yesA;split<;>rfl
  rw[this,Nat.testBit_or,pow_bit]
 have hqb:(yesA (B j) i).qu=(B j).qu:=by unfold yesA;split<;>rfl
 have key:=h.hearA (s:=0) (b:=yesA (B j) i) hi hj hM rfl rfl (by unfold yesA;split<;>exact⟨rfl,rfl⟩) ((h.ao j hj).yes hq.1 hq.2)
  (by unfold yesA;split<;>exact⟨hvo.g1,hvo.gq,hvo.aq,hvo.rng,hvo.ds,hvo.asc,hvo.tm⟩)
  (fun v hv hne _=>by
   unfold Rof
   rw[hqb,hvb v,decide_eq_false (fun e:i=v=>hne e.symm),Bool.or_false])
  (fun v hv hne hs=>by simp at hs)
  (fun w u d hs=>by
   have:Rof (yesA (B j) i) i=.h:=by unfold Rof;rw[hqb,hq.1,hvb i];simp
   rw[this]
   simpa using hs.yes.2)
 rw[mem0]at key
 simp only[List.map_nil]at key
 rwa [of_]at key
end
end Go.Proofs.Ytpfjlnmnolbiaaa.QP
namespace Go.Proofs.Ytpfjlnmnolbiaaa.QP
section
variable{n:Nat}{Q:List Nat}{T:Nat}{B:Nat->Bt}{M:Nat->Nat->Ms}
theorem hA_{b:Bt}{v:Nat}(h:Rof b v=.w):b.qu.testBit v=true/\b.votes.testBit v=false:=by
 unfold Rof at h
 cases e1:b.qu.testBit v
 .rw[e1]at h;simp at h
 .cases e2:b.votes.testBit v
  .exact⟨rfl,rfl⟩
  .rw[e1,e2]at h;simp at h
theorem NInv.fail{i j:Nat}{s:Sp}{rest:Ms}(h:NInv n Q T B M)(hi:i<n)(hj:j<n)(hM:M i j=(.fal,s)::rest) :
 ((B j).qu.testBit i=true/\(B j).votes.testBit i=false)/\NInv n Q T (upd1 B j (failA n (B j) i).1) (put (pop M i j) j (failA n (B j) i).2 ⟨0,0⟩):=by
 have old:=h.sh j i hj hi
 have ed:dnM (M i j)=.fal::dnM rest:=by rw[hM];simp[dnM,toDn]
 rw[ed]at old
 have hq:=hA_ old.fail.1
 refine⟨hq,?_⟩
 have hvo:=h.vo j hj
 have hao:=h.ao j hj
 have hvb:∀v,(failA n (B j) i).1.votes.testBit v=((B j).votes.testBit v&&!(B j).inqd.testBit v):=fun v=>wo_bit _ _ _
 have hii:(B j).inqd.testBit i=false:=by
  cases e:(B j).inqd.testBit i
  .rfl
  .have:=hao.iv i e;rw[hq.2]at this;cases this
 refine h.hearA (s:=(B j).inqd) hi hj hM rfl rfl ⟨rfl,rfl⟩ (hao.fail hq.1 hq.2) ⟨hvo.g1,hvo.gq,hvo.aq,hvo.rng,hvo.ds,hvo.asc,hvo.tm⟩ (fun v hv hne hs=>?_) (fun v hv hne hs=>?_) fun w u d hs=>?_
 .have e1:(failA n (B j) i).1.qu=(B j).qu:=rfl
  unfold Rof
  rw[e1,hvb,hs]
  simp
 .have e1:(failA n (B j) i).1.qu=(B j).qu:=rfl
  have hvv:=hao.iv v hs
  have hqv:=hao.vq v hvv
  unfold Rof
  rw[e1,hvb,hs,hvv,hqv]
  simp
 .have e1:(failA n (B j) i).1.qu=(B j).qu:=rfl
  have:Rof (failA n (B j) i).1 i=.w:=by
   unfold Rof
   rw[e1,hvb,hq.1,hq.2]
   simp
  rw[this,hii]
  simpa using hs.fail.2
theorem NInv.inq{i j:Nat}{s:Sp}{rest:Ms}(h:NInv n Q T B M)(hi:i<n)(hj:j<n)(hM:M i j=(.inq,s)::rest) :
 NInv n Q T (upd1 B j (inqA n (B j) i).1) (put (pop M i j) j (inqA n (B j) i).2 ⟨0,0⟩):=by
 have hvo:=h.vo j hj
 have hao:=h.ao j hj
 have nothing:∀b:Bt,b.qu=(B j).qu->b.votes=(B j).votes->b.given=(B j).given->b.queue=(B j).queue->AOk Q j b->VOk n T b->NInv n Q T (upd1 B j b) (put (pop M i j) j [] ⟨0,0⟩):=by
  intro b e1 e2 e3 e4 ha hv
  have hR:∀v,Rof b v=Rof (B j) v:=fun v=>by unfold Rof;rw[e1,e2]
  have:=h.hearA (s:=0) (b:=b) hi hj hM rfl rfl ⟨e3,e4⟩ ha hv (fun v _ _ _=>hR v) (fun v _ _ hs=>by simp at hs) (fun w u d hs=>by rw[hR];simpa using hs.inq)
  rw[mem0]at this
  exact this
 have hA:=hao.inq (n:=n) (j:=i)
 unfold inqA at hA ⊢
 split
 .next hc=>rw[if_pos hc]at hA;exact nothing _ rfl rfl rfl rfl hA ⟨hvo.g1,hvo.gq,hvo.aq,hvo.rng,hvo.ds,hvo.asc,hvo.tm⟩
 .next hc =>
  rw[if_neg hc]at hA
  split
  .next hf=>rw[if_pos hf]at hA;exact nothing _ rfl rfl rfl rfl hA ⟨hvo.g1,hvo.gq,hvo.aq,hvo.rng,hvo.ds,hvo.asc,hvo.tm⟩
  .next hf =>
   rw[if_neg hf]at hA
   have hv:(B j).votes.testBit i=true:=by
    cases e:(B j).votes.testBit i
    .exact absurd (.inl e) hc
    .rfl
   have hqv:=hao.vq i hv
   have hvb:∀v,(give n (B j) (2^i)).1.votes.testBit v=((B j).votes.testBit v&&!decide (i=v)):=fun v=>by
    have:(give n (B j) (2^i)).1.votes=wo (B j).votes (2^i):=rfl
    rw[this,wo_bit,pow_bit]
   have e1:(give n (B j) (2^i)).1.qu=(B j).qu:=rfl
   refine h.hearA (s:=2^i) hi hj hM rfl rfl ⟨rfl,rfl⟩ hA ⟨hvo.g1,hvo.gq,hvo.aq,hvo.rng,hvo.ds,hvo.asc,hvo.tm⟩ (fun v hvn hne hs=>?_) (fun v hvn hne hs=>?_) fun w u d hs=>?_
   .unfold Rof
    rw[e1,hvb,decide_eq_false (fun e:i=v=>hne e.symm)]
    simp
   .rw[pow_bit]at hs
    exact absurd (of_decide_eq_true hs).symm hne
   .have r1:Rof (B j) i=.h:=by unfold Rof;rw[hqv,hv];rfl
    have r2:Rof (give n (B j) (2^i)).1 i=.w:=by unfold Rof;rw[e1,hvb,hqv,hv];simp
    rw[r1]at hs
    rw[r2,pow_bit]
    simpa using hs.inq.yield
theorem hz_{b:Bt}{a:Nat}(h:Vof b a=.n):hasS b.given a=false/\hasS b.queue a=false:=by
 unfold Vof at h
 cases e1:hasS b.given a
 .cases e2:hasS b.queue a
  .exact⟨rfl,rfl⟩
  .rw[e1,e2]at h;simp at h
 .rw[e1]at h;simp at h
theorem lt_{l:List Sp}{a:Nat}(h:hasS l a=false):∀x∈l,x.s≠a:=by
 intro x hx e
 have:hasS l a=true:=xD_.2 ⟨x,hx,e⟩
 rw[h]at this;cases this
theorem tj_{s:Sp}{l:List Sp}{a:Nat}:hasS (ins s l) a=(decide (s.s=a)||hasS l a):=by
 rw[yyt_,zzy_,xD_,xD_,zzp_]
 constructor
 .rintro⟨x,hx,e⟩
  rcases xc_.1 hx with rfl|hx
  .exact .inl e
  .exact .inr ⟨x,hx,e⟩
 .rintro(e|⟨x,hx,e⟩)
  .exact⟨s,xc_.2 (.inl rfl),e⟩
  .exact⟨x,xc_.2 (.inr hx),e⟩
theorem u4_{b:Bt}(h:VOk n T b){g:Sp}{r:List Sp}(hg:b.given=g::r):r=[]:=by
 have:=h.g1
 rw[hg]at this
 cases r with
 |nil=>rfl
 |cons _ _=>simp at this
theorem Shape.same{r:Ra}{v:Va}{u:List Up}{d:List Dn}(h:Shape r v u d):Shape r v u (d++dnM []):=by simpa[dnM] using h
theorem NInv.ask{i j:Nat}{s:Sp}{rest:Ms}(h:NInv n Q T B M)(hi:i<n)(hj:j<n)(hM:M i j=(.ask,s)::rest) :
 (s.s=i/\s.t<=T/\∀x∈(B j).given++(B j).queue,x.s≠i)/\NInv n Q T (upd1 B j (askV (B j) s).1) (put (pop M i j) j (askV (B j) s).2 ⟨0,0⟩):=by
 have old:=h.sh i j hi hj
 have ed:upM (M i j)=.ask::upM rest:=by rw[hM];simp[upM,toUp]
 rw[ed]at old
 have hvn:=hz_ old.ask.1
 obtain⟨hs,ht⟩:=(h.ms i j (.ask,s) (by rw[hM];simp)).1 rfl
 have hn:∀x∈(B j).given++(B j).queue,x.s≠i:=by
  intro x hx
  rcases zzw_.1 hx with hx|hx
  .exact lt_ hvn.1 x hx
  .exact lt_ hvn.2 x hx
 have hs:s.s=i:=hs
 have ht:s.t<=T:=ht
 refine⟨⟨hs,ht,hn⟩,?_⟩
 have hvo:=h.vo j hj
 have hao:=h.ao j hj
 have hV':=hvo.ask (s:=s) (by rw[hs];exact hi) ht (by rw[hs];exact hn)
 have hf:(askV (B j) s).1.qu=(B j).qu/\(askV (B j) s).1.votes=(B j).votes/\(askV (B j) s).1.fail=(B j).fail/\(askV (B j) s).1.inqd=(B j).inqd/\(askV (B j) s).1.stamp=(B j).stamp/\(askV (B j) s).1.using'=(B j).using'/\(B j).time<=(askV (B j) s).1.time:=by
  unfold askV
  split
  .exact⟨rfl,rfl,rfl,rfl,rfl,rfl,Nat.le_max_left ..⟩
  .split<;>exact⟨rfl,rfl,rfl,rfl,rfl,rfl,Nat.le_max_left ..⟩
 have hA':AOk Q j (askV (B j) s).1:=by
  obtain⟨f1,f2,f3,f4,f5,f6,f7⟩:=hf
  refine⟨by rw[f1];exact hao.qu,by rw[f1,f2];exact hao.vq,by rw[f1,f3];exact hao.fq,by rw[f2,f3];exact hao.fv,by rw[f2,f4];exact hao.iv,by rw[f1,f5,f6];exact hao.s0,?_,by rw[f1,f2,f6];exact hao.us,by rw[f4,f6];exact hao.ui⟩
  rw[f1,f5]
  intro e
  obtain⟨a1,a2,a3⟩:=hao.s1 e
  exact⟨a1,a2,by omega⟩
 unfold askV at hV' hA' ⊢
 cases hg:(B j).given with
 | nil =>
   have hq:=hvo.gq hg
   simp only[hg]at hV' hA' ⊢
   refine h.hearV (out:=[(.yes,s.s)]) hi hj hM rfl rfl ⟨rfl,rfl⟩ hA' hV' (by simp[toUp]) (fun r u d hs'=>?_) fun a r u d han hne hs'=>?_
   .have v1:Vof (B j) i=.n:=old.ask.1
    rw[v1]at hs'
    obtain⟨_,rfl,rfl,k,_,_⟩:=hs'.ask
    have v2:∀t,Vof { B j with time:=t,given:=[s] } i=.g:=fun t=>by simp[Vof,hasS,hs]
    rw[v2,hs]
    simpa[got,dnM,toDn] using k
   .have v1:Vof (B j) a=.n:=by simp[Vof,hasS,hg,hq]
    have v2:∀t,Vof { B j with time:=t,given:=[s] } a=.n:=fun t=>by
     have:¬s.s=a:=fun e=>hne (by rw[<-e,hs])
     simp[Vof,hasS,hq,this]
    rw[v1]at hs'
    rw[v2]
    have:¬s.s=a:=fun e=>hne (by rw[<-e,hs])
    simpa[got,this,dnM] using hs'
 | cons g r0 =>
   have hr0:=u4_ hvo hg
   subst hr0
   have hgi:g.s≠i:=hn g (by rw[hg];simp)
   have hgq:(B j).given++(B j).queue=g::(B j).queue:=by rw[hg];rfl
   have hds:=hvo.ds
   rw[hgq]at hds
   obtain⟨d1,d2⟩:=List.pairwise_cons.1 hds
   have v1:Vof (B j) i=.n:=old.ask.1
   have vi:∀t ak,Vof { B j with time:=t,asked:=ak,given:=[g],queue:=ins s (B j).queue } i=.q:=fun t ak=>by
    have e1:hasS [g] i=false:=by simp[hasS,hgi]
    simp[Vof,tj_,hs,e1]
   have va:∀t ak a,a≠i->Vof { B j with time:=t,asked:=ak,given:=[g],queue:=ins s (B j).queue } a=Vof (B j) a:=fun t ak a hne=>by
    have e:decide (s.s=a)=false:=decide_eq_false fun e=>hne (by rw[<-e,hs])
    simp only[Vof,tj_,e,Bool.false_or,hg]
   simp only[hg]at hV' hA' ⊢
   split
   .next hc =>
    rw[if_pos hc]at hV' hA'
    refine h.hearV hi hj hM rfl rfl ⟨rfl,rfl⟩ hA' hV' ?_ (fun r u d hs'=>?_) fun a r u d han hne hs'=>?_
    .intro o ho
     rcases zzw_.1 ho with ho|ho
     .unfold falFst at ho
      split at ho
      .simp at ho
      .split at ho
       .simp at ho;rw[ho];rfl
       .simp at ho
     .split at ho
      .simp at ho
      .simp at ho;rw[ho];rfl
    .rw[v1]at hs'
     obtain⟨_,rfl,rfl,_,_,k⟩:=hs'.ask
     show Shape .w (Vof { B j with time:=max (B j).time s.t,asked:=true,given:=[g],queue:=ins s (B j).queue } i) [] _
     rw[vi]
     show Shape .w .q [] (_++dnM (got (falFst g (B j).queue++if (B j).asked=true then [] else [(Kd.inq,g.s)]) ⟨0,0⟩ i))
     have e0:got (falFst g (B j).queue++if (B j).asked=true then [] else [(Kd.inq,g.s)]) ⟨0,0⟩ i=[]:=by
      unfold got
      rw[List.map_eq_nil_iff,List.filter_eq_nil_iff]
      intro o ho
      rcases zzw_.1 ho with ho|ho
      .cases hqq:(B j).queue with
       |nil=>rw[hqq]at ho;simp[falFst]at ho
       | cons x q' =>
         rw[hqq]at ho
         simp only[falFst]at ho
         split at ho
         .simp at ho
          rw[ho]
          have:=hn x (by rw[hgq,hqq];simp)
          simpa using this
         .simp at ho
      .split at ho
       .simp at ho
       .simp at ho;rw[ho];simpa using hgi
     rw[e0]
     exact k.same
    .show Shape r (Vof { B j with time:=max (B j).time s.t,asked:=true,given:=[g],queue:=ins s (B j).queue } a) u (d++dnM (got (falFst g (B j).queue++if (B j).asked=true then [] else [(Kd.inq,g.s)]) ⟨0,0⟩ a))
     rw[va _ _ a hne]
     by_cases hag:a=g.s
     .have vg:Vof (B j) a=.g:=by simp[Vof,hg,hasS,hag]
      have e0:dnM (got (falFst g (B j).queue++if (B j).asked=true then [] else [(Kd.inq,g.s)]) ⟨0,0⟩ a)=if (B j).asked then [] else [.inq]:=by
       have e1:got (falFst g (B j).queue) ⟨0,0⟩ a=[]:=by
        unfold got
        rw[List.map_eq_nil_iff,List.filter_eq_nil_iff]
        intro o ho
        cases hqq:(B j).queue with
        |nil=>rw[hqq]at ho;simp[falFst]at ho
        | cons x q' =>
          rw[hqq]at ho
          simp only[falFst]at ho
          split at ho
          .simp at ho
           rw[ho,hag]
           have:=d1 x (by rw[hqq];simp)
           simpa using fun e:x.s=g.s=>this e.symm
          .simp at ho
       have e2:∀x y:Out,got (x++y) ⟨0,0⟩ a=got x ⟨0,0⟩ a++got y ⟨0,0⟩ a:=fun x y=>by simp[got]
       rw[e2,e1,hag]
       cases (B j).asked<;>simp[got,dnM,toDn]
      rw[e0,vg]
      rw[vg]at hs'
      cases (B j).asked
      .simpa using hs'.inquire
      .simpa using hs'
     .have e2:∀x y:Out,got (x++y) ⟨0,0⟩ a=got x ⟨0,0⟩ a++got y ⟨0,0⟩ a:=fun x y=>by simp[got]
      have e3:got (if (B j).asked=true then [] else [(Kd.inq,g.s)]) ⟨0,0⟩ a=[]:=by
       have:¬g.s=a:=fun e=>hag e.symm
       cases (B j).asked<;>simp[got,this]
      rw[e2,e3,List.append_nil]
      cases hqq:(B j).queue with
      |nil=>simpa[falFst,got,dnM] using hs'
      | cons x q' =>
        simp only[falFst]
        split
        .by_cases hax:x.s=a
         ·have vq:Vof (B j) a=.q:=by
           have:¬g.s=a:=fun e=>hag e.symm
           simp[Vof,hg,hasS,hqq,hax,this]
          rw[vq]at hs' ⊢
          simpa[got,hax,dnM,toDn] using hs'.refuse
         .simpa[got,hax,dnM] using hs'
        .simpa[got,dnM] using hs'
   .next hc =>
    rw[if_neg hc]at hV' hA'
    refine h.hearV hi hj hM rfl rfl ⟨rfl,rfl⟩ hA' hV' (by simp[toUp]) (fun r u d hs'=>?_) fun a r u d han hne hs'=>?_
    .rw[v1]at hs'
     obtain⟨_,rfl,rfl,_,k,_⟩:=hs'.ask
     show Shape .w (Vof { B j with time:=max (B j).time s.t,asked:=(B j).asked,given:=[g],queue:=ins s (B j).queue } i) [] (d++dnM (got [(.fal,s.s)] ⟨0,0⟩ i))
     rw[vi,hs]
     simpa[got,dnM,toDn] using k
    .show Shape r (Vof { B j with time:=max (B j).time s.t,asked:=(B j).asked,given:=[g],queue:=ins s (B j).queue } a) u (d++dnM (got [(.fal,s.s)] ⟨0,0⟩ a))
     rw[va _ _ a hne]
     have hne2:¬s.s=a:=fun e=>hne (by rw[<-e,hs])
     simpa[got,hne2,dnM] using hs'
end
end Go.Proofs.Ytpfjlnmnolbiaaa.QP
