/- Texts put behind one another: N5, N6, N7, N8, N9, N10, N11, P1, P2, U1, U2, U3, U4, U5, P3, P4, P5, P6, U6, U7, U8, U9, N12, N13, Z1, Z2, J2, N14, N15, N16, N17, Z6. -/
import Derived.Test.YtpfjlnmnolbiaaaZF
import Derived.Deep.RegionHeld3
import Derived.Test.YtpfjlnmnolbiaaaZE
import Derived.OrdersHeld
import Derived.StillTail
import Derived.Deep.AppendLies
import Derived.Laws.MakeOwn
set_option linter.unusedVariables false
set_option linter.unusedSimpArgs false
namespace Go.Proofs.Ytpfjlnmnolbiaaa
open Go.RowKit Go.Proofs
theorem xj_{m:Nat}{w wx:World}{b o:Nat}{v:Option Value}(h:Below m w wx)(hc:w.cell? ⟨b,o,none⟩=v)(hb:b<m):wx.cell? ⟨b,o,none⟩=v :=
 (yyb_ (a:=⟨b,o,none⟩) (h.block b hb)).trans hc
set_option maxHeartbeats 8000000 in
set_option maxRecDepth 100000 in
theorem wM_{T:Nat->Nat}{g:Gh}{w:World}{X n:Nat}{q:List Int}{B:Nat->Bl}{M:Nat->Nat->List Vt}{h:Hd}(hn:Net T g w X n q B M h){i:Nat}(hi:i<n){b:Bl}{vs:Array Value}{A:Option Addr}{cap:Nat}{l:List Vt}
 (hq:q.length<=1000) (hb:b.sm) (hbv:Rep g w b.v (.agg vs)) (hlv:Rep g w (.list 4 (vl l)) (.slice A l.length cap)) (hto:∀m∈l,0<=m.to/\m.to<n) (hl:l.length<=1000) (hM:∀a b,(M a b).length+l.length<=100000) :
 Calls Try.prog 31 #[.pointer (some ⟨X,0,none⟩),.int .i64 i,.agg vs,.slice A l.length cap] w fun e w'=>∃T' g' h',e=.returned (.bool (bOk n q i b))/\Net T' g' w' X n q (updB B i b) (yz_ M i l) h' /\
  w'.os=w.os/\w'.tape=w.tape/\w'.output=w.output/\w.heap.size<=w'.heap.size/\(∀k,k<w.heap.size->T k=0->T' k=0/\w'.heap[k]?=w.heap[k]?)/\(∀k,k<w.heap.size->g'.I k=g.I k):=by
 have mx:=zD_
 obtain⟨v0,v1,v2,v3,v4,v5,v6,v7,v8,v9,v10,rfl⟩:∃v0 v1 v2 v3 v4 v5 v6 v7 v8 v9 v10,vs=#[v0,v1,v2,v3,v4,v5,v6,v7,v8,v9,v10]:=by
  cases hbv with
  | agg e1 e2 e3 =>
    have:vs.toList.length=11:=by have:=e1;simp[Bl.cs]at this;simp;omega
    match hv:vs.toList,this with
    |[a0,a1,a2,a3,a4,a5,a6,a7,a8,a9,a10],_=>exact⟨a0,a1,a2,a3,a4,a5,a6,a7,a8,a9,a10,Array.ext' (by simpa using hv)⟩
 have hone:∀v∈[v0,v1,v2,v3,v4,v5,v6,v7,v8,v9,v10],v.oneCell'=true:=by
  cases hbv with
  |agg e1 e2 e3=>exact e2
 have hrep:∀(j:Nat) (u:V) (c:Value),b.cs[j]?=some u->[v0,v1,v2,v3,v4,v5,v6,v7,v8,v9,v10][j]?=some c->Rep g w u c:=by
  cases hbv with
  |agg e1 e2 e3=>exact fun j u c hu hc=>e3 j u c hu (by simpa using hc)
 have hiz:(i:Int)<n:=by omega
 have hi0:¬(i:Int)<0:=by omega
 have hbcn:=hn.bcn
 -- the box of the state
 obtain⟨H,hH⟩:∃H,H=w.heap.size:=⟨_,rfl⟩
 obtain⟨W,hW⟩:∃W,W=w.alloc (.cells #[v0,v1,v2,v3,v4,v5,v6,v7,v8,v9,v10] 39):=⟨_,rfl⟩
 have hWb:∀k,k<H->W.heap[k]?=w.heap[k]?:=fun k hk=>by rw[hW];exact Below.heap_alloc w _ k (by omega)
 have hWn:W.heap[H]?=some (.cells #[v0,v1,v2,v3,v4,v5,v6,v7,v8,v9,v10] 39 (0,0)):=by rw[hW,hH];exact heap_alloc_new w _
 have hnW:Net T g W X n q B M h:=by
  rw[hW]
  exact hn.grow (by simp) (fun k hk=>Below.heap_alloc w _ k hk) (fun _ _=>rfl) (fun k hk=>zzk_ (hn.Ilt k hk) (by simp))
 have c0:∀j,W.cell? ⟨H,j,none⟩=(#[v0,v1,v2,v3,v4,v5,v6,v7,v8,v9,v10]:Array Value)[j]?:=fun j=>by simp[World.cell?,hWn]
 have cX:W.cell? ⟨X,2,none⟩=some (.slice (some ⟨h.bk,0,none⟩) n h.bc):=by simp[World.cell?,hnW.hX]
 obtain⟨cb,cb1,cb2,_⟩:=hnW.bb
 obtain⟨y1,y2,y3,y4,y5,y6,y7,y8,y9,y10,z0,z1,z2,z3,z4,z5,z6,z7,z8,z9,z10⟩:=t0_ (P:=Try.prog) (w:=W.drew) (o:=i*11) cb1 (by omega) hone
 obtain⟨W1,hW1⟩:∃W1,W1=W.drew.setCells h.bk (i*11) [v0,v1,v2,v3,v4,v5,v6,v7,v8,v9,v10]:=⟨_,rfl⟩
 rw[<-hW1]at z10
 have hWa:w.alloc (.cells #[v0,v1,v2,v3,v4,v5,v6,v7,v8,v9,v10] 39)=W:=hW.symm
 clear hW
 have HW1:=Lib.hid hW1
 clear hW1
 have hHs:w.heap.size=H:=hH.symm
 clear hH
 go_enter Try.func31,Try.ntmps31
 go_wp2
 go_region
 have hlen64:(l.length:Int)<9223372036854775807:=by omega
 have hn1:TkI T g w H X n q (updB B i b) (yz_ M i (l.take 0)) #[v0,v1,v2,v3,v4,v5,v6,v7,v8,v9,v10] T h W1:=by
  have hd:Net T g W.drew X n q B M h:=hnW.grow (zzl_ _) (fun _ _=>rfl) (fun _ _=>rfl) hnW.Ilt
  have hrW:∀(j:Nat) (u:V) (c:Value),b.cs[j]?=some u->[v0,v1,v2,v3,v4,v5,v6,v7,v8,v9,v10][j]?=some c->Rep g W.drew u c:=fun j u c hu hc=>zr_ (hrep j u c hu hc) (wG_ _ u (zzd_ hu)) fun b o ho=>⟨ho,yyb_ (a:=⟨b,o,none⟩) (hWb b (by rw[<-hHs];exact hn.Ilt b (by omega)))⟩
  obtain⟨k1,k2,k3⟩:=hd.setB hi (vs:=[v0,v1,v2,v3,v4,v5,v6,v7,v8,v9,v10]) rfl hone hrW
  have hHW:H<W.drew.heap.size:=(zzm_.1 hWn).1
  have hTH:T H=0:=by
   by_cases h0:T H=0
   .exact h0
   .have:=(hn.tz H h0).1;omega
  rw[HW1.out,List.take_zero,qN_]
  have hWo:W.drew.os=w.os/\W.drew.tape=w.tape/\W.drew.output=w.output:=by rw[<-hWa];exact⟨rfl,rfl,rfl⟩
  have hf:=z4_ h.bk [v0,v1,v2,v3,v4,v5,v6,v7,v8,v9,v10] (i*11) W.drew
  refine⟨k1,?_,hTH,hf.1.trans hWo.1,hf.2.1.trans hWo.2.1,hf.2.2.trans hWo.2.2,by rw[k2];omega,fun k hk h0=>⟨h0,?_⟩⟩
  .rw[k3 H hHW (by rintro rfl;have:=hn.tag.b;omega)];exact hWn
  .rw[k3 k (by omega) (by rintro rfl;have:=hn.tag.b;omega)];exact hWb k (by omega)
 have HI1:=Lib.hid hn1
 have HN:=Lib.hid hn
 have HL:=Lib.hid hlv
 have HTO:=Lib.hid hto
 have HM:=Lib.hid hM
 have HV:=Lib.hid (And.intro hrep hone)
 clear hn1 z0 z1 z2 z3 z4 z5 z6 z7 z8 z9 z10 c0 cX cb1 hnW hWn hWb hWa hn hlv hto hM hrep hone hbv cb2
 go_wp2
 go_loopg [20] l.length (fun kx s20 wr=>∃(p:Nat) (T':Nat->Nat) (h':Hd),s20=.int .i64 p/\p+kx=l.length/\TkI T g w H X n q (updB B i b) (yz_ M i (l.take p)) #[v0,v1,v2,v3,v4,v5,v6,v7,v8,v9,v10] T' h' wr)
 case atStart=>exact⟨0,T,h,rfl,by omega,HI1.out⟩
 case round =>
  obtain⟨p,T',h',rfl,hp,hI⟩:=hrel
  have HI:=Lib.hid hI
  have hIc:∀b o,o<g.I b->o<g.I b/\wr.cell? ⟨b,o,none⟩=w.cell? ⟨b,o,none⟩:=fun b o ho=>by
   have hT:T b=0:=by
    by_cases h0:T b=0
    .exact h0
    .have:=(HN.out.tz b h0).2;omega
   exact⟨ho,yyb_ (a:=⟨b,o,none⟩) ((hI.fr b (HN.out.Ilt b (by omega)) hT).2)⟩
  have HC:=Lib.hid hIc
  clear hI hIc
  by_cases hm:p<l.length
  .have hlr:Rep g wr (.list 4 (vl l)) (.slice A l.length cap):=zr_ HL.out rfl HC.out
   obtain⟨lb,lo,rfl,_,c0,c1,c2,c3⟩:=nD_ hlr hm
   have ht1:l.take (p+1)=l.take p++[l[p]]:=by rw[yyw_,zzf_ hm];rfl
   have hto1:=HTO.out l[p] (yyp_ hm)
   have hlm:(yz_ M i (l.take p) i (l[p].to.toNat)).length<=100000:=by
    have:=qO_ M i (l.take p) i l[p].to.toNat
    have:=HM.out i l[p].to.toNat
    simp at *
    omega
   clear hlr
   generalize l[p]=m at c0 c1 c2 c3 ht1 hto1 hlm
   obtain⟨mk,mt,ms,mss⟩:=m
   simp only at c0 c1 c2 c3 hto1 hlm
   obtain⟨j,rfl⟩:∃j:Nat,mt=(j:Int):=⟨mt.toNat,by omega⟩
   have hj:j<n:=by omega
   have hjz:(j:Int)<(n:Int):=by omega
   have hj0:¬(j:Int)<0:=by omega
   have hji:¬(n:Int)<=(j:Int):=by omega
   rw[yys_]at hlm
   obtain⟨Y4,Y5,Y6,Y7,v',T2,h2,Hp,Kt,A2,N2,C2,rfl,e1,e2,f0,f1,f2,f3,f4,f5,f6,f7,e7,e8,e9,⟨e10,e11⟩,⟨i0,i1,i2,i3,i5,i6,i7⟩,⟨j0',j1,j2,j3,j5,j6,j7⟩,⟨l0,l1,l2,l3,l5,l6⟩,hI2⟩:=HI.out.step hi hj ⟨mk,j,ms,mss⟩ hlm
   simp only at e2 f0 f1 f2 f3 e8 i0 i1 i2 i3 j0' j1 j2 j3 l0 l1 l2 l3
   have HI2:=Lib.hid hI2
   have HT1:=Lib.hid ht1
   clear hI2 ht1 hto1 hlm
   have hpl:(p:Int)<(l.length:Int):=by omega
   have hp0:¬(p:Int)<0:=by omega
   have hwp:IntKind.i64.wrap ((p:Int)+1)=(p:Int)+1:=by rw[yye_];omega
   have HP:=Lib.hid hp
   clear hp
   have E2:Asd (wr.alloc (.cells #[.int .i64 mk,.int .i64 j,.int .i64 ms,.int .i64 mss] 46)=Y4):=⟨e2⟩
   have hd1:decide ((j:Int)<0)=false:=by simp
   have hd2:decide ((n:Int)<=(j:Int))=false:=by simpa using hj
   have hd3:decide ((j:Int)>=(n:Int))=false:=hd2
   have hd4:decide (n<=j)=false:=by simp;omega
   clear e2
   go_wp2
   rw[E2.out]
   go_region
   go_wp2
   refine v5_ (fun wx=>wx.cell? ⟨Hp,0,none⟩=some (.int .i64 mk)/\wx.cell? ⟨Hp,1,none⟩=some (.int .i64 j)/\wx.cell? ⟨Hp,2,none⟩=some (.int .i64 ms)/\wx.cell? ⟨Hp,3,none⟩=some (.int .i64 mss)/\wx.cell? ⟨X,3,none⟩=some (.slice (some ⟨h'.mb,0,none⟩) n h'.mc)/\wx.cell? ⟨h'.mb,i,none⟩=some (.slice (some ⟨h'.rk i,0,none⟩) n (h'.rc i))/\wx.cell? ⟨h'.rk i,j,none⟩=some (h'.mv i j)) 24 (by kernel_rfl) ?_
   have s0:=(show _/\_/\_/\_/\_/\_/\_ from ⟨f0,f1,f2,f3,f5,f6,f7⟩)
   refine zL_ (i:=0) (v:=?_) rfl (by decide) (by kernel_rfl) (by kernel_rfl) (by kernel_rfl) (by kernel_rfl) (by kernel_rfl) (fun _ _ _ h=>h) (by kernel_rfl) ?_ (fun _=>s0) ?_
   rotate_left
   ·(intro w9;go_simp;first|done|with_reducible rfl)
   try simp only[Act.put,zze_,zzi_,zzj_]
   refine zL_ (i:=1) (v:=?_) rfl (by decide) (by kernel_rfl) (by kernel_rfl) (by kernel_rfl) (by kernel_rfl) (by kernel_rfl) (fun _ _ _ h=>h) (by kernel_rfl) ?_ (fun _=>s0) ?_
   rotate_left
   ·(intro w9;go_simp;first|done|with_reducible rfl)
   try simp only[Act.put,zze_,zzi_,zzj_]
   refine zL_ (i:=2) (v:=?_) rfl (by decide) (by kernel_rfl) (by kernel_rfl) (by kernel_rfl) (by kernel_rfl) (by kernel_rfl) (fun _ _ _ h=>h) (by kernel_rfl) ?_ (fun _=>s0) ?_
   rotate_left
   ·(intro w9;go_simp;first|done|with_reducible rfl)
   try simp only[Act.put,zze_,zzi_,zzj_]
   refine yk_ (i:=3) (v:=?_) rfl (by decide) (by kernel_rfl) (by kernel_rfl) (by kernel_rfl) (by kernel_rfl) (by kernel_rfl) (by kernel_rfl) (fun _ _ _ h=>h) (by kernel_rfl) ?_ (fun _=>s0) ?_
   rotate_left
   ·(intro w9 hSw;(try dsimp only at hSw);go_simp;first|done|with_reducible rfl)
   try simp only[Act.put,zze_,zzi_,zzj_]
   refine zL_ (i:=4) (v:=?_) rfl (by decide) (by kernel_rfl) (by kernel_rfl) (by kernel_rfl) (by kernel_rfl) (by kernel_rfl) (fun _ _ _ h=>h) (by kernel_rfl) ?_ (fun _=>s0) ?_
   rotate_left
   ·(intro w9;go_simp;first|done|with_reducible rfl)
   try simp only[Act.put,zze_,zzi_,zzj_]
   refine zL_ (i:=5) (v:=?_) rfl (by decide) (by kernel_rfl) (by kernel_rfl) (by kernel_rfl) (by kernel_rfl) (by kernel_rfl) (fun _ _ _ h=>h) (by kernel_rfl) ?_ (fun _=>s0) ?_
   rotate_left
   ·(intro w9;go_simp;first|done|with_reducible rfl)
   try simp only[Act.put,zze_,zzi_,zzj_]
   refine yk_ (i:=6) (v:=?_) rfl (by decide) (by kernel_rfl) (by kernel_rfl) (by kernel_rfl) (by kernel_rfl) (by kernel_rfl) (by kernel_rfl) (fun _ _ _ h=>h) (by kernel_rfl) ?_ (fun _=>s0) ?_
   rotate_left
   ·(intro w9 hSw;(try dsimp only at hSw);go_simp;first|done|with_reducible rfl)
   try simp only[Act.put,zze_,zzi_,zzj_]
   refine zL_ (i:=7) (v:=?_) rfl (by decide) (by kernel_rfl) (by kernel_rfl) (by kernel_rfl) (by kernel_rfl) (by kernel_rfl) (fun _ _ _ h=>h) (by kernel_rfl) ?_ (fun _=>s0) ?_
   rotate_left
   ·(intro w9;go_simp;first|done|with_reducible rfl)
   try simp only[Act.put,zze_,zzi_,zzj_]
   refine yk_ (i:=8) (v:=?_) rfl (by decide) (by kernel_rfl) (by kernel_rfl) (by kernel_rfl) (by kernel_rfl) (by kernel_rfl) (by kernel_rfl) (fun _ _ _ h=>h) (by kernel_rfl) ?_ (fun _=>s0) ?_
   rotate_left
   ·(intro w9 hSw;(try dsimp only at hSw);go_simp;first|done|with_reducible rfl)
   try simp only[Act.put,zze_,zzi_,zzj_]
   refine zL_ (i:=9) (v:=?_) rfl (by decide) (by kernel_rfl) (by kernel_rfl) (by kernel_rfl) (by kernel_rfl) (by kernel_rfl) (fun _ _ _ h=>h) (by kernel_rfl) ?_ (fun _=>s0) ?_
   rotate_left
   ·(intro w9;go_simp;first|done|with_reducible rfl)
   try simp only[Act.put,zze_,zzi_,zzj_]
   refine zL_ (i:=10) (v:=?_) rfl (by decide) (by kernel_rfl) (by kernel_rfl) (by kernel_rfl) (by kernel_rfl) (by kernel_rfl) (fun _ _ _ h=>h) (by kernel_rfl) ?_ (fun _=>s0) ?_
   rotate_left
   ·(intro w9;go_simp;first|done|with_reducible rfl)
   try simp only[Act.put,zze_,zzi_,zzj_]
   refine zL_ (i:=11) (v:=?_) rfl (by decide) (by kernel_rfl) (by kernel_rfl) (by kernel_rfl) (by kernel_rfl) (by kernel_rfl) (fun _ _ _ h=>h) (by kernel_rfl) ?_ (fun _=>s0) ?_
   rotate_left
   ·(intro w9;go_simp;first|done|with_reducible rfl)
   try simp only[Act.put,zze_,zzi_,zzj_]
   refine yk_ (i:=12) (v:=?_) rfl (by decide) (by kernel_rfl) (by kernel_rfl) (by kernel_rfl) (by kernel_rfl) (by kernel_rfl) (by kernel_rfl) (fun _ _ _ h=>h) (by kernel_rfl) ?_ (fun _=>s0) ?_
   rotate_left
   ·(intro w9 hSw;(try dsimp only at hSw);go_simp;first|done|with_reducible rfl)
   try simp only[Act.put,zze_,zzi_,zzj_]
   refine zL_ (i:=13) (v:=?_) rfl (by decide) (by kernel_rfl) (by kernel_rfl) (by kernel_rfl) (by kernel_rfl) (by kernel_rfl) (fun _ _ _ h=>h) (by kernel_rfl) ?_ (fun _=>s0) ?_
   rotate_left
   ·(intro w9;go_simp;first|done|with_reducible rfl)
   try simp only[Act.put,zze_,zzi_,zzj_]
   refine zL_ (i:=14) (v:=?_) rfl (by decide) (by kernel_rfl) (by kernel_rfl) (by kernel_rfl) (by kernel_rfl) (by kernel_rfl) (fun _ _ _ h=>h) (by kernel_rfl) ?_ (fun _=>s0) ?_
   rotate_left
   ·(intro w9;go_simp;first|done|with_reducible rfl)
   try simp only[Act.put,zze_,zzi_,zzj_]
   refine yk_ (i:=15) (v:=?_) rfl (by decide) (by kernel_rfl) (by kernel_rfl) (by kernel_rfl) (by kernel_rfl) (by kernel_rfl) (by kernel_rfl) (fun _ _ _ h=>h) (by kernel_rfl) ?_ (fun _=>s0) ?_
   rotate_left
   ·(intro w9 hSw;(try dsimp only at hSw);go_simp;first|done|with_reducible rfl)
   try simp only[Act.put,zze_,zzi_,zzj_]
   refine zL_ (i:=16) (v:=?_) rfl (by decide) (by kernel_rfl) (by kernel_rfl) (by kernel_rfl) (by kernel_rfl) (by kernel_rfl) (fun _ _ _ h=>h) (by kernel_rfl) ?_ (fun _=>s0) ?_
   rotate_left
   ·(intro w9;go_simp;first|done|with_reducible rfl)
   try simp only[Act.put,zze_,zzi_,zzj_]
   refine yk_ (i:=17) (v:=?_) rfl (by decide) (by kernel_rfl) (by kernel_rfl) (by kernel_rfl) (by kernel_rfl) (by kernel_rfl) (by kernel_rfl) (fun _ _ _ h=>h) (by kernel_rfl) ?_ (fun _=>s0) ?_
   rotate_left
   ·(intro w9 hSw;(try dsimp only at hSw);go_simp;first|done|with_reducible rfl)
   try simp only[Act.put,zze_,zzi_,zzj_]
   refine zL_ (i:=18) (v:=?_) rfl (by decide) (by kernel_rfl) (by kernel_rfl) (by kernel_rfl) (by kernel_rfl) (by kernel_rfl) (fun _ _ _ h=>h) (by kernel_rfl) ?_ (fun _=>s0) ?_
   rotate_left
   ·(intro w9;go_simp;first|done|with_reducible rfl)
   try simp only[Act.put,zze_,zzi_,zzj_]
   refine yk_ (i:=19) (v:=?_) rfl (by decide) (by kernel_rfl) (by kernel_rfl) (by kernel_rfl) (by kernel_rfl) (by kernel_rfl) (by kernel_rfl) (fun _ _ _ h=>h) (by kernel_rfl) ?_ (fun _=>s0) ?_
   rotate_left
   ·(intro w9 hSw;(try dsimp only at hSw);go_simp;first|done|with_reducible rfl)
   try simp only[Act.put,zze_,zzi_,zzj_]
   refine yk_ (i:=20) (v:=?_) rfl (by decide) (by kernel_rfl) (by kernel_rfl) (by kernel_rfl) (by kernel_rfl) (by kernel_rfl) (by kernel_rfl) (fun _ _ _ h=>h) (by kernel_rfl) ?_ (fun _=>s0) ?_
   rotate_left
   ·(intro w9 hSw;(try dsimp only at hSw);go_simp;first|done|with_reducible rfl)
   try simp only[Act.put,zze_,zzi_,zzj_]
   refine xD_ (rs:=[21]) (by kernel_rfl) (by simp) ?_
   refine uV_ rfl (fun K hK=>?_) ?_
   .go_simp
    have s1:=And.intro i0 (And.intro i1 (And.intro i2 (And.intro i3 (And.intro i5 (And.intro i6 (i7))))))
    refine hK.out _ _ (fun _=>s1) ?_
    clear hK K
    try simp only[Act.put,zze_,zzi_,zzj_]
    refine xD_ (rs:=[22]) (by kernel_rfl) (by simp) ?_
    refine uV_ rfl (fun K hK=>?_) ?_
    .refine xG_ rfl _ _ 41 41 rfl _ _ (by simp[Act.eval,Act.put]) (by simp[Act.eval,Act.put]) (e9 _) ?_
     have s2:=And.intro j0' (And.intro j1 (And.intro j2 (And.intro j3 (And.intro j5 (And.intro j6 (j7))))))
     refine hK.out _ _ (fun _=>s2) ?_
     clear hK K
     try simp only[Act.put,zze_,zzi_,zzj_]
     refine zL_ (i:=23) (v:=?_) rfl (by decide) (by kernel_rfl) (by kernel_rfl) (by kernel_rfl) (by kernel_rfl) (by kernel_rfl) (fun _ _ _ h=>h) (by kernel_rfl) ?_ (fun _=>s2) ?_
     rotate_left
     ·(intro w9;go_simp;first|done|with_reducible rfl)
     try simp only[Act.put,zze_,zzi_,zzj_]
     refine pk_ (by kernel_rfl) (by kernel_rfl) (by decide) ?_
     simp only[List.drop_succ_cons,List.drop_zero]
     go_wp2
     go_roundg (gk-1)
     case measure=>have:=HP.out;omega
     case rel =>
      have hp:=HP.out
      have:=HI2.out
      rw[<-r7_ M i (l.take p) ⟨mk,(j:Int),ms,mss⟩ rfl,<-HT1.out]at this
      exact⟨p+1,T2,h2,rfl,by omega,this⟩
    exact AllG.nil
   exact AllG.nil
  .have hpl:¬(p:Int)<(l.length:Int):=by omega
   have hpe:p=l.length:=by omega
   have hI:=HI.out
   rw[hpe,List.take_length]at hI
   have d0:∀j,wr.cell? ⟨H,j,none⟩=(#[v0,v1,v2,v3,v4,v5,v6,v7,v8,v9,v10]:Array Value)[j]?:=fun j=>by simp[World.cell?,hI.box]
   have d1:wr.cell? ⟨X,0,none⟩=some (.int .i64 n):=by simp[World.cell?,hI.net.hX]
   have d2:wr.cell? ⟨X,1,none⟩=some h'.qv:=by simp[World.cell?,hI.net.hX]
   have hqo:h'.qv.oneCell'=true:=hI.net.hq.one rfl
   have hIv:∀(x:Nat) (u:V) (c:Value),b.cs[x]?=some u->[v0,v1,v2,v3,v4,v5,v6,v7,v8,v9,v10][x]?=some c->Rep g wr.drew u c:=fun x u c hu hc=>zr_ (HV.out.1 x u c hu hc) (wG_ _ u (zzd_ hu)) HC.out
   have hcall:Calls Try.prog 19 #[.agg #[v0,v1,v2,v3,v4,v5,v6,v7,v8,v9,v10],.agg #[.int .i64 n,h'.qv],.int .i64 i] wr.drew fun e w'=>∃g':Gh,e=.returned (.bool (bOk n q i b))/\Below wr.heap.size wr w'/\(∀k,k<wr.heap.size->g'.I k=g.I k)/\∀k,0<g'.I k->k<w'.heap.size:=by
    refine(wq_ (xe_ b n q i hq hb) (g:=g) (w:=wr.drew) (vals:=#[.agg #[v0,v1,v2,v3,v4,v5,v6,v7,v8,v9,v10],.agg #[.int .i64 n,h'.qv],.int .i64 i]) rfl ?_ ?_ hI.net.Ilt).mono ?_
    .intro x hx
     simp at hx
     rcases hx with rfl|rfl|rfl<;>rfl
    .intro x u c hu hc
     match x,hu,hc with
     | 0, hu, hc =>
       cases hu
       cases hc
       exact .agg rfl HV.out.2 (fun x u c hu hc=>hIv x u c hu (by simpa using hc))
     | 1, hu, hc =>
       cases hu
       cases hc
       refine .agg rfl (by intro c hc;simp at hc;rcases hc with rfl|rfl;rfl;exact hqo) (fun x u c hu hc=>?_)
       match x,hu,hc with
       |0,hu,hc=>cases hu;cases hc;exact .s rfl
       |1,hu,hc=>cases hu;cases hc;exact zr_ hI.net.hq rfl fun b o ho=>⟨ho,rfl⟩
     |2,hu,hc=>cases hu;cases hc;exact .s rfl
    .rintro e w' ⟨v,r,g',rfl,rfl,hr,hbel,hg,hlt⟩
     have:=hr.of_s rfl
     subst this
     exact⟨g',rfl,⟨hbel.os,hbel.tape,hbel.output,hbel.size,hbel.block⟩,hg,hlt⟩
   have HI3:=Lib.hid hI
   clear hI hIv
   go_wp2
   have hXl:X<wr.heap.size:=(HI3.out.net.tz X (by rw[HI3.out.net.tag.x];omega)).1
   have hHl:H<wr.heap.size:=(zzm_.1 HI3.out.box).1
   have hS:∀wx,Below wr.heap.size wr wx->wx.cell? ⟨X,0,none⟩=some (.int .i64 n)/\wx.cell? ⟨X,1,none⟩=some h'.qv/\wx.cell? ⟨H,0,none⟩=some v0/\wx.cell? ⟨H,1,none⟩=some v1/\wx.cell? ⟨H,2,none⟩=some v2/\wx.cell? ⟨H,3,none⟩=some v3/\wx.cell? ⟨H,4,none⟩=some v4/\wx.cell? ⟨H,5,none⟩=some v5/\wx.cell? ⟨H,6,none⟩=some v6/\wx.cell? ⟨H,7,none⟩=some v7/\wx.cell? ⟨H,8,none⟩=some v8/\wx.cell? ⟨H,9,none⟩=some v9/\wx.cell? ⟨H,10,none⟩=some v10:=fun wx hb=>⟨xj_ hb d1 hXl,xj_ hb d2 hXl,xj_ hb (d0 0) hHl,xj_ hb (d0 1) hHl,xj_ hb (d0 2) hHl,xj_ hb (d0 3) hHl,xj_ hb (d0 4) hHl,xj_ hb (d0 5) hHl,xj_ hb (d0 6) hHl,xj_ hb (d0 7) hHl,xj_ hb (d0 8) hHl,xj_ hb (d0 9) hHl,xj_ hb (d0 10) hHl⟩
   have HS:=Lib.hid hS
   have hB1:Below wr.heap.size wr wr.drew:=⟨rfl,rfl,rfl,zzl_ _,fun _ _=>rfl⟩
   clear hS d0 d1 d2
   go_region_held3 (fun wx=>wx.cell? ⟨X,0,none⟩=some (.int .i64 n)/\wx.cell? ⟨X,1,none⟩=some h'.qv/\wx.cell? ⟨H,0,none⟩=some v0/\wx.cell? ⟨H,1,none⟩=some v1/\wx.cell? ⟨H,2,none⟩=some v2/\wx.cell? ⟨H,3,none⟩=some v3/\wx.cell? ⟨H,4,none⟩=some v4/\wx.cell? ⟨H,5,none⟩=some v5/\wx.cell? ⟨H,6,none⟩=some v6/\wx.cell? ⟨H,7,none⟩=some v7/\wx.cell? ⟨H,8,none⟩=some v8/\wx.cell? ⟨H,9,none⟩=some v9/\wx.cell? ⟨H,10,none⟩=some v10)
    ((refine HS.out _ ?_;assumption))
    (first|(go_at_call 19;refine hcall.mono ?_;rintro e w' ⟨g',rfl,hbel,hg,hlt⟩;have HB:=Lib.hid (And.intro hbel (And.intro hg hlt));clear hg hlt))
   all_goals go_wp2
   all_goals go_ret
   all_goals
    obtain⟨r1,r2,r3,r4,r5,r6,r7,r8⟩:=HI3.out
    obtain⟨s1,s2,s3⟩:=HB.out
    exact⟨T',g',h',rfl,r1.grow s1.size s1.block s2 s3,s1.os.trans r4,s1.tape.trans r5,s1.output.trans r6,yyd_ r7 s1.size,fun k hk h0=>⟨(r8 k hk h0).1,(s1.block k (zzk_ hk r7)).trans (r8 k hk h0).2⟩,fun k hk=>s2 k (zzk_ hk r7)⟩
section
theorem ky_{w:World}{v:Value}{m:Vt}{l:List Vt}(h:MBx w v (m::l)):∃k off cap,v=.slice (some ⟨k,off,none⟩) (l.length+1) cap/\l.length+1<=cap/\cap<=maxLen /\
 w.cell? ⟨k,off,none⟩=some (.int .i64 m.k)/\w.cell? ⟨k,off+1,none⟩=some (.int .i64 m.to)/\w.cell? ⟨k,off+2,none⟩=some (.int .i64 m.st)/\w.cell? ⟨k,off+3,none⟩=some (.int .i64 m.ss) /\
 MBx w (.slice (if cap=1 then some ⟨k,off,none⟩ else some ⟨k,off+4,none⟩) l.length (cap-1)) l/\∀k',rb (.slice (if cap=1 then some ⟨k,off,none⟩ else some ⟨k,off+4,none⟩) l.length (cap-1))=some k'->rb v=some k':=by
 rcases h with ⟨h,_⟩|⟨k,off,cap,cur,rfl,h1,h2,h3,h4,h5,h6⟩
 .cases h
 have e:(m::l).length=l.length+1:=rfl
 have hc:∀(p:Nat) (u:Value),(fv (m::l))[p]?=some u->w.cell? ⟨k,off+p,none⟩=some u:=fun p u hp=>by simpa[World.cell?,h4] using h6 p u hp
 have hrb:rb (.slice (some ⟨k,off,none⟩) (m::l).length cap)=some k:=by simp[rb];omega
 refine⟨k,off,cap,rfl,h2,h3,hc 0 _ rfl,hc 1 _ rfl,hc 2 _ rfl,hc 3 _ rfl,?_,fun k' hk'=>?_⟩
 .by_cases hcap:cap=1
  .refine .inl ⟨yyj_ (by omega),some ⟨k,off,none⟩,?_⟩
   rw[if_pos hcap,hcap]
   have:l.length=0:=by omega
   rw[this]
  .rw[if_neg hcap]
   refine .inr ⟨k,off+4,cap-1,cur,rfl,by omega,by omega,by omega,h4,by omega,fun p u hp=>?_⟩
   have:=h6 (p+4) u (by simpa[fv] using hp)
   rw[Nat.add_assoc,Nat.add_comm 4 p]
   exact this
 .rw[hrb]
  split at hk'
  .simp[rb]at hk';rw[hk'.2]
  .simp[rb]at hk';rw[hk'.2]
def z39:Array Value:=#[.int .i64 0,.int .i64 0,.int .i64 0,.int .i64 0,.int .i64 0,.int .i64 0,.int .i64 0,.bool false,.slice none 0 0,.slice none 0 0,.bool false]
theorem nj_{P:Program}(w:World){v0 v1 v2 v3 v4 v5 v6 v7 v8 v9 v10:Value}(h1:∀v∈[v0,v1,v2,v3,v4,v5,v6,v7,v8,v9,v10],v.oneCell'=true) :
 ∃ w1 w2 w3 w4 w5 w6 w7 w8 w9 w10 W : World, (store ⟨w.heap.size, 0, none⟩ v0).run P (w.alloc (.cells #[.int .i64 0, .int .i64 0, .int .i64 0, .int .i64 0, .int .i64 0, .int .i64 0, .int .i64 0, .bool false, .slice none 0 0, .slice none 0 0, .bool false] 39)) = .ok () w1 ∧ (store ⟨w.heap.size, 1, none⟩ v1).run P w1 = .ok () w2 ∧ (store ⟨w.heap.size, 2, none⟩ v2).run P w2 = .ok () w3 ∧ (store ⟨w.heap.size, 3, none⟩ v3).run P w3 = .ok () w4 ∧
   (store ⟨w.heap.size,4,none⟩ v4).run P w4=.ok () w5/\(store ⟨w.heap.size,5,none⟩ v5).run P w5=.ok () w6/\(store ⟨w.heap.size,6,none⟩ v6).run P w6=.ok () w7/\(store ⟨w.heap.size,7,none⟩ v7).run P w7=.ok () w8/\(store ⟨w.heap.size,8,none⟩ v8).run P w8=.ok () w9 /\
   (store ⟨w.heap.size,9,none⟩ v9).run P w9=.ok () w10/\(store ⟨w.heap.size,10,none⟩ v10).run P w10=.ok () W/\Below w.heap.size w W/\W.heap.size=w.heap.size+1/\W.heap[w.heap.size]?=some (.cells #[v0,v1,v2,v3,v4,v5,v6,v7,v8,v9,v10] 39 (0,0)):=by
 have hn:=heap_alloc_new w (.cells z39 39)
 obtain⟨y1,y2,y3,y4,y5,y6,y7,y8,y9,y10,z0,z1,z2,z3,z4,z5,z6,z7,z8,z9,z10⟩:=t0_ (P:=P) (w:=w.alloc (.cells z39 39)) (o:=0) hn (by simp[z39]) h1
 simp only[Nat.zero_add]at z0 z1 z2 z3 z4 z5 z6 z7 z8 z9 z10
 obtain⟨cur',d1,d2,d3⟩:=zq_ [v0,v1,v2,v3,v4,v5,v6,v7,v8,v9,v10] 0 (w.alloc (.cells z39 39)) w.heap.size z39 39 hn (by simp[z39])
 have hsz:∀vs o (W:World),(W.setCells w.heap.size o vs).heap.size=W.heap.size:=fun vs=>by
  induction vs with
  |nil=>intro o W;rfl
  |cons v r ih=>intro o W;rw[World.setCells,ih];simp[World.setCell]
 have hf:=z4_ w.heap.size [v0,v1,v2,v3,v4,v5,v6,v7,v8,v9,v10] 0 (w.alloc (.cells z39 39))
 refine⟨y1,y2,y3,y4,y5,y6,y7,y8,y9,y10,_,z0,z1,z2,z3,z4,z5,z6,z7,z8,z9,z10,⟨hf.1.trans rfl,hf.2.1.trans rfl,hf.2.2.trans rfl,by rw[hsz];simp,fun k hk=>?_⟩,by rw[hsz];simp,?_⟩
 .rw[zp_ (by simp;omega) (by omega)]
  exact Below.heap_alloc w _ k hk
 .rw[d1]
  have:cur'=#[v0,v1,v2,v3,v4,v5,v6,v7,v8,v9,v10]:=Array.ext' (by rw[d3];rfl)
  rw[this]
section
variable{T:Nat->Nat}{g:Gh}{w:World}{X n:Nat}{q:List Int}{B:Nat->Bl}{M:Nat->Nat->List Vt}{h:Hd}
theorem Net.x0(hn:Net T g w X n q B M h):w.cell? ⟨X,0,none⟩=some (.int .i64 n):=by simp[World.cell?,hn.hX]
theorem Net.x1(hn:Net T g w X n q B M h):w.cell? ⟨X,1,none⟩=some h.qv:=by simp[World.cell?,hn.hX]
theorem Net.x2(hn:Net T g w X n q B M h):w.cell? ⟨X,2,none⟩=some (.slice (some ⟨h.bk,0,none⟩) n h.bc):=by simp[World.cell?,hn.hX]
theorem Net.x3(hn:Net T g w X n q B M h):w.cell? ⟨X,3,none⟩=some (.slice (some ⟨h.mb,0,none⟩) n h.mc):=by simp[World.cell?,hn.hX]
theorem Net.m1(hn:Net T g w X n q B M h){i:Nat}(hi:i<n):w.cell? ⟨h.mb,i,none⟩=some (.slice (some ⟨h.rk i,0,none⟩) n (h.rc i)):=by
 obtain⟨c,h1,h2⟩:=hn.mm
 have:=h2 i hi
 simp[World.cell?,h1,this]
theorem Net.m2(hn:Net T g w X n q B M h){i j:Nat}(hi:i<n)(hj:j<n):w.cell? ⟨h.rk i,j,none⟩=some (h.mv i j):=by
 obtain⟨c,h1,h2⟩:=hn.rr i hi
 have:=h2 j hj
 simp[World.cell?,h1,this]
theorem Net.st(hn:Net T g w X n q B M h){i:Nat}(hi:i<n):∃v0 v1 v2 v3 v4 v5 v6 v7 v8 v9 v10,w.cell? ⟨h.bk,i*11,none⟩=some v0/\w.cell? ⟨h.bk,i*11+1,none⟩=some v1/\w.cell? ⟨h.bk,i*11+2,none⟩=some v2/\w.cell? ⟨h.bk,i*11+3,none⟩=some v3 /\
 w.cell? ⟨h.bk,i*11+4,none⟩=some v4/\w.cell? ⟨h.bk,i*11+5,none⟩=some v5/\w.cell? ⟨h.bk,i*11+6,none⟩=some v6/\w.cell? ⟨h.bk,i*11+7,none⟩=some v7/\w.cell? ⟨h.bk,i*11+8,none⟩=some v8/\w.cell? ⟨h.bk,i*11+9,none⟩=some v9 /\
 w.cell? ⟨h.bk,i*11+10,none⟩=some v10/\Rep g w (B i).v (.agg #[v0,v1,v2,v3,v4,v5,v6,v7,v8,v9,v10])/\(v0.oneCell'=true/\v1.oneCell'=true/\v2.oneCell'=true/\v3.oneCell'=true/\v4.oneCell'=true/\v5.oneCell'=true/\v6.oneCell'=true/\v7.oneCell'=true/\v8.oneCell'=true/\v9.oneCell'=true/\v10.oneCell'=true)/\v7=.bool (B i).using'/\v1=.int .i64 (B i).qu:=by
 obtain⟨cur,h1,h2,h3⟩:=hn.bb
 have key:∀(j:Nat) (u:V),(B i).cs[j]?=some u->∃c,w.cell? ⟨h.bk,i*11+j,none⟩=some c/\c.oneCell'=true/\Rep g w u c:=fun j u hu=>by
  obtain⟨c,q1,q2,q3⟩:=h3 i hi j u hu
  exact⟨c,by simp[World.cell?,h1,q1],q2,q3⟩
 obtain⟨v0,a0,b0,c0⟩:=key 0 _ rfl
 obtain⟨v1,a1,b1,c1⟩:=key 1 _ rfl
 obtain⟨v2,a2,b2,c2⟩:=key 2 _ rfl
 obtain⟨v3,a3,b3,c3⟩:=key 3 _ rfl
 obtain⟨v4,a4,b4,c4⟩:=key 4 _ rfl
 obtain⟨v5,a5,b5,c5⟩:=key 5 _ rfl
 obtain⟨v6,a6,b6,c6⟩:=key 6 _ rfl
 obtain⟨v7,a7,b7,c7⟩:=key 7 _ rfl
 obtain⟨v8,a8,b8,c8⟩:=key 8 _ rfl
 obtain⟨v9,a9,b9,c9⟩:=key 9 _ rfl
 obtain⟨v10,a10,b10,c10⟩:=key 10 _ rfl
 refine⟨v0,v1,v2,v3,v4,v5,v6,v7,v8,v9,v10,a0,a1,a2,a3,a4,a5,a6,a7,a8,a9,a10,.agg rfl (fun c hc=>?_) (fun j u c hu hc=>?_),⟨b0,b1,b2,b3,b4,b5,b6,b7,b8,b9,b10⟩,c7.of_s rfl,c1.of_s rfl⟩
 .simp at hc
  rcases hc with rfl|rfl|rfl|rfl|rfl|rfl|rfl|rfl|rfl|rfl|rfl<;>assumption
 ·have hj:j<11:=by
   have:=(zzc_.1 hu).1
   simpa[Bl.cs] using this
  match j,hj,hu,hc with
  |0,_,hu,hc=>cases hu;cases hc;exact c0
  |1,_,hu,hc=>cases hu;cases hc;exact c1
  |2,_,hu,hc=>cases hu;cases hc;exact c2
  |3,_,hu,hc=>cases hu;cases hc;exact c3
  |4,_,hu,hc=>cases hu;cases hc;exact c4
  |5,_,hu,hc=>cases hu;cases hc;exact c5
  |6,_,hu,hc=>cases hu;cases hc;exact c6
  |7,_,hu,hc=>cases hu;cases hc;exact c7
  |8,_,hu,hc=>cases hu;cases hc;exact c8
  |9,_,hu,hc=>cases hu;cases hc;exact c9
  |10,_,hu,hc=>cases hu;cases hc;exact c10
end
end
def cntU(B:Nat->Bl):Nat->Nat
 |0=>0
 |k+1=>cntU B k+if (B k).using' then 1 else 0
theorem nh_(B:Nat->Bl):∀k,cntU B k<=k
 |0=>zzl_ _
 | k + 1 => by
   have:=nh_ B k
   simp only[cntU]
   split<;>omega
set_option maxHeartbeats 8000000 in
set_option maxRecDepth 100000 in
theorem rv_{T:Nat->Nat}{g:Gh}{w:World}{X n:Nat}{q:List Int}{B:Nat->Bl}{M:Nat->Nat->List Vt}{h:Hd}(hn:Net T g w X n q B M h) :
 Calls Try.prog 13 #[.pointer (some ⟨X,0,none⟩)] w fun e w'=>e=.returned (.bool (decide (cntU B n<=1)))/\Below w.heap.size w w':=by
 have mx:=zD_
 have x2:=hn.x2
 have n9:=hn.n9
 have hbcn:=hn.bcn
 have HN:=Lib.hid hn
 clear hn
 go_enter Try.func13,Try.ntmps13
 go_wp2
 go_loopg [3,11] n (fun kx s3 s11 wr=>∃p:Nat,s3=.int .i64 (cntU B p:Nat)/\s11=.int .i64 p/\p+kx=n/\Below w.heap.size w wr)
 case atStart=>exact⟨0,rfl,rfl,by omega,Below.refl _ _⟩
 case round =>
  obtain⟨p,rfl,rfl,hp,hbel⟩:=hrel
  have hnr:=HN.out.below hbel
  by_cases hm:p<n
  .obtain⟨v0,v1,v2,v3,v4,v5,v6,v7,v8,v9,v10,a0,a1,a2,a3,a4,a5,a6,a7,a8,a9,a10,_,⟨o0,o1,o2,o3,o4,o5,o6,o7,o8,o9,o10⟩,e7,e1⟩:=hnr.st hm
   have hpz:(p:Int)<(n:Int):=by omega
   have hp0:¬(p:Int)<0:=by omega
   have hwp:IntKind.i64.wrap ((p:Int)+1)=(p:Int)+1:=by rw[yye_];omega
   have hcl:=nh_ B p
   have hwc:IntKind.i64.wrap ((cntU B p:Int)+1)=(cntU B p:Int)+1:=by rw[yye_];omega
   obtain⟨y1,y2,y3,y4,y5,y6,y7,y8,y9,y10,W,z0,z1,z2,z3,z4,z5,z6,z7,z8,z9,z10,hW1,hW2,hW3⟩:=nj_ (P:=Try.prog) wr (v0:=v0) (v1:=v1) (v2:=v2) (v3:=v3) (v4:=v4) (v5:=v5) (v6:=v6) (v7:=v7) (v8:=v8) (v9:=v9) (v10:=v10) (by
    intro v hv
    simp at hv
    rcases hv with rfl|rfl|rfl|rfl|rfl|rfl|rfl|rfl|rfl|rfl|rfl<;>assumption)
   have hW7:W.cell? ⟨wr.heap.size,7,none⟩=some (.bool (B p).using'):=by simp[World.cell?,hW3,e7]
   have HW:Asd (Below w.heap.size w W):=⟨hbel.trans (Below.trans ⟨hW1.os,hW1.tape,hW1.output,hW1.size,fun k hk=>hW1.block k (zzk_ hk hbel.size)⟩ (Below.refl _ _))⟩
   have hs1:cntU B (p+1)=cntU B p+if (B p).using' then 1 else 0:=rfl
   have HS:Asd (cntU B (p+1)=cntU B p+if (B p).using' then 1 else 0):=⟨hs1⟩
   have HP:Asd (p+gk=n):=⟨hp⟩
   clear e7 e1 hnr hs1 hbel hp hW1 hW2 hW3 o0 o1 o2 o3 o4 o5 o6 o7 o8 o9 o10
   cases hu:(B p).using'
   all_goals
    rw[hu]at HS hW7
    go_wp2
    go_roundg (gk-1)
    case measure=>have:=HP.out;omega
    case rel =>
     have h1:=HS.out
     have h2:=HP.out
     exact⟨p+1,by simp[h1],by rfl,by omega,HW.out⟩
  .have hpz:¬(p:Int)<(n:Int):=by omega
   have hpe:p=n:=by omega
   have hd:(cntU B p<=1)↔(cntU B n<=1):=by rw[hpe]
   have HD:Asd ((cntU B p<=1)↔(cntU B n<=1)):=⟨hd⟩
   have HB:Asd (Below w.heap.size w wr):=⟨hbel⟩
   clear hd hbel hnr
   go_wp2
   go_ret
   refine⟨?_,HB.out⟩
   have:=HD.out
   have e:decide ((cntU B p:Int)<=1)=decide (cntU B n<=1):=by
    rw[yyt_]
    simp only[zzp_]
    omega
   first|(rw[<-e];rfl)|(simp only[<-e];rfl)|(simp[<-this];constructor<;>intro hh<;>(have h2:=HD.out;omega))
section
structure Gv(g:Gh)(w:World)(b:Bl)(l:List Vt)(w':World)(g':Gh)(r0 r1 r2 r3 r4 r5 r6 r7 r8 r9 r10:Value)(A:Option Addr)(C:Nat):Prop where
 below:Below w.heap.size w w'
 same:∀k,k<w.heap.size->g'.I k=g.I k
 Ilt:∀k,0<g'.I k->k<w'.heap.size
 rb:Rep g' w' b.v (.agg #[r0,r1,r2,r3,r4,r5,r6,r7,r8,r9,r10])
 rl:Rep g' w' (.list 4 (vl l)) (.slice A l.length C)
 one:∀v∈[r0,r1,r2,r3,r4,r5,r6,r7,r8,r9,r10],v.oneCell'=true
theorem kH_{g g':Gh}{w w':World}{b:Bl}{l:List Vt}{v:Value}(hr:Rep g' w' (okR b l) v)(h1:Below w.heap.size w w')(h2:∀k,k<w.heap.size->g'.I k=g.I k)(h3:∀k,0<g'.I k->k<w'.heap.size) :
 ∃r0 r1 r2 r3 r4 r5 r6 r7 r8 r9 r10 A C,v=.tuple #[.agg #[r0,r1,r2,r3,r4,r5,r6,r7,r8,r9,r10],.slice A l.length C,.int .i64 0]/\Gv g w b l w' g' r0 r1 r2 r3 r4 r5 r6 r7 r8 r9 r10 A C:=by
 cases hr with
 | tup e1 e2 =>
   rename_i vs
   obtain⟨a,c,d,rfl⟩:∃a c d,vs=#[a,c,d]:=by
    have:vs.toList.length=3:=by have:=e1;simp at this;simp;omega
    match hv:vs.toList,this with
    |[a,c,d],_=>exact⟨a,c,d,Array.ext' (by simpa using hv)⟩
   have ha:=e2 0 _ a rfl rfl
   have hc:=e2 1 _ c rfl rfl
   have hd:=(e2 2 _ d rfl rfl).of_s rfl
   subst hd
   obtain⟨vs,rfl⟩:∃vs,a=.agg vs:=by
    cases ha with
    |agg _ _ _=>exact⟨_,rfl⟩
   obtain⟨v0,v1,v2,v3,v4,v5,v6,v7,v8,v9,v10,rfl⟩:∃v0 v1 v2 v3 v4 v5 v6 v7 v8 v9 v10,vs=#[v0,v1,v2,v3,v4,v5,v6,v7,v8,v9,v10]:=by
    cases ha with
    | agg e1 e2 e3 =>
      have:vs.toList.length=11:=by have:=e1;simp[Bl.cs]at this;simp;omega
      match hv:vs.toList,this with
      |[a0,a1,a2,a3,a4,a5,a6,a7,a8,a9,a10],_=>exact⟨a0,a1,a2,a3,a4,a5,a6,a7,a8,a9,a10,Array.ext' (by simpa using hv)⟩
   have hone:∀v∈[v0,v1,v2,v3,v4,v5,v6,v7,v8,v9,v10],v.oneCell'=true:=by
    cases ha with
    |agg e1 e2 e3=>exact e2
   obtain⟨A,C,rfl⟩:∃A C,c=.slice A l.length C:=by
    cases hc with
    |list vals hc hm hA hz hi hcell hrep=>exact⟨_,_,by rw[vl_length]⟩
   exact⟨v0,v1,v2,v3,v4,v5,v6,v7,v8,v9,v10,A,C,rfl,h1,h2,h3,ha,hc,hone⟩
theorem Gv.box1{P:Program}{g g':Gh}{w w':World}{b:Bl}{l:List Vt}{r0 r1 r2 r3 r4 r5 r6 r7 r8 r9 r10:Value}{A:Option Addr}{C:Nat}(h:Gv g w b l w' g' r0 r1 r2 r3 r4 r5 r6 r7 r8 r9 r10 A C){k:Nat}(hk:w.heap[k]?=some (.cells z39 39 (0,0))) :
 ∃ w1 w2 w3 w4 w5 w6 w7 w8 w9 w10 W : World, (store ⟨k, 0, none⟩ r0).run P w' = .ok () w1 ∧ (store ⟨k, 1, none⟩ r1).run P w1 = .ok () w2 ∧ (store ⟨k, 2, none⟩ r2).run P w2 = .ok () w3 ∧ (store ⟨k, 3, none⟩ r3).run P w3 = .ok () w4 ∧
   (store ⟨k,4,none⟩ r4).run P w4=.ok () w5/\(store ⟨k,5,none⟩ r5).run P w5=.ok () w6/\(store ⟨k,6,none⟩ r6).run P w6=.ok () w7/\(store ⟨k,7,none⟩ r7).run P w7=.ok () w8/\(store ⟨k,8,none⟩ r8).run P w8=.ok () w9 /\
   (store ⟨k,9,none⟩ r9).run P w9=.ok () w10/\(store ⟨k,10,none⟩ r10).run P w10=.ok () W/\W.os=w'.os/\W.tape=w'.tape/\W.output=w'.output/\W.heap.size=w'.heap.size/\(∀j,j≠k->j<w'.heap.size->W.heap[j]?=w'.heap[j]?)/\W.heap[k]?=some (.cells #[r0,r1,r2,r3,r4,r5,r6,r7,r8,r9,r10] 39 (0,0)):=by
 have hkl:k<w.heap.size:=(zzm_.1 hk).1
 have hn:w'.heap[k]?=some (.cells z39 39 (0,0)):=(h.below.block k hkl).trans hk
 obtain⟨y1,y2,y3,y4,y5,y6,y7,y8,y9,y10,z0,z1,z2,z3,z4,z5,z6,z7,z8,z9,z10⟩:=t0_ (P:=P) (w:=w') (o:=0) hn (by simp[z39]) h.one
 simp only[Nat.zero_add]at z0 z1 z2 z3 z4 z5 z6 z7 z8 z9 z10
 obtain⟨cur',d1,d2,d3⟩:=zq_ [r0,r1,r2,r3,r4,r5,r6,r7,r8,r9,r10] 0 w' k z39 39 hn (by simp[z39])
 have hsz:∀vs o (W:World),(W.setCells k o vs).heap.size=W.heap.size:=fun vs=>by
  induction vs with
  |nil=>intro o W;rfl
  |cons v r ih=>intro o W;rw[World.setCells,ih];simp[World.setCell]
 have hf:=z4_ k [r0,r1,r2,r3,r4,r5,r6,r7,r8,r9,r10] 0 w'
 refine⟨y1,y2,y3,y4,y5,y6,y7,y8,y9,y10,_,z0,z1,z2,z3,z4,z5,z6,z7,z8,z9,z10,hf.1,hf.2.1,hf.2.2,by rw[hsz],fun j hj hjs=>zp_ hjs hj,?_⟩
 rw[d1]
 have:cur'=#[r0,r1,r2,r3,r4,r5,r6,r7,r8,r9,r10]:=Array.ext' (by rw[d3];rfl)
 rw[this]
structure Aft(T:Nat->Nat)(g:Gh)(w:World)(X n:Nat)(q:List Int)(B:Nat->Bl)(M:Nat->Nat->List Vt)(h:Hd)(b:Bl)(l:List Vt)(g':Gh)(W:World)(r0 r1 r2 r3 r4 r5 r6 r7 r8 r9 r10:Value)(A:Option Addr)(C:Nat):Prop where
 net:Net T g' W X n q B M h
 rb:Rep g' W b.v (.agg #[r0,r1,r2,r3,r4,r5,r6,r7,r8,r9,r10])
 rl:Rep g' W (.list 4 (vl l)) (.slice A l.length C)
 os:W.os=w.os
 tape:W.tape=w.tape
 output:W.output=w.output
 size:w.heap.size<=W.heap.size
 fr:∀k,k<w.heap.size->W.heap[k]?=w.heap[k]?
 same:∀k,k<w.heap.size->g'.I k=g.I k
section
variable{T:Nat->Nat}{g g':Gh}{w wx w' W:World}{X n:Nat}{q:List Int}{B:Nat->Bl}{M:Nat->Nat->List Vt}{h:Hd}{b:Bl}{l:List Vt}{r0 r1 r2 r3 r4 r5 r6 r7 r8 r9 r10:Value}{A:Option Addr}{C:Nat}
theorem js_(l:List Vt):immC (.list 4 (vl l))=true:=by rfl
theorem Gv.aft(hv:Gv g wx b l w' g' r0 r1 r2 r3 r4 r5 r6 r7 r8 r9 r10 A C)(hn:Net T g w X n q B M h)(hb:Below w.heap.size w wx){k:Nat}(hk:w.heap.size<=k)(hkI:g'.I k=0)(h1:W.os=w'.os)(h2:W.tape=w'.tape)(h3:W.output=w'.output)(h4:w'.heap.size<=W.heap.size)(h5:∀j,j≠k->j<w'.heap.size->W.heap[j]?=w'.heap[j]?) :
 Aft T g w X n q B M h b l g' W r0 r1 r2 r3 r4 r5 r6 r7 r8 r9 r10 A C:=by
 obtain⟨a1,a2,a3,a4,a5,a6⟩:=hv
 have hI:∀b o,o<g'.I b->o<g'.I b/\W.cell? ⟨b,o,none⟩=w'.cell? ⟨b,o,none⟩:=fun b o ho=>by
  have hl:=a3 b (by omega)
  exact⟨ho,yyb_ (a:=⟨b,o,none⟩) (h5 b (by rintro rfl;omega) hl)⟩
 have s1:=hb.size
 have s2:=a1.size
 have hfr:∀j,j<w.heap.size->W.heap[j]?=w.heap[j]?:=fun j hj=>(h5 j (by omega) (by omega)).trans ((a1.block j (by omega)).trans (hb.block j hj))
 have hsm:∀j,j<w.heap.size->g'.I j=g.I j:=fun j hj=>a2 j (by omega)
 refine⟨hn.grow (by omega) hfr hsm fun j hj=>zzk_ (a3 j hj) h4,?_,zr_ a5 (js_ l) hI,h1.trans (a1.os.trans hb.os),h2.trans (a1.tape.trans hb.tape),h3.trans (a1.output.trans hb.output),by omega,hfr,hsm⟩
 cases a4 with
 |agg e1 e2 e3=>exact .agg e1 e2 fun j u c hu hc=>zr_ (e3 j u c hu hc) (wG_ b u (zzd_ hu)) hI
theorem Gv.aft1(hv:Gv g wx b l w' g' r0 r1 r2 r3 r4 r5 r6 r7 r8 r9 r10 A C)(hn:Net T g w X n q B M h)(hb:Below w.heap.size w wx)(hW:Below w'.heap.size w' W):Aft T g w X n q B M h b l g' W r0 r1 r2 r3 r4 r5 r6 r7 r8 r9 r10 A C:=by
 refine hv.aft hn hb (k:=w'.heap.size) ?_ ?_ hW.os hW.tape hW.output hW.size fun j _ hj=>hW.block j hj
 .have:=hb.size;have:=hv.below.size;omega
 .by_cases h0:0<g'.I w'.heap.size
  .have:=hv.Ilt _ h0;omega
  .omega
theorem Gv.aft2(hv:Gv g wx b l w' g' r0 r1 r2 r3 r4 r5 r6 r7 r8 r9 r10 A C)(hn:Net T g w X n q B M h)(hb:Below w.heap.size w wx){k:Nat}(hk:w.heap.size<=k)(hkx:k<wx.heap.size)(h1:W.os=w'.os)(h2:W.tape=w'.tape)(h3:W.output=w'.output)(h4:W.heap.size=w'.heap.size)(h5:∀j,j≠k->j<w'.heap.size->W.heap[j]?=w'.heap[j]?) :
 Aft T g w X n q B M h b l g' W r0 r1 r2 r3 r4 r5 r6 r7 r8 r9 r10 A C:=by
 refine hv.aft hn hb hk ?_ h1 h2 h3 (by omega) h5
 rw[hv.same k hkx]
 by_cases h0:0<g.I k
 .have:=hn.Ilt _ h0;omega
 .omega
end
end
theorem uf_{g:Gh}{w wx:World}{b:Bl}{vs:Array Value}(h:Rep g w b.v (.agg vs))(hI:∀b o,o<g.I b->o<g.I b/\wx.cell? ⟨b,o,none⟩=w.cell? ⟨b,o,none⟩):Rep g wx b.v (.agg vs):=by
 cases h with
 |agg e1 e2 e3=>exact .agg e1 e2 fun j u c hu hc=>zr_ (e3 j u c hu hc) (wG_ b u (zzd_ hu)) hI
theorem Net.keepI{T:Nat->Nat}{g:Gh}{w wx:World}{X n:Nat}{q:List Int}{B:Nat->Bl}{M:Nat->Nat->List Vt}{h:Hd}(hn:Net T g w X n q B M h)(hb:Below w.heap.size w wx):∀b o,o<g.I b->o<g.I b/\wx.cell? ⟨b,o,none⟩=w.cell? ⟨b,o,none⟩ :=
 fun b o ho=>⟨ho,yyb_ (a:=⟨b,o,none⟩) (hb.block b (hn.Ilt b (by omega)))⟩
theorem z1_{m:Nat}{w wx:World}{b o:Nat}{v:Value}(h:Below m w wx)(hc:w.cell? ⟨b,o,none⟩=some v)(hb:b<m):wx.cell? ⟨b,o,none⟩=some v :=
 (yyb_ (a:=⟨b,o,none⟩) (h.block b hb)).trans hc
theorem Below.mono1{m m':Nat}{w wx:World}(h:Below m w wx)(hm:m'<=m):Below m' w wx:=⟨h.os,h.tape,h.output,h.size,fun k hk=>h.block k (by omega)⟩
theorem yt_(w:World)(o:Obj):Below w.heap.size w (w.alloc o):=⟨rfl,rfl,rfl,by simp,fun k hk=>Below.heap_alloc w o k hk⟩
theorem rs_{W:World}{k:Nat}{r0 r1 r2 r3 r4 r5 r6 r7 r8 r9 r10:Value}(hw:W.heap[k]?=some (.cells #[r0,r1,r2,r3,r4,r5,r6,r7,r8,r9,r10] 39 (0,0))) :
 W.cell? ⟨k,0,none⟩=some r0/\W.cell? ⟨k,1,none⟩=some r1/\W.cell? ⟨k,2,none⟩=some r2/\W.cell? ⟨k,3,none⟩=some r3/\W.cell? ⟨k,4,none⟩=some r4/\W.cell? ⟨k,5,none⟩=some r5/\W.cell? ⟨k,6,none⟩=some r6/\W.cell? ⟨k,7,none⟩=some r7/\W.cell? ⟨k,8,none⟩=some r8/\W.cell? ⟨k,9,none⟩=some r9/\W.cell? ⟨k,10,none⟩=some r10:=by
 simp[World.cell?,hw]
set_option maxHeartbeats 8000000 in
set_option maxRecDepth 100000 in
theorem p9_{T:Nat->Nat}{g:Gh}{w:World}{X n:Nat}{q:List Int}{B:Nat->Bl}{M:Nat->Nat->List Vt}{h:Hd}(hn:Net T g w X n q B M h){i:Nat}(hi:i<n){b:Bl}{l:List Vt}
 (hq:q.length<=1000) (hbi:(B i).sm) (hb:b.sm) (hR:sx_ n q i (B i) (relO (mbU (B i).qu 9))=okR b l) (hto:∀m∈l,0<=m.to/\m.to<n) (hl:l.length<=1000) (hM:∀a b,(M a b).length+l.length<=100000) :
 Calls Try.prog 11 #[.pointer (some ⟨X,0,none⟩),.int .i64 i] w fun e w'=>∃T' g' h',e=.returned (.bool (bOk n q i b))/\Net T' g' w' X n q (updB B i b) (yz_ M i l) h' /\
  w'.os=w.os/\w'.tape=w.tape/\w'.output=w.output/\w.heap.size<=w'.heap.size/\(∀k,k<w.heap.size->T k=0->T' k=0/\w'.heap[k]?=w.heap[k]?)/\(∀k,k<w.heap.size->g'.I k=g.I k):=by
 have mx:=zD_
 have x0:=hn.x0
 have x1:=hn.x1
 have x2:=hn.x2
 have n9:=hn.n9
 have hbcn:=hn.bcn
 have hqo:h.qv.oneCell'=true:=hn.hq.one rfl
 have hiz:(i:Int)<n:=by omega
 have hi0:¬(i:Int)<0:=by omega
 obtain⟨v0,v1,v2,v3,v4,v5,v6,v7,v8,v9,v10,a0,a1,a2,a3,a4,a5,a6,a7,a8,a9,a10,hrv,⟨o0,o1,o2,o3,o4,o5,o6,o7,o8,o9,o10⟩,e7,e1⟩:=hn.st hi
 have hcall:∀wx,Below w.heap.size w wx->Calls Try.prog 21 #[.agg #[v0,v1,v2,v3,v4,v5,v6,v7,v8,v9,v10],.agg #[.int .i64 n,h.qv],.int .i64 i] wx fun e w'=>∃g' r0 r1 r2 r3 r4 r5 r6 r7 r8 r9 r10 A C,e=.returned (.tuple #[.agg #[r0,r1,r2,r3,r4,r5,r6,r7,r8,r9,r10],.slice A l.length C,.int .i64 0])/\Gv g wx b l w' g' r0 r1 r2 r3 r4 r5 r6 r7 r8 r9 r10 A C:=by
  intro wx hbx
  have hI:=hn.keepI hbx
  refine(wq_ (je_ (B i) n q i hq hbi) (g:=g) (w:=wx) (vals:=#[.agg #[v0,v1,v2,v3,v4,v5,v6,v7,v8,v9,v10],.agg #[.int .i64 n,h.qv],.int .i64 i]) rfl ?_ ?_ fun k hk=>zzk_ (hn.Ilt k hk) hbx.size).mono ?_
  .intro x hx
   simp at hx
   rcases hx with rfl|rfl|rfl<;>rfl
  .intro x u c hu hc
   match x,hu,hc with
   | 0, hu, hc =>
     cases hu
     cases hc
     exact uf_ hrv hI
   | 1, hu, hc =>
     cases hu
     cases hc
     refine .agg rfl (by intro c hc;simp at hc;rcases hc with rfl|rfl;rfl;exact hqo) (fun x u c hu hc=>?_)
     match x,hu,hc with
     |0,hu,hc=>cases hu;cases hc;exact .s rfl
     |1,hu,hc=>cases hu;cases hc;exact zr_ hn.hq rfl hI
   |2,hu,hc=>cases hu;cases hc;exact .s rfl
  .rintro e w' ⟨v,r,g',rfl,rfl,hr,hbel,hg,hlt⟩
   rw[hR]at hr
   obtain⟨r0,r1,r2,r3,r4,r5,r6,r7,r8,r9,r10,A,C,rfl,hv⟩:=kH_ hr hbel hg hlt
   exact⟨g',r0,r1,r2,r3,r4,r5,r6,r7,r8,r9,r10,A,C,rfl,hv⟩
 have hB1:Below w.heap.size w w.drew:=⟨rfl,rfl,rfl,zzl_ _,fun _ _=>rfl⟩
 have hB2:Below w.heap.size w (w.drew.alloc (.cells #[.int .i64 0,.int .i64 0,.int .i64 0,.int .i64 0,.int .i64 0,.int .i64 0,.int .i64 0,.bool false,.slice none 0 0,.slice none 0 0,.bool false] 39)):=⟨rfl,rfl,rfl,by simp,fun k hk=>Below.heap_alloc w.drew _ k hk⟩
 have hZ2:(w.drew.alloc (.cells #[.int .i64 0,.int .i64 0,.int .i64 0,.int .i64 0,.int .i64 0,.int .i64 0,.int .i64 0,.bool false,.slice none 0 0,.slice none 0 0,.bool false] 39)).heap[w.heap.size]?=some (.cells z39 39 (0,0)):=heap_alloc_new w.drew (.cells z39 39)
 have hz2:w.heap.size<(w.drew.alloc (.cells #[.int .i64 0,.int .i64 0,.int .i64 0,.int .i64 0,.int .i64 0,.int .i64 0,.int .i64 0,.bool false,.slice none 0 0,.slice none 0 0,.bool false] 39)).heap.size:=by simp
 have hXl:X<w.heap.size:=(hn.tz X (by rw[hn.tag.x];omega)).1
 have hBl:h.bk<w.heap.size:=(hn.tz _ (by rw[hn.tag.b];omega)).1
 have hS:∀wx,Below w.heap.size w wx->wx.cell? ⟨X,0,none⟩=some (.int .i64 n)/\wx.cell? ⟨X,1,none⟩=some h.qv/\wx.cell? ⟨X,2,none⟩=some (.slice (some ⟨h.bk,0,none⟩) n h.bc)/\wx.cell? ⟨h.bk,i*11,none⟩=some v0/\wx.cell? ⟨h.bk,i*11+1,none⟩=some v1/\wx.cell? ⟨h.bk,i*11+2,none⟩=some v2/\wx.cell? ⟨h.bk,i*11+3,none⟩=some v3/\wx.cell? ⟨h.bk,i*11+4,none⟩=some v4/\wx.cell? ⟨h.bk,i*11+5,none⟩=some v5/\wx.cell? ⟨h.bk,i*11+6,none⟩=some v6/\wx.cell? ⟨h.bk,i*11+7,none⟩=some v7/\wx.cell? ⟨h.bk,i*11+8,none⟩=some v8/\wx.cell? ⟨h.bk,i*11+9,none⟩=some v9/\wx.cell? ⟨h.bk,i*11+10,none⟩=some v10:=fun wx hb=>⟨z1_ hb x0 hXl,z1_ hb x1 hXl,z1_ hb x2 hXl,z1_ hb a0 hBl,z1_ hb a1 hBl,z1_ hb a2 hBl,z1_ hb a3 hBl,z1_ hb a4 hBl,z1_ hb a5 hBl,z1_ hb a6 hBl,z1_ hb a7 hBl,z1_ hb a8 hBl,z1_ hb a9 hBl,z1_ hb a10 hBl⟩
 have HS:=Lib.hid hS
 clear hS x0 x1 x2 a0 a1 a2 a3 a4 a5 a6 a7 a8 a9 a10
 have HN:=Lib.hid hn
 have HC:=Lib.hid hcall
 have HB0:=Lib.hid hb
 have HTO:=Lib.hid hto
 have HM:=Lib.hid hM
 clear hn hcall hb hto hM hR hrv hqo e7 e1 o0 o1 o2 o3 o4 o5 o6 o7 o8 o9 o10
 go_enter Try.func11,Try.ntmps11
 go_wp2
 go_region_held3 (fun wx=>wx.cell? ⟨X,0,none⟩=some (.int .i64 n)/\wx.cell? ⟨X,1,none⟩=some h.qv/\wx.cell? ⟨X,2,none⟩=some (.slice (some ⟨h.bk,0,none⟩) n h.bc)/\wx.cell? ⟨h.bk,i*11,none⟩=some v0/\wx.cell? ⟨h.bk,i*11+1,none⟩=some v1/\wx.cell? ⟨h.bk,i*11+2,none⟩=some v2/\wx.cell? ⟨h.bk,i*11+3,none⟩=some v3/\wx.cell? ⟨h.bk,i*11+4,none⟩=some v4/\wx.cell? ⟨h.bk,i*11+5,none⟩=some v5/\wx.cell? ⟨h.bk,i*11+6,none⟩=some v6/\wx.cell? ⟨h.bk,i*11+7,none⟩=some v7/\wx.cell? ⟨h.bk,i*11+8,none⟩=some v8/\wx.cell? ⟨h.bk,i*11+9,none⟩=some v9/\wx.cell? ⟨h.bk,i*11+10,none⟩=some v10)
  ((refine HS.out _ ?_;assumption))
  (first
  | (go_at_call 21
     refine(HC.out _ hB1).mono ?_
     rintro e w' ⟨g',r0,r1,r2,r3,r4,r5,r6,r7,r8,r9,r10,A,C,rfl,hv⟩
     have hB3:=hB1.trans (Below.mono1 hv.below hB1.size)
     obtain⟨y1,y2,y3,y4,y5,y6,y7,y8,y9,y10,W,z0,z1,z2,z3,z4,z5,z6,z7,z8,z9,z10,hW1,hW2,hW3⟩:=nj_ (P:=Try.prog) w' hv.one
     have hB4:Below w.heap.size w (w'.alloc (.cells #[.int .i64 0,.int .i64 0,.int .i64 0,.int .i64 0,.int .i64 0,.int .i64 0,.int .i64 0,.bool false,.slice none 0 0,.slice none 0 0,.bool false] 39)):=hB3.trans (Below.mono1 (yt_ w' _) hB3.size)
     have hB5:Below w.heap.size w W:=hB3.trans (Below.mono1 hW1 hB3.size)
     have HA:=Lib.hid (hv.aft1 HN.out hB1 hW1)
     have HO:=Lib.hid hv.one
     have HW:=Lib.hid (And.intro hB3.size hW3)
     clear hv hW1 hW2 hW3)
  | (go_at_call 21
     refine(HC.out _ hB2).mono ?_
     rintro e w' ⟨g',r0,r1,r2,r3,r4,r5,r6,r7,r8,r9,r10,A,C,rfl,hv⟩
     have hB3:=hB2.trans (Below.mono1 hv.below hB2.size)
     obtain⟨y1,y2,y3,y4,y5,y6,y7,y8,y9,y10,W,z0,z1,z2,z3,z4,z5,z6,z7,z8,z9,z10,hW1,hW2,hW3,hW4,hW5,hW6⟩:=hv.box1 (P:=Try.prog) hZ2
     have HA:=Lib.hid (hv.aft2 HN.out hB2 (zzl_ _) hz2 hW1 hW2 hW3 hW4 hW5)
     have hB5:Below w.heap.size w W:=⟨HA.out.os,HA.out.tape,HA.out.output,HA.out.size,HA.out.fr⟩
     have HO:=Lib.hid hv.one
     have HW:=Lib.hid (And.intro (zzl_ w.heap.size) hW6)
     clear hv hW1 hW2 hW3 hW4 hW5 hW6))
 all_goals
  obtain⟨q0,q1,q2,q3,q4,q5,q6,q7,q8,q9,q10⟩:=rs_ HW.out.2
  have hcall2:=wM_ HA.out.net hi hq HB0.out HA.out.rb HA.out.rl HTO.out hl HM.out
  have HC2:=Lib.hid hcall2
  clear hcall2
  go_wp2_with ((go_at_call 31
                refine HC2.out.mono ?_
                rintro e w2 ⟨T',g2,h',rfl,hk⟩
                have HK:=Lib.hid hk
                clear hk))
  all_goals go_wp2
  all_goals go_ret
  all_goals
   obtain⟨t1,t2,t3,t4,t5,t6,t7⟩:=HK.out
   have ha:=HA.out
   exact⟨T',g2,h',rfl,t1,t2.trans ha.os,t3.trans ha.tape,t4.trans ha.output,yyd_ ha.size t5,fun k hk h0=>⟨(t6 k (zzk_ hk ha.size) h0).1,(t6 k (zzk_ hk ha.size) h0).2.trans (ha.fr k hk)⟩,fun k hk=>(t7 k (zzk_ hk ha.size)).trans (ha.same k hk)⟩
structure Pop(T:Nat->Nat)(g:Gh)(w:World)(X n:Nat)(q:List Int)(B:Nat->Bl)(M:Nat->Nat->List Vt)(T':Nat->Nat)(h':Hd)(m:Vt)(Kt:Nat)(W:World):Prop where
 net:Net T' g W X n q B M h'
 box:W.heap[Kt]?=some (.cells #[.int .i64 m.k,.int .i64 m.to,.int .i64 m.st,.int .i64 m.ss] 46 (0,0))
 tK:T' Kt=0
 lt:w.heap.size<=Kt
 os:W.os=w.os
 tape:W.tape=w.tape
 output:W.output=w.output
 size:w.heap.size<=W.heap.size
 fr:∀k,k<w.heap.size->T k=0->T' k=0/\W.heap[k]?=w.heap[k]?
set_option maxRecDepth 100000 in
theorem qI_{k off cap m:Nat}(h1:m+1<=cap)(h2:cap<=maxLen)(Y:World):(Instr.slice 41 (.slice (some ⟨k,off,none⟩) (m+1) cap) (some (.int .i64 1)) none none).run Try.prog Y=.ok (.slice (if cap=1 then some ⟨k,off,none⟩ else some ⟨k,off+4,none⟩) m (cap-1)) Y:=by
 obtain⟨i0,hi0,hzs⟩:∃i0,Try.prog.info? 46=some i0/\i0.size=4:=⟨_,rfl,by kernel_rfl⟩
 have hb:(Instr.sliceBounds true (m+1) cap (some (.int .i64 1)) none none).run Try.prog Y=.ok (1,m+1,cap) Y:=by
  have h3:(1:Int)<=(m:Int)+1:=by omega
  simp[Instr.sliceBounds,Instr.sliceBound,asIntOf,h3]
 simp[Instr.slice,run_underlying Try.underlying41,hb,sizeOf,typeInfo,hi0,hzs,Addr.add]
theorem Net.popV{T:Nat->Nat}{g:Gh}{w:World}{X n:Nat}{q:List Int}{B:Nat->Bl}{M:Nat->Nat->List Vt}{h:Hd}(hn:Net T g w X n q B M h){i j:Nat}(hi:i<n)(hj:j<n){m:Vt}{rest:List Vt}(hm:M i j=m::rest) :
 ∃ (k off cap Kt C2 : Nat) (A2 : Option Addr) (W4 W5 : World) (T2 : Nat → Nat) (h2 : Hd), h.mv i j = .slice (some ⟨k, off, none⟩) (rest.length + 1) cap ∧ rest.length + 1 ≤ cap ∧ cap ≤ maxLen ∧
   (w.cell? ⟨k,off,none⟩=some (.int .i64 m.k)/\w.cell? ⟨k,off+1,none⟩=some (.int .i64 m.to)/\w.cell? ⟨k,off+2,none⟩=some (.int .i64 m.st)/\w.cell? ⟨k,off+3,none⟩=some (.int .i64 m.ss)) /\
   w.heap.size=Kt/\Asd (w.alloc (.cells #[.int .i64 m.k,.int .i64 m.to,.int .i64 m.st,.int .i64 m.ss] 46)=W4)/\W4.cell? ⟨X,3,none⟩=some (.slice (some ⟨h.mb,0,none⟩) n h.mc)/\W4.cell? ⟨h.mb,i,none⟩=some (.slice (some ⟨h.rk i,0,none⟩) n (h.rc i))/\W4.cell? ⟨h.rk i,j,none⟩=some (h.mv i j) /\
   W4.frozen? ⟨h.rk i,j,none⟩=false/\Asd (∀Y:World,Y=W4.drew->Y.setCell ⟨h.rk i,j,none⟩ (.slice A2 rest.length C2)=W5)/\(∀Y:World,(Instr.slice 41 (.slice (some ⟨k,off,none⟩) (rest.length+1) cap) (some (.int .i64 1)) none none).run Try.prog Y=.ok (.slice A2 rest.length C2) Y)/\(W5.cell? ⟨X,3,none⟩=some (.slice (some ⟨h.mb,0,none⟩) n h.mc)/\W5.cell? ⟨h.mb,i,none⟩=some (.slice (some ⟨h.rk i,0,none⟩) n (h.rc i)))/\Asd (Pop T g w X n q B (updM M i j rest) T2 h2 m Kt W5):=by
 have n9:=hn.n9
 have hv0:=hn.vv i j hi hj
 rw[hm]at hv0
 obtain⟨k,off,cap,e,e1,e2,c0,c1,c2,c3,hmb,hrb⟩:=ky_ hv0
 obtain⟨W4,hW4⟩:∃W4,W4=w.alloc (.cells #[.int .i64 m.k,.int .i64 m.to,.int .i64 m.st,.int .i64 m.ss] 46):=⟨_,rfl⟩
 have hb4:Below w.heap.size w W4:=by rw[hW4];exact yt_ w _
 have hs4:W4.heap.size=w.heap.size+1:=by rw[hW4];simp
 have hK4:W4.heap[w.heap.size]?=some (.cells #[.int .i64 m.k,.int .i64 m.to,.int .i64 m.st,.int .i64 m.ss] 46 (0,0)):=by rw[hW4];exact heap_alloc_new w _
 have hn4:=hn.below hb4
 have hd:Net T g W4.drew X n q B M h:=hn4.grow (zzl_ _) (fun _ _=>rfl) (fun _ _=>rfl) hn4.Ilt
 have hm4:MBx W4.drew (.slice (if cap=1 then some ⟨k,off,none⟩ else some ⟨k,off+4,none⟩) rest.length (cap-1)) rest:=hmb.keep fun k' hk'=>hb4.block k' (hn.vt hi hj (hrb k' hk')).1
 obtain⟨q1,q2,q3⟩:=hd.setV hi hj (w1:=W4.drew) (l':=rest) (zzl_ _) (fun _ _ _=>rfl) hm4 fun k' hk'=>⟨.inl (hrb k' hk'),by have:=(hn.vt hi hj (hrb k' hk')).1;show k'<W4.heap.size;omega⟩
 have hTr:=hn.tag.r i hi
 obtain⟨cr,r1,r2⟩:=hn4.rr i hi
 have hKT:T w.heap.size=0:=by
  by_cases h0:T w.heap.size=0
  .exact h0
  .have:=(hn.tz _ h0).1;omega
 have hp0:∀a,T a=0->putT T i j (.slice (if cap=1 then some ⟨k,off,none⟩ else some ⟨k,off+4,none⟩) rest.length (cap-1)) a=0:=fun a ha=>by
  by_cases e':rb (.slice (if cap=1 then some ⟨k,off,none⟩ else some ⟨k,off+4,none⟩) rest.length (cap-1))=some a
  .have:=hn.tag.v i j a hi hj (hrb a e');omega
  .unfold putT
   rw[if_neg e']
   exact ha
 refine⟨k,off,cap,w.heap.size,cap-1,if cap=1 then some ⟨k,off,none⟩ else some ⟨k,off+4,none⟩,W4,_,_,_,e,e1,e2,⟨c0,c1,c2,c3⟩,rfl,⟨hW4.symm⟩,hn4.x3,hn4.m1 hi,hn4.m2 hi hj,by simp[World.frozen?,r1],⟨fun Y hY=>by rw[hY]⟩,fun Y=>qI_ e1 e2 Y,⟨q1.x3,q1.m1 hi⟩,⟨q1,?_,hp0 _ hKT,zzl_ _,hb4.os,hb4.tape,hb4.output,?_,fun a ha h0=>⟨hp0 a h0,?_⟩⟩⟩
 .rw[q3 _ (by show w.heap.size<W4.heap.size;omega) (by intro e';rw[e']at hKT;omega)]
  exact hK4
 .rw[q2];show w.heap.size<=W4.heap.size;omega
 .rw[q3 a (by show a<W4.heap.size;omega) (by rintro rfl;omega)]
  exact hb4.block a ha
theorem nE_{M:Nat->Nat->List Vt}{i j:Nat}{m:Vt}{rest:List Vt}(hm:M i j=m::rest)(a b:Nat):(updM M i j rest a b).length<=(M a b).length:=by
 unfold updM
 split
 .next e=>rw[e.1,e.2,hm];simp
 .exact zzl_ _
set_option maxHeartbeats 8000000 in
set_option maxRecDepth 100000 in
theorem tn_{T:Nat->Nat}{g:Gh}{w:World}{X n:Nat}{q:List Int}{B:Nat->Bl}{M:Nat->Nat->List Vt}{h:Hd}(hn:Net T g w X n q B M h){i j:Nat}(hi:i<n)(hj:j<n){m:Vt}{rest:List Vt}(hm:M i j=m::rest){b:Bl}{l:List Vt}
 (hq:q.length<=1000) (hg:(B j).given.length<=1000) (hqq:(B j).queue.length<=1000) (hb:b.sm) (hR:zB_ n q j i m (B j)=okR b l) (hto:∀m∈l,0<=m.to/\m.to<n) (hl:l.length<=1000) (hM:∀a b,(M a b).length+l.length<=100000) :
 Calls Try.prog 12 #[.pointer (some ⟨X,0,none⟩),.int .i64 i,.int .i64 j] w fun e w'=>∃T' g' h',e=.returned (.bool (bOk n q j b))/\Net T' g' w' X n q (updB B j b) (yz_ (updM M i j rest) j l) h' /\
  w'.os=w.os/\w'.tape=w.tape/\w'.output=w.output/\w.heap.size<=w'.heap.size/\(∀k,k<w.heap.size->T k=0->T' k=0/\w'.heap[k]?=w.heap[k]?)/\(∀k,k<w.heap.size->g'.I k=g.I k):=by
 have mx:=zD_
 have n9:=hn.n9
 have x3:=hn.x3
 have m1:=hn.m1 hi
 have m2:=hn.m2 hi hj
 have hbcn:=hn.bcn
 have hmcn:=hn.mcn
 have hrcn:=hn.rcn i hi
 have hiz:(i:Int)<n:=by omega
 have hjz:(j:Int)<n:=by omega
 obtain⟨k,off,cap,Kt,C2,A2,W4,W5,T2,h2,e,e1,e2,⟨c0,c1,c2,c3⟩,hKt,hW4,f3,f1,f2,ffr,hst,hsl,⟨s3,s1⟩,hP⟩:=hn.popV hi hj hm
 rw[e]at f2 m2
 have HN:=Lib.hid hn
 have hlr:((rest.length+1:Nat):Int)=(rest.length:Int)+1:=by omega
 have HQ:=Lib.hid hm
 have HP:=Lib.hid hP
 clear e hn hm
 have d2:W4.drew.cell? ⟨h.rk i,j,none⟩=some (.slice (some ⟨k,off,none⟩) (rest.length+1) cap):=f2
 have d3:W4.drew.cell? ⟨X,3,none⟩=some (.slice (some ⟨h.mb,0,none⟩) n h.mc):=f3
 have d1:W4.drew.cell? ⟨h.mb,i,none⟩=some (.slice (some ⟨h.rk i,0,none⟩) n (h.rc i)):=f1
 have dfr:W4.drew.frozen? ⟨h.rk i,j,none⟩=false:=ffr
 have hst1:W4.drew.setCell ⟨h.rk i,j,none⟩ (.slice A2 rest.length C2)=W5:=hst.out _ rfl
 clear hst
 have HE:=Lib.hid (And.intro e1 e2)
 -- behind the first region
 have hN:=hP.out.net
 have x0:=hN.x0
 have x1:=hN.x1
 have x2:=hN.x2
 have hbc2:=hN.bcn
 have hqo:h2.qv.oneCell'=true:=hN.hq.one rfl
 obtain⟨v0,v1,v2,v3,v4,v5,v6,v7,v8,v9,v10,a0,a1,a2,a3,a4,a5,a6,a7,a8,a9,a10,hrv,⟨o0,o1,o2,o3,o4,o5,o6,o7,o8,o9,o10⟩,e7,e8⟩:=hN.st hj
 have hKl:Kt<W5.heap.size:=(zzm_.1 hP.out.box).1
 have k0:W5.cell? ⟨Kt,0,none⟩=some (.int .i64 m.k):=by simp[World.cell?,hP.out.box]
 have k1:W5.cell? ⟨Kt,1,none⟩=some (.int .i64 m.to):=by simp[World.cell?,hP.out.box]
 have k2:W5.cell? ⟨Kt,2,none⟩=some (.int .i64 m.st):=by simp[World.cell?,hP.out.box]
 have k3:W5.cell? ⟨Kt,3,none⟩=some (.int .i64 m.ss):=by simp[World.cell?,hP.out.box]
 have hcall:∀wx,Below W5.heap.size W5 wx->Calls Try.prog 23 #[.agg #[v0,v1,v2,v3,v4,v5,v6,v7,v8,v9,v10],.agg #[.int .i64 n,h2.qv],.int .i64 j,.int .i64 i,.agg #[.int .i64 m.k,.int .i64 m.to,.int .i64 m.st,.int .i64 m.ss]] wx fun e w'=>∃g' r0 r1 r2 r3 r4 r5 r6 r7 r8 r9 r10 A C,e=.returned (.tuple #[.agg #[r0,r1,r2,r3,r4,r5,r6,r7,r8,r9,r10],.slice A l.length C,.int .i64 0])/\Gv g wx b l w' g' r0 r1 r2 r3 r4 r5 r6 r7 r8 r9 r10 A C:=by
  intro wx hbx
  have hI:=hN.keepI hbx
  refine(wq_ (ry_ (B j) n q j i m hq hg hqq) (g:=g) (w:=wx) (vals:=#[.agg #[v0,v1,v2,v3,v4,v5,v6,v7,v8,v9,v10],.agg #[.int .i64 n,h2.qv],.int .i64 j,.int .i64 i,.agg #[.int .i64 m.k,.int .i64 m.to,.int .i64 m.st,.int .i64 m.ss]]) rfl ?_ ?_ fun k hk=>zzk_ (hN.Ilt k hk) hbx.size).mono ?_
  .intro x hx
   simp at hx
   rcases hx with rfl|rfl|rfl|rfl|rfl<;>rfl
  .intro x u c hu hc
   match x,hu,hc with
   | 0, hu, hc =>
     cases hu
     cases hc
     exact uf_ hrv hI
   | 1, hu, hc =>
     cases hu
     cases hc
     refine .agg rfl (by intro c hc;simp at hc;rcases hc with rfl|rfl;rfl;exact hqo) (fun x u c hu hc=>?_)
     match x,hu,hc with
     |0,hu,hc=>cases hu;cases hc;exact .s rfl
     |1,hu,hc=>cases hu;cases hc;exact zr_ hN.hq rfl hI
   |2,hu,hc=>cases hu;cases hc;exact .s rfl
   |3,hu,hc=>cases hu;cases hc;exact .s rfl
   | 4, hu, hc =>
     cases hu
     cases hc
     refine .agg rfl (by intro c hc;simp at hc;rcases hc with rfl|rfl|rfl|rfl<;>rfl) (fun x u c hu hc=>?_)
     match x,hu,hc with
     |0,hu,hc=>cases hu;cases hc;exact .s rfl
     |1,hu,hc=>cases hu;cases hc;exact .s rfl
     |2,hu,hc=>cases hu;cases hc;exact .s rfl
     |3,hu,hc=>cases hu;cases hc;exact .s rfl
  .rintro e w' ⟨v,r,g',rfl,rfl,hr,hbel,hg,hlt⟩
   rw[hR]at hr
   obtain⟨r0,r1,r2,r3,r4,r5,r6,r7,r8,r9,r10,A,C,rfl,hv⟩:=kH_ hr hbel hg hlt
   exact⟨g',r0,r1,r2,r3,r4,r5,r6,r7,r8,r9,r10,A,C,rfl,hv⟩
 have hB1:Below W5.heap.size W5 W5.drew:=⟨rfl,rfl,rfl,zzl_ _,fun _ _=>rfl⟩
 have hB2:Below W5.heap.size W5 (W5.drew.alloc (.cells #[.int .i64 0,.int .i64 0,.int .i64 0,.int .i64 0,.int .i64 0,.int .i64 0,.int .i64 0,.bool false,.slice none 0 0,.slice none 0 0,.bool false] 39)):=⟨rfl,rfl,rfl,by simp,fun k hk=>Below.heap_alloc W5.drew _ k hk⟩
 have hZ2:(W5.drew.alloc (.cells #[.int .i64 0,.int .i64 0,.int .i64 0,.int .i64 0,.int .i64 0,.int .i64 0,.int .i64 0,.bool false,.slice none 0 0,.slice none 0 0,.bool false] 39)).heap[W5.heap.size]?=some (.cells z39 39 (0,0)):=heap_alloc_new W5.drew (.cells z39 39)
 have hz2:W5.heap.size<(W5.drew.alloc (.cells #[.int .i64 0,.int .i64 0,.int .i64 0,.int .i64 0,.int .i64 0,.int .i64 0,.int .i64 0,.bool false,.slice none 0 0,.slice none 0 0,.bool false] 39)).heap.size:=by simp
 have hXl:X<W5.heap.size:=(hN.tz X (by rw[hN.tag.x];omega)).1
 have hBl:h2.bk<W5.heap.size:=(hN.tz _ (by rw[hN.tag.b];omega)).1
 have hS:∀wx,Below W5.heap.size W5 wx->wx.cell? ⟨X,0,none⟩=some (.int .i64 n)/\wx.cell? ⟨X,1,none⟩=some h2.qv/\wx.cell? ⟨X,2,none⟩=some (.slice (some ⟨h2.bk,0,none⟩) n h2.bc)/\wx.cell? ⟨h2.bk,j*11,none⟩=some v0/\wx.cell? ⟨h2.bk,j*11+1,none⟩=some v1/\wx.cell? ⟨h2.bk,j*11+2,none⟩=some v2/\wx.cell? ⟨h2.bk,j*11+3,none⟩=some v3/\wx.cell? ⟨h2.bk,j*11+4,none⟩=some v4/\wx.cell? ⟨h2.bk,j*11+5,none⟩=some v5/\wx.cell? ⟨h2.bk,j*11+6,none⟩=some v6/\wx.cell? ⟨h2.bk,j*11+7,none⟩=some v7/\wx.cell? ⟨h2.bk,j*11+8,none⟩=some v8/\wx.cell? ⟨h2.bk,j*11+9,none⟩=some v9/\wx.cell? ⟨h2.bk,j*11+10,none⟩=some v10/\wx.cell? ⟨Kt,0,none⟩=some (.int .i64 m.k)/\wx.cell? ⟨Kt,1,none⟩=some (.int .i64 m.to)/\wx.cell? ⟨Kt,2,none⟩=some (.int .i64 m.st)/\wx.cell? ⟨Kt,3,none⟩=some (.int .i64 m.ss):=fun wx hb=>⟨z1_ hb x0 hXl,z1_ hb x1 hXl,z1_ hb x2 hXl,z1_ hb a0 hBl,z1_ hb a1 hBl,z1_ hb a2 hBl,z1_ hb a3 hBl,z1_ hb a4 hBl,z1_ hb a5 hBl,z1_ hb a6 hBl,z1_ hb a7 hBl,z1_ hb a8 hBl,z1_ hb a9 hBl,z1_ hb a10 hBl,z1_ hb k0 hKl,z1_ hb k1 hKl,z1_ hb k2 hKl,z1_ hb k3 hKl⟩
 have HS:=Lib.hid hS
 clear hS x0 x1 x2 a0 a1 a2 a3 a4 a5 a6 a7 a8 a9 a10 k0 k1 k2 k3
 have HN:=Lib.hid hN
 have HC:=Lib.hid hcall
 have HB0:=Lib.hid hb
 have HTO:=Lib.hid hto
 have HM:=Lib.hid hM
 clear hN hcall hb hto hM hR hrv hqo e7 e8 o0 o1 o2 o3 o4 o5 o6 o7 o8 o9 o10
 go_enter Try.func12,Try.ntmps12
 go_wp2
 rw[hW4.out]
 go_wp2
 go_region
 go_wp2
 go_region_held3 (fun wx=>wx.cell? ⟨X,0,none⟩=some (.int .i64 n)/\wx.cell? ⟨X,1,none⟩=some h2.qv/\wx.cell? ⟨X,2,none⟩=some (.slice (some ⟨h2.bk,0,none⟩) n h2.bc)/\wx.cell? ⟨h2.bk,j*11,none⟩=some v0/\wx.cell? ⟨h2.bk,j*11+1,none⟩=some v1/\wx.cell? ⟨h2.bk,j*11+2,none⟩=some v2/\wx.cell? ⟨h2.bk,j*11+3,none⟩=some v3/\wx.cell? ⟨h2.bk,j*11+4,none⟩=some v4/\wx.cell? ⟨h2.bk,j*11+5,none⟩=some v5/\wx.cell? ⟨h2.bk,j*11+6,none⟩=some v6/\wx.cell? ⟨h2.bk,j*11+7,none⟩=some v7/\wx.cell? ⟨h2.bk,j*11+8,none⟩=some v8/\wx.cell? ⟨h2.bk,j*11+9,none⟩=some v9/\wx.cell? ⟨h2.bk,j*11+10,none⟩=some v10/\wx.cell? ⟨Kt,0,none⟩=some (.int .i64 m.k)/\wx.cell? ⟨Kt,1,none⟩=some (.int .i64 m.to)/\wx.cell? ⟨Kt,2,none⟩=some (.int .i64 m.st)/\wx.cell? ⟨Kt,3,none⟩=some (.int .i64 m.ss))
  ((refine HS.out _ ?_;assumption))
  (first
  | (go_at_call 23
     refine(HC.out _ hB1).mono ?_
     rintro e w' ⟨g',r0,r1,r2,r3,r4,r5,r6,r7,r8,r9,r10,A,C,rfl,hv⟩
     have hB3:=hB1.trans (Below.mono1 hv.below hB1.size)
     obtain⟨y1,y2,y3,y4,y5,y6,y7,y8,y9,y10,W,z0,z1,z2,z3,z4,z5,z6,z7,z8,z9,z10,hW1,hW2,hW3⟩:=nj_ (P:=Try.prog) w' hv.one
     have hB4:Below W5.heap.size W5 (w'.alloc (.cells #[.int .i64 0,.int .i64 0,.int .i64 0,.int .i64 0,.int .i64 0,.int .i64 0,.int .i64 0,.bool false,.slice none 0 0,.slice none 0 0,.bool false] 39)):=hB3.trans (Below.mono1 (yt_ w' _) hB3.size)
     have hB5:Below W5.heap.size W5 W:=hB3.trans (Below.mono1 hW1 hB3.size)
     have HA:=Lib.hid (hv.aft1 HN.out hB1 hW1)
     have HO:=Lib.hid hv.one
     have HW:=Lib.hid (And.intro hB3.size hW3)
     clear hv hW1 hW2 hW3)
  | (go_at_call 23
     refine(HC.out _ hB2).mono ?_
     rintro e w' ⟨g',r0,r1,r2,r3,r4,r5,r6,r7,r8,r9,r10,A,C,rfl,hv⟩
     have hB3:=hB2.trans (Below.mono1 hv.below hB2.size)
     obtain⟨y1,y2,y3,y4,y5,y6,y7,y8,y9,y10,W,z0,z1,z2,z3,z4,z5,z6,z7,z8,z9,z10,hW1,hW2,hW3,hW4,hW5,hW6⟩:=hv.box1 (P:=Try.prog) hZ2
     have HA:=Lib.hid (hv.aft2 HN.out hB2 (zzl_ _) hz2 hW1 hW2 hW3 hW4 hW5)
     have hB5:Below W5.heap.size W5 W:=⟨HA.out.os,HA.out.tape,HA.out.output,HA.out.size,HA.out.fr⟩
     have HO:=Lib.hid hv.one
     have HW:=Lib.hid (And.intro (zzl_ W5.heap.size) hW6)
     clear hv hW1 hW2 hW3 hW4 hW5 hW6))
 all_goals
  obtain⟨q0,q1,q2,q3,q4,q5,q6,q7,q8,q9,q10⟩:=rs_ HW.out.2
  have hcall2:=wM_ HA.out.net hj hq HB0.out HA.out.rb HA.out.rl HTO.out hl (fun a b=>yyd_ (Nat.add_le_add_right (nE_ HQ.out a b) _) (HM.out a b))
  have HC2:=Lib.hid hcall2
  clear hcall2
  go_wp2_with ((go_at_call 31
                refine HC2.out.mono ?_
                rintro e w2 ⟨T',g2,h',rfl,hk⟩
                have HK:=Lib.hid hk
                clear hk))
  all_goals go_wp2
  all_goals go_ret
  all_goals
   obtain⟨t1,t2,t3,t4,t5,t6,t7⟩:=HK.out
   have ha:=HA.out
   have hp:=HP.out.out
   exact⟨T',g2,h',rfl,t1,t2.trans (ha.os.trans hp.os),t3.trans (ha.tape.trans hp.tape),t4.trans (ha.output.trans hp.output),yyd_ hp.size (yyd_ ha.size t5),fun k hk h0=>⟨(t6 k (zzk_ (zzk_ hk hp.size) ha.size) (hp.fr k hk h0).1).1,(t6 k (zzk_ (zzk_ hk hp.size) ha.size) (hp.fr k hk h0).1).2.trans ((ha.fr k (zzk_ hk hp.size)).trans (hp.fr k hk h0).2)⟩,fun k hk=>(t7 k (zzk_ (zzk_ hk hp.size) ha.size)).trans (ha.same k (zzk_ hk hp.size))⟩
end Go.Proofs.Ytpfjlnmnolbiaaa
namespace Go.Proofs.Ytpfjlnmnolbiaaa.QP
inductive Up where
 |ask|yld|rel
 deriving DecidableEq
inductive Dn where
 |yes|fal|inq
 deriving DecidableEq
inductive Ra where
 |o|w|h
 deriving DecidableEq
inductive Va where
 |n|q|g
 deriving DecidableEq
def OI(d:List Dn):Prop:=∀x∈d,x=.inq
def NY(d:List Dn):Prop:=∀x∈d,x≠.yes
inductive Shape:Ra->Va->List Up->List Dn->Prop
 |n0 {d} (h:OI d):Shape .o .n [] d
 |n1 {d} (h:OI d):Shape .w .n [.ask] d
 |q {d} (h:NY d):Shape .w .q [] d
 |gy {a b} (ha:NY a) (hb:OI b):Shape .w .g [] (a++.yes::b)
 |gh {d} (h:OI d):Shape .h .g [] d
 |gb {d} (h:OI d):Shape .w .g [.yld] d
 |gr {d} (h:OI d):Shape .o .g [.rel] d
 |ga {d} (h:OI d):Shape .w .g [.rel,.ask] d
theorem OI.nil:OI []:=fun x hx=>by simp at hx
theorem OI.ny{d:List Dn}(h:OI d):NY d:=fun x hx e=>by rw[h x hx]at e;cases e
theorem OI.tl{x:Dn}{d:List Dn}(h:OI (x::d)):x=.inq/\OI d:=⟨h x (by simp),fun y hy=>h y (by simp[hy])⟩
theorem NY.tl{x:Dn}{d:List Dn}(h:NY (x::d)):x≠.yes/\NY d:=⟨h x (by simp),fun y hy=>h y (by simp[hy])⟩
theorem OI.snoc{d:List Dn}(h:OI d):OI (d++[.inq]):=fun x hx=>by
 rcases zzw_.1 hx with h1|h1
 .exact h x h1
 .simpa using h1
theorem NY.snoc{d:List Dn}(h:NY d){x:Dn}(hx:x≠.yes):NY (d++[x]):=fun y hy=>by
 rcases zzw_.1 hy with h1|h1
 .exact h y h1
 .rw[List.mem_singleton.1 h1];exact hx
section
variable{r:Ra}{v:Va}{u:List Up}{d:List Dn}
theorem Shape.want(h:Shape .o v u d):Shape .w v (u++[.ask]) d:=by
 cases h with
 |n0 h=>exact .n1 h
 |gr h=>exact .ga h
theorem Shape.yield(h:Shape .h v u d):Shape .w v (u++[.yld]) d:=by
 cases h with
 |gh h=>exact .gb h
theorem Shape.release(h:Shape .h v u d):Shape .o v (u++[.rel]) d:=by
 cases h with
 |gh h=>exact .gr h
theorem Shape.has(h:Shape .h v u d):v=.g:=by cases h;rfl
theorem Shape.yes(h:Shape r v u (.yes::d)):r=.w/\Shape .h v u d:=by
 generalize e:Dn.yes::d=d' at h
 cases h with
 |n0 h=>subst e;cases h.tl.1
 |n1 h=>subst e;cases h.tl.1
 |q h=>subst e;exact absurd rfl h.tl.1
 |gh h=>subst e;cases h.tl.1
 |gb h=>subst e;cases h.tl.1
 |gr h=>subst e;cases h.tl.1
 |ga h=>subst e;cases h.tl.1
 | @gy a b ha hb =>
   cases a with
   | nil =>
     simp at e
     subst e
     exact⟨rfl,.gh hb⟩
   | cons x a =>
     simp at e
     obtain⟨e1,_⟩:=e
     subst e1
     exact absurd rfl ha.tl.1
theorem Shape.fail(h:Shape r v u (.fal::d)):r=.w/\Shape .w v u d:=by
 generalize e:Dn.fal::d=d' at h
 cases h with
 |n0 h=>subst e;cases h.tl.1
 |n1 h=>subst e;cases h.tl.1
 |q h=>subst e;exact⟨rfl,.q h.tl.2⟩
 |gh h=>subst e;cases h.tl.1
 |gb h=>subst e;cases h.tl.1
 |gr h=>subst e;cases h.tl.1
 |ga h=>subst e;cases h.tl.1
 | @gy a b ha hb =>
   cases a with
   |nil=>simp at e
   | cons x a =>
     simp at e
     obtain⟨e1,e2⟩:=e
     subst e1 e2
     exact⟨rfl,.gy ha.tl.2 hb⟩
theorem Shape.inq(h:Shape r v u (.inq::d)):Shape r v u d:=by
 generalize e:Dn.inq::d=d' at h
 cases h with
 |n0 h=>subst e;exact .n0 h.tl.2
 |n1 h=>subst e;exact .n1 h.tl.2
 |q h=>subst e;exact .q h.tl.2
 |gh h=>subst e;exact .gh h.tl.2
 |gb h=>subst e;exact .gb h.tl.2
 |gr h=>subst e;exact .gr h.tl.2
 |ga h=>subst e;exact .ga h.tl.2
 | @gy a b ha hb =>
   cases a with
   |nil=>simp at e
   | cons x a =>
     simp at e
     obtain⟨e1,e2⟩:=e
     subst e1 e2
     exact .gy ha.tl.2 hb
theorem Shape.ask(h:Shape r v (.ask::u) d):v=.n/\r=.w/\u=[]/\Shape .w .g [] (d++[.yes])/\Shape .w .q [] (d++[.fal])/\Shape .w .q [] d:=by
 cases h with
 |n1 h=>exact⟨rfl,rfl,rfl,.gy h.ny OI.nil,.q (h.ny.snoc (by simp)),.q h.ny⟩
theorem Shape.yld(h:Shape r v (.yld::u) d):v=.g/\Shape r .q u d:=by
 cases h with
 |gb h=>exact⟨rfl,.q h.ny⟩
theorem Shape.rel(h:Shape r v (.rel::u) d):v=.g/\Shape r .n u d:=by
 cases h with
 |gr h=>exact⟨rfl,.n0 h⟩
 |ga h=>exact⟨rfl,.n1 h⟩
theorem Shape.promote(h:Shape r .q u d):Shape r .g u (d++[.yes]):=by
 cases h with
 |q h=>exact .gy h OI.nil
theorem Shape.refuse(h:Shape r .q u d):Shape r .q u (d++[.fal]):=by
 cases h with
 |q h=>exact .q (h.snoc (by simp))
theorem Shape.inquire(h:Shape r .g u d):Shape r .g u (d++[.inq]):=by
 cases h with
 | @gy a b ha hb =>
   rw[zzq_]
   exact .gy ha hb.snoc
 |gh h=>exact .gh h.snoc
 |gb h=>exact .gb h.snoc
 |gr h=>exact .gr h.snoc
 |ga h=>exact .ga h.snoc
def nv(r:Ra)(u:List Up)(d:List Dn):Nat:=(if r=.h then 1 else 0)+d.countP (·==.yes)+u.countP (· != .ask)
theorem yO_{d:List Dn}(h:NY d):d.countP (·==.yes)=0:=by
 rw[List.countP_eq_zero]
 intro x hx
 simpa using h x hx
theorem Shape.votes(h:Shape r v u d):nv r u d=if v=.g then 1 else 0:=by
 cases h with
 |n0 h=>simp[nv,yO_ h.ny]
 |n1 h=>simp[nv,yO_ h.ny]
 |q h=>simp[nv,yO_ h]
 |gy ha hb=>simp[nv,yO_ ha,yO_ hb.ny]
 |gh h=>simp[nv,yO_ h.ny]
 |gb h=>simp[nv,yO_ h.ny]
 |gr h=>simp[nv,yO_ h.ny]
 |ga h=>simp[nv,yO_ h.ny]
end
end Go.Proofs.Ytpfjlnmnolbiaaa.QP
namespace Go.Proofs.Ytpfjlnmnolbiaaa.QP
structure Sp where
 t:Nat
 s:Nat
 deriving DecidableEq
def Sp.lt(a b:Sp):Bool:=decide (a.t<b.t\/(a.t=b.t/\a.s<b.s))
theorem Sp.irr(a:Sp):a.lt a=false:=by simp[Sp.lt]
theorem Sp.trans{a b c:Sp}(h1:a.lt b=true)(h2:b.lt c=true):a.lt c=true:=by
 simp only[Sp.lt,zzp_] at *
 omega
theorem Sp.tot{a b:Sp}(h:a.lt b=false)(hs:a.s≠b.s):b.lt a=true:=by
 simp only[Sp.lt,zzp_,decide_eq_false_iff_not] at *
 omega
inductive Kd where
 |ask|yes|fal|inq|yld|rel
 deriving DecidableEq
structure Bt where
 time:Nat
 qu:Nat
 votes:Nat
 fail:Nat
 inqd:Nat
 stamp:Sp
 using':Bool
 asked:Bool
 given:List Sp
 queue:List Sp
def mem(n s:Nat):List Nat:=(List.range n).filter fun v=>s.testBit v
theorem kt_{n s v:Nat}:v∈mem n s↔v<n/\s.testBit v=true:=by simp[mem]
def wo(a b:Nat):Nat:=a^^^(a&&&b)
theorem wo_bit(a b i:Nat):(wo a b).testBit i=(a.testBit i&&!b.testBit i):=by
 unfold wo
 rw[Nat.testBit_xor,Nat.testBit_and]
 cases a.testBit i<;>cases b.testBit i<;>rfl
def ins(s:Sp):List Sp->List Sp
 |[]=>[s]
 |x::r=>if x.lt s then x::ins s r else s::x::r
theorem yF_{s x:Sp}:∀ {l:List Sp},x∈ins s l↔x=s\/x∈l
 |[]=>by simp[ins]
 | y :: r => by
   unfold ins
   split
   .rw[List.mem_cons,yF_,List.mem_cons]
    constructor
    .rintro(h|h|h)
     .exact .inr (.inl h)
     .exact .inl h
     .exact .inr (.inr h)
    .rintro(h|h|h)
     .exact .inr (.inl h)
     .exact .inl h
     .exact .inr (.inr h)
   .rw[List.mem_cons,List.mem_cons]
theorem lj_(s:Sp)(l:List Sp):ins s l≠[]:=by
 cases l with
 |nil=>simp[ins]
 |cons x r=>unfold ins;split<;>simp
def Asc(l:List Sp):Prop:=l.Pairwise fun a b=>a.lt b=true
theorem u4_{s:Sp}:∀ {l:List Sp},Asc l->(∀x∈l,x.s≠s.s)->Asc (ins s l)
 |[],_,_=>by simp[ins,Asc]
 | y :: r, h, hs => by
   obtain⟨h1,h2⟩:=List.pairwise_cons.1 h
   unfold ins
   split
   .next hy =>
    refine List.pairwise_cons.2 ⟨fun x hx=>?_,u4_ h2 fun x hx=>hs x (by simp[hx])⟩
    rcases yF_.1 hx with rfl|hx
    .exact hy
    .exact h1 x hx
   .next hy =>
    have hy:y.lt s=false:=by simpa using hy
    have hsy:=Sp.tot hy (hs y (by simp))
    refine List.pairwise_cons.2 ⟨fun x hx=>?_,h⟩
    rcases List.mem_cons.1 hx with rfl|hx
    .exact hsy
    .exact Sp.trans hsy (h1 x hx)
def Ds(l:List Sp):Prop:=l.Pairwise fun a b=>a.s≠b.s
theorem qb_{s:Sp}:∀ {l:List Sp},Ds l->(∀x∈l,x.s≠s.s)->Ds (ins s l)
 |[],_,_=>by simp[ins,Ds]
 | y :: r, h, hs => by
   obtain⟨h1,h2⟩:=List.pairwise_cons.1 h
   unfold ins
   split
   .refine List.pairwise_cons.2 ⟨fun x hx=>?_,qb_ h2 fun x hx=>hs x (by simp[hx])⟩
    rcases yF_.1 hx with rfl|hx
    .exact hs y (by simp)
    .exact h1 x hx
   .refine List.pairwise_cons.2 ⟨fun x hx=>?_,h⟩
    exact(hs x hx).symm
abbrev Out:=List (Kd×Nat)
def isFst(s:Sp):List Sp->Bool
 |[]=>true
 |x::_=>s.lt x
def falFst(g:Sp):List Sp->Out
 |[]=>[]
 |x::_=>if x.lt g then [(.fal,x.s)] else []
def askV(b:Bt)(s:Sp):Bt×Out :=
 match b.given with
 |[]=>({ b with time:=max b.time s.t,given:=[s] },[(.yes,s.s)])
 | g :: _ =>
   if isFst s b.queue&&s.lt g then
    ({ b with time:=max b.time s.t,asked:=true,queue:=ins s b.queue },falFst g b.queue++(if b.asked then [] else [(Kd.inq,g.s)]))
   else ({ b with time:=max b.time s.t,queue:=ins s b.queue },[(.fal,s.s)])
def backV(b:Bt)(g:Sp)(again:Bool):Bt×Out :=
 match (if again then ins g b.queue else b.queue) with
 |[]=>({ b with given:=[],asked:=false,queue:=[] },[])
 |x::r=>({ b with given:=[x],asked:=false,queue:=r },[(.yes,x.s)])
def give(n:Nat)(b:Bt)(set:Nat):Bt×Out:=({ b with votes:=wo b.votes set,fail:=b.fail|||set,inqd:=wo b.inqd set },(mem n set).map fun v=>(.yld,v))
def yesA(b:Bt)(i:Nat):Bt :=
 if b.votes|||2^i=b.qu then { b with votes:=b.votes|||2^i,fail:=wo b.fail (2^i),using':=true,inqd:=0 }
 else { b with votes:=b.votes|||2^i,fail:=wo b.fail (2^i) }
def failA(n:Nat)(b:Bt)(i:Nat):Bt×Out:=give n { b with fail:=b.fail|||2^i } b.inqd
def inqA(n:Nat)(b:Bt)(i:Nat):Bt×Out :=
 if b.votes.testBit i=false\/b.using'=true then (b,[])
 else if b.fail=0 then ({ b with inqd:=b.inqd|||2^i },[])
 else give n b (2^i)
def wantB(n:Nat)(b:Bt)(i q:Nat):Bt×Out:=({ b with time:=b.time+1,stamp:=⟨b.time+1,i⟩,qu:=q },(mem n q).map fun v=>(.ask,v))
def doneB(n:Nat)(b:Bt):Bt×Out:=({ b with qu:=0,votes:=0,fail:=0,stamp:=⟨0,0⟩,using':=false },(mem n b.qu).map fun v=>(.rel,v))
structure AOk(Q:List Nat)(i:Nat)(b:Bt):Prop where
 qu:b.qu=0\/b.qu∈Q
 vq:∀v,b.votes.testBit v=true->b.qu.testBit v=true
 fq:∀v,b.fail.testBit v=true->b.qu.testBit v=true
 fv:∀v,b.fail.testBit v=true->b.votes.testBit v=false
 iv:∀v,b.inqd.testBit v=true->b.votes.testBit v=true
 s0:b.qu=0->b.stamp=⟨0,0⟩/\b.using'=false
 s1:b.qu≠0->b.stamp.s=i/\1<=b.stamp.t/\b.stamp.t<=b.time
 us:b.using'=true↔b.qu≠0/\b.votes=b.qu
 ui:b.using'=true->b.inqd=0
structure VOk(n:Nat)(T:Nat)(b:Bt):Prop where
 g1:b.given.length<=1
 gq:b.given=[]->b.queue=[]
 aq:b.asked=true->b.queue≠[]
 rng:∀x∈b.given++b.queue,x.s<n/\x.t<=T
 ds:Ds (b.given++b.queue)
 asc:Asc b.queue
 tm:b.time<=T
theorem eq_of_bits{a b:Nat}(h:∀i,a.testBit i=b.testBit i):a=b:=Nat.eq_of_testBit_eq h
theorem pow_bit(i v:Nat):(2^i).testBit v=decide (i=v):=Nat.testBit_two_pow ..
section
variable{Q:List Nat}{n i j T:Nat}{b:Bt}
theorem AOk.want(h:AOk Q i b)(h0:b.qu=0){q:Nat}(hq:q∈Q)(hq0:q≠0):AOk Q i (wantB n b i q).1:=by
 have hv:b.votes=0:=eq_of_bits fun v=>by
  cases e:b.votes.testBit v
  .simp
  .have:=h.vq v e;rw[h0]at this;simp at this
 have hf:b.fail=0:=eq_of_bits fun v=>by
  cases e:b.fail.testBit v
  .simp
  .have:=h.fq v e;rw[h0]at this;simp at this
 have hi:b.inqd=0:=eq_of_bits fun v=>by
  cases e:b.inqd.testBit v
  .simp
  .have:=h.iv v e;rw[hv]at this;simp at this
 have hu:=(h.s0 h0).2
 exact⟨.inr hq,by simp[wantB,hv],by simp[wantB,hf],by simp[wantB,hf],by simp[wantB,hi],fun e=>absurd e hq0,fun _=>⟨rfl,by simp[wantB],by simp[wantB]⟩,by
  simp[wantB,hu,hv]
  intro _ e
  exact hq0 e.symm,by simp[wantB,hi]⟩
theorem AOk.done(h:AOk Q i b)(hu:b.using'=true):AOk Q i (doneB n b).1:=by
 have hi:=h.ui hu
 exact⟨.inl rfl,by simp[doneB],by simp[doneB],by simp[doneB],by simp[doneB,hi],fun _=>⟨rfl,rfl⟩,fun e=>absurd rfl e,by simp[doneB],by simp[doneB]⟩
theorem AOk.yes(h:AOk Q i b)(hq:b.qu.testBit j=true)(hv:b.votes.testBit j=false):AOk Q i (yesA b j):=by
 have hq0:b.qu≠0:=fun e=>by rw[e]at hq;simp at hq
 have hnu:b.using'=false:=by
  cases e:b.using'
  .rfl
  .have:=(h.us.1 e).2;rw[this,hq]at hv;cases hv
 have k1:∀v,(b.votes|||2^j).testBit v=true->b.qu.testBit v=true:=fun v hb=>by
  rw[Nat.testBit_or,pow_bit,zzy_]at hb
  rcases hb with hb|hb
  .exact h.vq v hb
  .rw[<-of_decide_eq_true hb];exact hq
 have k2:∀v,(wo b.fail (2^j)).testBit v=true->b.qu.testBit v=true:=fun v hb=>by
  rw[wo_bit,zzg_]at hb
  exact h.fq v hb.1
 have k3:∀v,(wo b.fail (2^j)).testBit v=true->(b.votes|||2^j).testBit v=false:=fun v hb=>by
  rw[wo_bit,zzg_,pow_bit]at hb
  rw[Nat.testBit_or,pow_bit,h.fv v hb.1]
  simpa using hb.2
 have k4:∀v,b.inqd.testBit v=true->(b.votes|||2^j).testBit v=true:=fun v hb=>by
  rw[Nat.testBit_or,h.iv v hb];rfl
 unfold yesA
 split
 .next e=>exact⟨h.qu,k1,k2,k3,by simp,fun e0=>absurd e0 hq0,h.s1,by simp[hq0,e],fun _=>rfl⟩
 .next e=>exact⟨h.qu,k1,k2,k3,k4,fun e0=>absurd e0 hq0,h.s1,by simp[hnu,e],by simp[hnu]⟩
theorem AOk.give(h:AOk Q i b){set:Nat}(hs:∀v,set.testBit v=true->b.votes.testBit v=true)(hu:b.using'=false):AOk Q i (give n b set).1:=by
 refine⟨h.qu,fun v hb=>?_,fun v hb=>?_,fun v hb=>?_,fun v hb=>?_,h.s0,h.s1,?_,fun e=>?_⟩
 .have hb:(wo b.votes set).testBit v=true:=hb
  rw[wo_bit,zzg_]at hb
  exact h.vq v hb.1
 .have hb:(b.fail|||set).testBit v=true:=hb
  rw[Nat.testBit_or,zzy_]at hb
  exact hb.elim (h.fq v) fun e=>h.vq v (hs v e)
 .have hb:(b.fail|||set).testBit v=true:=hb
  show (wo b.votes set).testBit v=false
  rw[wo_bit]
  rw[Nat.testBit_or,zzy_]at hb
  rcases hb with hb|hb
  .rw[h.fv v hb];rfl
  .rw[hb];simp
 .have hb:(wo b.inqd set).testBit v=true:=hb
  show (wo b.votes set).testBit v=true
  rw[wo_bit,zzg_]at hb ⊢
  exact⟨h.iv v hb.1,hb.2⟩
 .show b.using'=true↔b.qu≠0/\wo b.votes set=b.qu
  rw[hu]
  simp
  intro hq0 e
  have hvq:b.votes=b.qu:=eq_of_bits fun v=>by
   cases e1:b.qu.testBit v
   .cases e2:b.votes.testBit v
    .rfl
    .have:=h.vq v e2;rw[e1]at this;cases this
   .rw[<-e,wo_bit,zzg_]at e1
    exact e1.1
  have:=h.us.2 ⟨hq0,hvq⟩
  rw[hu]at this;cases this
 .have e:b.using'=true:=e
  rw[hu]at e;cases e
theorem AOk.fail(h:AOk Q i b)(hq:b.qu.testBit j=true)(hv:b.votes.testBit j=false):AOk Q i (failA n b j).1:=by
 have hnu:b.using'=false:=by
  cases e:b.using'
  .rfl
  .have:=(h.us.1 e).2;rw[this,hq]at hv;cases hv
 have h2:AOk Q i { b with fail:=b.fail|||2^j }:=by
  refine⟨h.qu,h.vq,fun v hb=>?_,fun v hb=>?_,h.iv,h.s0,h.s1,h.us,h.ui⟩
  .have hb:(b.fail|||2^j).testBit v=true:=hb
   rw[Nat.testBit_or,pow_bit,zzy_]at hb
   rcases hb with hb|hb
   .exact h.fq v hb
   .rw[<-of_decide_eq_true hb];exact hq
  .have hb:(b.fail|||2^j).testBit v=true:=hb
   rw[Nat.testBit_or,pow_bit,zzy_]at hb
   rcases hb with hb|hb
   .exact h.fv v hb
   .rw[<-of_decide_eq_true hb];exact hv
 exact h2.give (fun v e=>h.iv v e) hnu
theorem AOk.inq(h:AOk Q i b):AOk Q i (inqA n b j).1:=by
 unfold inqA
 split
 .exact h
 .next hc =>
  have hv:b.votes.testBit j=true:=by
   cases e:b.votes.testBit j
   .exact absurd (.inl e) hc
   .rfl
  have hu:b.using'=false:=by
   cases e:b.using'
   .rfl
   .exact absurd (.inr e) hc
  split
  .refine⟨h.qu,h.vq,h.fq,h.fv,fun v hb=>?_,h.s0,h.s1,h.us,fun e=>?_⟩
   .have hb:(b.inqd|||2^j).testBit v=true:=hb
    rw[Nat.testBit_or,pow_bit,zzy_]at hb
    rcases hb with hb|hb
    .exact h.iv v hb
    .rw[<-of_decide_eq_true hb];exact hv
   .have e:b.using'=true:=e
    rw[hu]at e;cases e
  .refine h.give (fun v e=>?_) hu
   rw[pow_bit]at e
   rw[<-of_decide_eq_true e];exact hv
theorem VOk.mono(h:VOk n T b){T':Nat}(ht:T<=T'):VOk n T' b:=⟨h.g1,h.gq,h.aq,fun x hx=>⟨(h.rng x hx).1,yyd_ (h.rng x hx).2 ht⟩,h.ds,h.asc,yyd_ h.tm ht⟩
theorem VOk.ask(h:VOk n T b){s:Sp}(hs:s.s<n)(ht:s.t<=T)(hn:∀x∈b.given++b.queue,x.s≠s.s):VOk n T (askV b s).1:=by
 have htm:max b.time s.t<=T:=by have:=h.tm;omega
 unfold askV
 cases hg:b.given with
 | nil =>
   have hq:=h.gq hg
   refine⟨by simp,by simp,?_,?_,?_,?_,htm⟩
   .intro ha
    exact absurd hq (h.aq ha)
   .intro x hx
    have:x=s:=by simpa[hq] using hx
    rw[this];exact⟨hs,ht⟩
   .show Ds ([s]++b.queue)
    rw[hq];simp[Ds]
   .show Asc b.queue
    rw[hq];simp[Asc]
 | cons g r =>
   have hr:r=[]:=by
    have:=h.g1
    rw[hg]at this
    cases r with
    |nil=>rfl
    |cons _ _=>simp at this
   subst hr
   have hgq:b.given++b.queue=g::b.queue:=by rw[hg];rfl
   rw[hgq]at hn
   have hds:=h.ds
   rw[hgq]at hds
   obtain⟨d1,d2⟩:=List.pairwise_cons.1 hds
   have hnq:∀x∈b.queue,x.s≠s.s:=fun x hx=>hn x (by simp[hx])
   have hmem:∀x∈g::ins s b.queue,x.s<n/\x.t<=T:=by
    intro x hx
    rcases List.mem_cons.1 hx with rfl|hx
    .exact h.rng x (by rw[hgq];simp)
    .rcases yF_.1 hx with rfl|hx
     .exact⟨hs,ht⟩
     .exact h.rng x (by rw[hgq];simp[hx])
   have hds2:Ds (g::ins s b.queue):=List.pairwise_cons.2 ⟨fun x hx=>by
    rcases yF_.1 hx with rfl|hx
    .exact hn g (by simp)
    .exact d1 x hx,qb_ d2 hnq⟩
   simp only
   split
   .exact⟨by simp,by simp,fun _=>lj_ _ _,hmem,hds2,u4_ h.asc hnq,htm⟩
   .exact⟨by simp,by simp,fun _=>lj_ _ _,hmem,hds2,u4_ h.asc hnq,htm⟩
theorem VOk.back(h:VOk n T b){g:Sp}(hg:b.given=[g])(again:Bool):VOk n T (backV b g again).1:=by
 have hgq:b.given++b.queue=g::b.queue:=by rw[hg];rfl
 have hds:=h.ds
 rw[hgq]at hds
 obtain⟨d1,d2⟩:=List.pairwise_cons.1 hds
 have hnq:∀x∈b.queue,x.s≠g.s:=fun x hx=>(d1 x hx).symm
 have hq:∀x∈(if again then ins g b.queue else b.queue),x.s<n/\x.t<=T:=by
  intro x hx
  cases again
  .exact h.rng x (by rw[hgq];simp at hx;simp[hx])
  .simp only[if_true]at hx
   rcases yF_.1 hx with rfl|hx
   .exact h.rng x (by rw[hgq];simp)
   .exact h.rng x (by rw[hgq];simp[hx])
 have ha:Asc (if again then ins g b.queue else b.queue):=by
  cases again
  .exact h.asc
  .exact u4_ h.asc hnq
 have hd:Ds (if again then ins g b.queue else b.queue):=by
  cases again
  .exact d2
  .exact qb_ d2 hnq
 unfold backV
 split
 .exact⟨by simp,by simp,by simp,by simp,by simp[Ds],by simp[Asc],h.tm⟩
 .next x r e =>
  rw[e]at hq ha hd
  exact⟨by simp,by simp,by simp,hq,hd,(List.pairwise_cons.1 ha).2,h.tm⟩
end
end Go.Proofs.Ytpfjlnmnolbiaaa.QP
namespace Go.Proofs.Ytpfjlnmnolbiaaa
open Go.RowKit Go.Proofs
theorem nu_(s v:Nat):(s&&&2^v≠0)↔s.testBit v=true:=by
 constructor
 .intro h
  obtain⟨i,hi⟩:=Nat.exists_testBit_of_ne_zero h
  rw[Nat.testBit_and,QP.pow_bit]at hi
  simp only[zzg_,zzp_]at hi
  obtain⟨h1,rfl⟩:=hi
  exact h1
 .intro h h0
  have:=congrArg (fun x=>x.testBit v) h0
  simp[Nat.testBit_and,QP.pow_bit,h]at this
theorem nF_{s v:Nat}(hs:s<9223372036854775808)(hv:v<=20):tstA (s:Int) v=s.testBit v:=by
 unfold tstA
 have h2:2^v<=2^20:=yyf_ (by omega) hv
 rw[yS_ s (2^v) hs (by omega),yyt_]
 have:=nu_ s v
 simp only[bne_iff_ne,ne_eq]
 rw[<-this]
 omega
theorem rg_{s n:Nat}(hn:n<=9)(hs:s<2^n):mbU (s:Int) 9=(QP.mem n s).map fun v:Nat=>(v:Int):=by
 have h9:2^n<=2^9:=yyf_ (by omega) hn
 unfold mbU QP.mem
 congr 1
 have e1:(List.range 9).filter (fun v=>tstA (s:Int) v)=(List.range 9).filter fun v=>s.testBit v:=by
  refine List.filter_congr fun v hv=>?_
  have:=List.mem_range.1 hv
  exact nF_ (by omega) (by omega)
 rw[e1]
 have e2:List.range 9=List.range n++(List.range (9-n)).map (n+·):=by
  rw[<-List.range_add,show n+(9-n)=9 by omega]
 rw[e2,List.filter_append]
 have e3:((List.range (9-n)).map (n+·)).filter (fun v=>s.testBit v)=[]:=by
  rw[List.filter_eq_nil_iff]
  intro v hv
  simp only[List.mem_map,List.mem_range]at hv
  obtain⟨a,_,rfl⟩:=hv
  have:s<2^(n+a):=zzk_ hs (yyf_ (by omega) (by omega))
  simp[Nat.testBit_lt_two_pow this]
 rw[e3,List.append_nil]
theorem ru_(a b:Nat)(ha:a<2^64)(hb:b<2^64):a&&&(2^64-1-b)=QP.wo a b:=by
 refine Nat.eq_of_testBit_eq fun i=>?_
 rw[QP.wo_bit,Nat.testBit_and,show 2^64-1-b=2^64-(b+1) by omega,Nat.testBit_two_pow_sub_succ hb]
 by_cases hi:i<64
 .simp[hi]
 .have:a.testBit i=false:=Nat.testBit_lt_two_pow (zzk_ ha (yyf_ (by omega) (by omega)))
  simp[this]
theorem iU_(a b:Nat)(ha:a<2^63):QP.wo a b<2^63:=by
 unfold QP.wo
 exact Nat.xor_lt_two_pow ha (Nat.lt_of_le_of_lt Nat.and_le_left ha)
theorem yd_(a b:Nat)(ha:a<9223372036854775808)(hb:b<9223372036854775808):bits .andNot .i64 (a:Int) (b:Int)=((QP.wo a b:Nat):Int):=by
 have hx:QP.wo a b<2^63:=iU_ a b (by omega)
 show IntKind.i64.wrap ((BitVec.ofInt 64 (a:Int)&&&~~~BitVec.ofInt 64 (b:Int)).toNat:Int)=_
 rw[BitVec.toNat_and,BitVec.toNat_not,ofInt_u64 a (by omega),ofInt_u64 b (by omega),ru_ a b (by omega) (by omega),yye_]
 omega
def toSg(x:QP.Sp):Sg:=⟨x.t,x.s⟩
def toBl(b:QP.Bt):Bl:=⟨b.time,b.qu,b.votes,b.fail,b.inqd,toSg b.stamp,b.using',b.given.map toSg,b.queue.map toSg,b.asked⟩
def kdI:QP.Kd->Int
 |.ask=>1|.yes=>2|.fal=>3|.inq=>4|.yld=>5|.rel=>6
def vg_(o:QP.Kd×Nat):Vt:=⟨kdI o.1,o.2,0,0⟩
theorem ua_(a b:QP.Sp):cmpS (toSg a) (toSg b)<0↔a.lt b=true:=by
 obtain⟨at_,as_⟩:=a
 obtain⟨bt,bs⟩:=b
 simp only[cmpS,ordI,toSg,QP.Sp.lt,zzp_]
 by_cases h1:at_<bt
 .simp[h1]
 .by_cases h2:bt<at_
  .have h3:¬at_=bt:=by omega
   simp[h1,h2,h3]
  .have h3:at_=bt:=by omega
   subst h3
   by_cases h4:as_<bs
   .simp[h4]
   .by_cases h5:bs<as_
    .simp[h4,h5]
    .simp[h4,h5]
theorem li_(x:QP.Sp):∀l:List QP.Sp,insS (l.map toSg) (posQ (toSg x) (l.map toSg)) (toSg x)=(QP.ins x l).map toSg
 |[]=>rfl
 | y :: r => by
   have ih:=li_ x r
   simp only[List.map_cons,posQ,QP.ins]
   by_cases h:y.lt x=true
   .rw[if_pos ((ua_ y x).2 h),if_pos h]
    simp only[insS,List.take_succ_cons,List.drop_succ_cons,List.cons_append,List.map_cons]at ih ⊢
    rw[ih]
   .rw[if_neg (fun q=>h ((ua_ y x).1 q)),if_neg h]
    rfl
theorem na_(b:QP.Bt)(x:QP.Sp):(toBl b).enq (toSg x)=toBl { b with queue:=QP.ins x b.queue }:=by
 unfold Bl.enq toBl
 simp only[li_]
def fstQ(x:Sg)(l:List Sg):Bool:=match l with|[]=>true|q::_=>decide (cmpS x q<0)
theorem np_(b:Bl)(x g:Sg)(r:List Sg)(hg:b.given=g::r):askS b x=({ b with time:=if b.time<x.t then x.t else b.time,asked:=b.asked||(fstQ x b.queue&&decide (cmpS x g<0)) }:Bl).enq x:=by
 unfold askS fstQ
 rw[hg]
 simp only
 cases b.queue<;>rfl
theorem nr_(b:Bl)(x g:Sg)(r:List Sg)(hg:b.given=g::r):askM b x=if (fstQ x b.queue&&decide (cmpS x g<0))=true then (match b.queue with|[]=>[]|q::_=>if cmpS q g<0 then [⟨3,q.s,0,0⟩] else [])++(if b.asked then [] else [⟨4,g.s,0,0⟩]) else [⟨3,x.s,0,0⟩]:=by
 unfold askM fstQ
 rw[hg]
 simp only
 cases b.queue<;>rfl
theorem iu_(x:QP.Sp)(l:List QP.Sp):fstQ (toSg x) (l.map toSg)=QP.isFst x l:=by
 cases l with
 |nil=>rfl
 | cons q r =>
   show decide (cmpS (toSg x) (toSg q)<0)=x.lt q
   rw[yyt_,zzp_]
   exact ua_ x q
theorem iJ_(b:QP.Bt)(x:QP.Sp):askS (toBl b) (toSg x)=toBl (QP.askV b x).1/\askM (toBl b) (toSg x)=(QP.askV b x).2.map vg_:=by
 obtain⟨tm,qu,vo,fa,iq,st,us,ak,gv,qq⟩:=b
 have hmax:(if (tm:Int)<(x.t:Int) then (x.t:Int) else (tm:Int))=((max tm x.t:Nat):Int):=by
  split<;>omega
 cases gv with
 | nil =>
   refine⟨?_,rfl⟩
   show ({ toBl ⟨tm,qu,vo,fa,iq,st,us,ak,[],qq⟩ with time:=if (tm:Int)<(x.t:Int) then (x.t:Int) else (tm:Int),given:=[toSg x] }:Bl)=_
   rw[hmax]
   rfl
 | cons g gr =>
   have hlt:decide (cmpS (toSg x) (toSg g)<0)=x.lt g:=by
    rw[yyt_,zzp_]
    exact ua_ x g
   have h1:=np_ (toBl ⟨tm,qu,vo,fa,iq,st,us,ak,g::gr,qq⟩) (toSg x) (toSg g) (gr.map toSg) rfl
   have h2:=nr_ (toBl ⟨tm,qu,vo,fa,iq,st,us,ak,g::gr,qq⟩) (toSg x) (toSg g) (gr.map toSg) rfl
   have hf:fstQ (toSg x) (toBl ⟨tm,qu,vo,fa,iq,st,us,ak,g::gr,qq⟩).queue=QP.isFst x qq:=iu_ x qq
   rw[hf,hlt]at h1 h2
   have hm:(if (toBl ⟨tm,qu,vo,fa,iq,st,us,ak,g::gr,qq⟩).time<(toSg x).t then (toSg x).t else (toBl ⟨tm,qu,vo,fa,iq,st,us,ak,g::gr,qq⟩).time)=((max tm x.t:Nat):Int):=hmax
   rw[hm]at h1
   rw[h1,h2]
   unfold QP.askV
   simp only
   cases hc:(QP.isFst x qq&&x.lt g)
   .refine⟨?_,rfl⟩
    have:=na_ ⟨max tm x.t,qu,vo,fa,iq,st,us,ak,g::gr,qq⟩ x
    simp only[yyi_,if_false]
    rw[<-this]
    simp[toBl]
   .constructor
    .have:=na_ ⟨max tm x.t,qu,vo,fa,iq,st,us,true,g::gr,qq⟩ x
     simp only[if_true]
     rw[<-this]
     simp[toBl]
    .simp only[if_true,List.map_append]
     congr 1
     .cases qq with
      |nil=>rfl
      | cons q r =>
        show (if cmpS (toSg q) (toSg g)<0 then _ else _)=(if q.lt g=true then _ else _:QP.Out).map vg_
        by_cases h:q.lt g=true
        .rw[if_pos ((ua_ q g).2 h),if_pos h];rfl
        .rw[if_neg (fun z=>h ((ua_ q g).1 z)),if_neg h];rfl
     .cases ak<;>rfl
theorem nl_(b:QP.Bt)(g:QP.Sp)(gr:List QP.Sp)(hg:b.given=g::gr)(again:Bool):(yi_ (toBl b) again).next=toBl (QP.backV b g again).1/\w0_ (yi_ (toBl b) again).queue=(QP.backV b g again).2.map vg_:=by
 obtain⟨tm,qu,vo,fa,iq,st,us,ak,gv,qq⟩:=b
 simp only at hg
 subst hg
 have hb:yi_ (toBl ⟨tm,qu,vo,fa,iq,st,us,ak,g::gr,qq⟩) again=toBl ⟨tm,qu,vo,fa,iq,st,us,ak,g::gr,if again then QP.ins g qq else qq⟩:=by
  cases again
  .rfl
  .exact na_ ⟨tm,qu,vo,fa,iq,st,us,ak,g::gr,qq⟩ g
 rw[hb]
 unfold QP.backV
 simp only
 generalize (if again=true then QP.ins g qq else qq)=L
 cases L with
 |nil=>exact⟨rfl,rfl⟩
 |cons x r=>exact⟨rfl,rfl⟩
section
structure Sml(n:Nat)(b:QP.Bt):Prop where
 n9:n<=9
 qu:b.qu<2^n
 votes:b.votes<2^n
 fail:b.fail<2^n
 inqd:b.inqd<2^n
theorem p9{n x:Nat}(h:n<=9)(hx:x<2^n):x<512:=zzk_ hx (yyf_ (by omega) h)
theorem wo_z(a:Nat):QP.wo a 0=a:=by simp[QP.wo]
section
variable{n:Nat}{b:QP.Bt}
theorem rn_(h:Sml n b){k:Nat}(hk:k<2^n):(toBl b).gave (k:Int)=toBl (QP.give n b k).1/\yldO (mbU (k:Int) 9)=(QP.give n b k).2.map vg_:=by
 have h1:=p9 h.n9 h.votes
 have h2:=p9 h.n9 h.fail
 have h3:=p9 h.n9 h.inqd
 have h4:=p9 h.n9 hk
 constructor
 .unfold Bl.gave QP.give toBl
  simp only
  rw[yd_ _ _ (by omega) (by omega),y7_ _ _ (by omega) (by omega),yd_ _ _ (by omega) (by omega)]
 .rw[rg_ h.n9 hk]
  unfold yldO QP.give
  simp only[List.map_map]
  rfl
theorem qf_(h:Sml n b):(toBl b).gave 0=toBl b/\yldO (mbU 0 9)=[]:=by
 obtain⟨h1,h2⟩:=rn_ h (k:=0) (Nat.pos_of_ne_zero (by simp))
 refine⟨?_,?_⟩
 .have e:(QP.give n b 0).1=b:=by unfold QP.give;simp[wo_z]
  rw[e]at h1
  exact h1
 .have e:(QP.give n b 0).2=[]:=by unfold QP.give;simp[QP.mem]
  rw[e]at h2
  exact h2
theorem qw_{i n:Nat}(h:i<n):2^i<2^n:=Nat.pow_lt_pow_right (by omega) h
theorem v4_{s i:Nat}(hs:s<512)(hi:i<=9):(bits .and .i64 (s:Int) ((2^i:Nat):Int)=0)↔s.testBit i=false:=by
 have h2:2^i<=2^9:=yyf_ (by omega) hi
 rw[yS_ s (2^i) (by omega) (by omega)]
 have:=nu_ s i
 cases e:s.testBit i
 .simp only[iff_true]
  rw[e]at this
  have h3:s&&&2^i=0:=by
   by_cases h0:s&&&2^i=0
   .exact h0
   .exact absurd (this.1 h0) (by simp)
  omega
 .simp only[Bool.true_eq_false,iff_false]
  have:=this.2 e
  omega
theorem ih_(h:Sml n b){i:Nat}(hi:i<n):let a:=ansR (toBl b) ((2^i:Nat):Int) 4
 a.1=0/\a.2.1.gave a.2.2=toBl (QP.inqA n b i).1/\yldO (mbU a.2.2 9)=(QP.inqA n b i).2.map vg_:=by
 have hv:=v4_ (p9 h.n9 h.votes) (i:=i) (by have:=h.n9;omega)
 obtain⟨z1,z2⟩:=qf_ h
 have hb:=qw_ hi
 intro a
 have ha:a=ansR (toBl b) ((2^i:Nat):Int) 4:=rfl
 clear_value a
 unfold ansR QP.inqA at *
 rw[if_pos rfl]at ha
 have hvt:(bits .and .i64 (toBl b).votes ((2^i:Nat):Int)=0\/(toBl b).using'=true)↔(b.votes.testBit i=false\/b.using'=true):=or_congr hv Iff.rfl
 by_cases c1:b.votes.testBit i=false\/b.using'=true
 .rw[if_pos (hvt.2 c1)]at ha
  rw[if_pos c1]
  subst ha
  exact⟨rfl,z1,z2⟩
 .rw[if_neg (fun q=>c1 (hvt.1 q))]at ha
  rw[if_neg c1]
  have hft:((toBl b).fail=0)↔b.fail=0:=by show ((b.fail:Int)=0)↔_;omega
  by_cases c2:b.fail=0
  .rw[if_pos (hft.2 c2)]at ha
   rw[if_pos c2]
   subst ha
   have hs:Sml n { b with inqd:=b.inqd|||2^i }:=⟨h.n9,h.qu,h.votes,h.fail,Nat.or_lt_two_pow h.inqd hb⟩
   obtain⟨y1,y2⟩:=qf_ hs
   have e:({ toBl b with inqd:=bits .or .i64 (toBl b).inqd ((2^i:Nat):Int) }:Bl)=toBl { b with inqd:=b.inqd|||2^i }:=by
    have:=p9 h.n9 h.inqd
    have:=p9 h.n9 hb
    unfold toBl
    simp only
    rw[y7_ _ _ (by omega) (by omega)]
   refine⟨rfl,?_,y2⟩
   show Bl.gave _ 0=_
   rw[e]
   exact y1
  .rw[if_neg (fun q=>c2 (hft.1 q))]at ha
   rw[if_neg c2]
   subst ha
   exact⟨rfl,rn_ h hb⟩
theorem ix_(h:Sml n b){i:Nat}(hi:i<n)(hq:b.qu.testBit i=true)(hv:b.votes.testBit i=false):let a:=ansR (toBl b) ((2^i:Nat):Int) 3
 a.1=0/\a.2.1.gave a.2.2=toBl (QP.failA n b i).1/\yldO (mbU a.2.2 9)=(QP.failA n b i).2.map vg_:=by
 have hqt:=v4_ (p9 h.n9 h.qu) (i:=i) (by have:=h.n9;omega)
 have hvt:=v4_ (p9 h.n9 h.votes) (i:=i) (by have:=h.n9;omega)
 have hb:=qw_ hi
 have hs:Sml n { b with fail:=b.fail|||2^i }:=⟨h.n9,h.qu,h.votes,Nat.or_lt_two_pow h.fail hb,h.inqd⟩
 have e:({ toBl b with fail:=bits .or .i64 (toBl b).fail ((2^i:Nat):Int) }:Bl)=toBl { b with fail:=b.fail|||2^i }:=by
  have:=p9 h.n9 h.fail
  have:=p9 h.n9 hb
  unfold toBl
  simp only
  rw[y7_ _ _ (by omega) (by omega)]
 have key:ansR (toBl b) ((2^i:Nat):Int) 3=(0,toBl { b with fail:=b.fail|||2^i },(b.inqd:Int)):=by
  unfold ansR
  rw[if_neg (by omega),if_neg (by
   rintro(q|q)
   .have:=hqt.1 q;rw[hq]at this;cases this
   .exact q (hvt.2 hv)),if_pos rfl,e]
  rfl
 intro a
 show a.1=0/\_
 simp only[a,key]
 exact⟨trivial,rn_ hs h.inqd⟩
theorem jh_(h:Sml n b){i:Nat}(hi:i<n)(hq:b.qu.testBit i=true)(hv:b.votes.testBit i=false):let a:=ansR (toBl b) ((2^i:Nat):Int) 2
 a.1=0/\a.2.1.gave a.2.2=toBl (QP.yesA b i)/\yldO (mbU a.2.2 9)=[]:=by
 have hqt:=v4_ (p9 h.n9 h.qu) (i:=i) (by have:=h.n9;omega)
 have hvt:=v4_ (p9 h.n9 h.votes) (i:=i) (by have:=h.n9;omega)
 have hb:=qw_ hi
 have b1:=p9 h.n9 h.votes
 have b2:=p9 h.n9 h.fail
 have b3:=p9 h.n9 hb
 have hvo:b.votes|||2^i<2^n:=Nat.or_lt_two_pow h.votes hb
 have hfa:QP.wo b.fail (2^i)<2^n:=by
  unfold QP.wo
  exact Nat.xor_lt_two_pow h.fail (Nat.lt_of_le_of_lt Nat.and_le_left h.fail)
 have e1:bits .or .i64 (toBl b).votes ((2^i:Nat):Int)=((b.votes|||2^i:Nat):Int):=y7_ _ _ (by omega) (by omega)
 have e2:bits .andNot .i64 (toBl b).fail ((2^i:Nat):Int)=((QP.wo b.fail (2^i):Nat):Int):=yd_ _ _ (by omega) (by omega)
 have hne:¬(bits .and .i64 (toBl b).qu ((2^i:Nat):Int)=0\/bits .and .i64 (toBl b).votes ((2^i:Nat):Int)≠0):=by
  rintro(q|q)
  .have:=hqt.1 q;rw[hq]at this;cases this
  .exact q (hvt.2 hv)
 by_cases c:b.votes|||2^i=b.qu
 .have hs:Sml n { b with votes:=b.votes|||2^i,fail:=QP.wo b.fail (2^i),using':=true,inqd:=0 }:=⟨h.n9,h.qu,hvo,hfa,Nat.pos_of_ne_zero (by simp)⟩
  have key:ansR (toBl b) ((2^i:Nat):Int) 2=(0,toBl { b with votes:=b.votes|||2^i,fail:=QP.wo b.fail (2^i),using':=true,inqd:=0 },0):=by
   unfold ansR
   rw[if_neg (by omega),if_neg hne,if_neg (by omega),e1,e2,if_pos (by show ((b.votes|||2^i:Nat):Int)=(b.qu:Int);rw[c])]
   rfl
  have ey:QP.yesA b i={ b with votes:=b.votes|||2^i,fail:=QP.wo b.fail (2^i),using':=true,inqd:=0 }:=by unfold QP.yesA;rw[if_pos c]
  intro a
  show a.1=0/\_
  simp only[a,key,ey]
  exact⟨trivial,qf_ hs⟩
 .have hs:Sml n { b with votes:=b.votes|||2^i,fail:=QP.wo b.fail (2^i) }:=⟨h.n9,h.qu,hvo,hfa,h.inqd⟩
  have key:ansR (toBl b) ((2^i:Nat):Int) 2=(0,toBl { b with votes:=b.votes|||2^i,fail:=QP.wo b.fail (2^i) },0):=by
   unfold ansR
   rw[if_neg (by omega),if_neg hne,if_neg (by omega),e1,e2,if_neg (by show ¬((b.votes|||2^i:Nat):Int)=(b.qu:Int);omega)]
   rfl
  have ey:QP.yesA b i={ b with votes:=b.votes|||2^i,fail:=QP.wo b.fail (2^i) }:=by unfold QP.yesA;rw[if_neg c]
  intro a
  show a.1=0/\_
  simp only[a,key,ey]
  exact⟨trivial,qf_ hs⟩
end
end
theorem pF_{a q n:Nat}(h:∀v,a.testBit v=true->q.testBit v=true)(hq:q<2^n):a<2^n:=by
 refine Nat.lt_pow_two_of_testBit a fun i hi=>?_
 cases e:a.testBit i
 .rfl
 .have:=h i e
  rw[Nat.testBit_lt_two_pow (zzk_ hq (yyf_ (by omega) hi))]at this
  cases this
theorem pI_{n:Nat}{Q:List Nat}{i:Nat}{b:QP.Bt}(hm:Md n Q)(h:QP.AOk Q i b):Sml n b:=by
 have hq:b.qu<2^n:=by
  rcases h.qu with e|e
  .rw[e];exact Nat.pos_of_ne_zero (by simp)
  .exact(hm.cot.rng _ e).2
 exact⟨hm.k1.2,hq,pF_ h.vq hq,pF_ h.fq hq,pF_ (fun v hv=>h.vq v (h.iv v hv)) hq⟩
theorem pl_{a b:Nat}(h:∀v,a.testBit v=true->b.testBit v=true):QP.wo a b=0:=by
 refine QP.eq_of_bits fun v=>?_
 rw[QP.wo_bit,Nat.zero_testBit]
 cases e:a.testBit v
 .rfl
 .rw[h v e];rfl
theorem mR_{a b:Nat}(h:∀v,a.testBit v=true->b.testBit v=false):a&&&b=0:=by
 refine QP.eq_of_bits fun v=>?_
 rw[Nat.testBit_and,Nat.zero_testBit]
 cases e:a.testBit v
 .rfl
 .rw[h v e];rfl
theorem j6_{n:Nat}{Q:List Nat}{i:Nat}{b:QP.Bt}(hm:Md n Q)(h:QP.AOk Q i b):aokB (toBl b)=true:=by
 have hs:=pI_ hm h
 have b1:=p9 hs.n9 hs.qu
 have b2:=p9 hs.n9 hs.votes
 have b3:=p9 hs.n9 hs.fail
 have b4:=p9 hs.n9 hs.inqd
 have o1:b.votes|||b.fail<2^9:=Nat.or_lt_two_pow (by omega) (by omega)
 have o2:b.votes|||b.fail|||b.inqd<2^9:=Nat.or_lt_two_pow o1 (by omega)
 unfold aokB toBl
 simp only
 rw[y7_ _ _ (by omega) (by omega),y7_ _ _ (by omega) (by omega),yd_ _ _ (by omega) (by omega),yS_ _ _ (by omega) (by omega),yd_ _ _ (by omega) (by omega)]
 rw[pl_ (a:=b.votes|||b.fail|||b.inqd) (b:=b.qu) (fun v hv=>by
  rw[Nat.testBit_or,Nat.testBit_or,zzy_,zzy_]at hv
  rcases hv with (hv|hv)|hv
  .exact h.vq v hv
  .exact h.fq v hv
  .exact h.vq v (h.iv v hv)),mR_ (a:=b.fail) (b:=b.votes) h.fv,pl_ h.iv]
 rfl
theorem iM_{n:Nat}{Q:List Nat}{i:Nat}{b:QP.Bt}(hm:Md n Q)(h:QP.AOk Q i b):aok (zi Q) i (toBl b)=true:=by
 have hB:=j6_ hm h
 unfold aok
 rw[hB]
 by_cases h0:b.qu=0
 .obtain⟨e1,e2⟩:=h.s0 h0
  have hq:(toBl b).qu=0:=by show (b.qu:Int)=0;omega
  rw[if_pos hq]
  simp[toBl,e1,e2,toSg]
 .have hq:¬(toBl b).qu=0:=by show ¬(b.qu:Int)=0;omega
  rw[if_neg hq]
  obtain⟨e1,e2,e3⟩:=h.s1 h0
  have hmem:(toBl b).qu∈zi Q:=by
   rcases h.qu with e|e
   .exact absurd e h0
   .exact List.mem_map.2 ⟨b.qu,e,rfl⟩
  have hus:b.using'=(((b.votes:Int))==((b.qu:Int))):=by
   rw[yyt_,h.us,beq_iff_eq]
   constructor
   .rintro⟨_,e⟩;rw[e]
   .intro e;exact⟨h0,by omega⟩
  have hui:(!b.using'||((b.inqd:Int)==0))=true:=by
   cases e:b.using'
   .rfl
   .rw[h.ui e];rfl
  simp only[zzg_,zzp_]
  refine⟨⟨⟨⟨⟨⟨hmem,trivial⟩,?_⟩,?_⟩,?_⟩,?_⟩,hui⟩
  .simp[toBl,toSg,e1]
  .show (1:Int)<=(b.stamp.t:Int);omega
  .show (b.stamp.t:Int)<=(b.time:Int);omega
  .show (b.using'==((b.votes:Int)==(b.qu:Int)))=true
   rw[<-hus]
   simp
theorem l4_{n:Nat}(hn:n<=9):∀(L:List QP.Sp) (z:Nat),z<512->(∀x∈L,x.s<n/\x.t<=1073741824)->QP.Ds L->(∀x∈L,z.testBit x.s=false)->(sck n z (L.map toSg)).isSome=true
 |[],z,_,_,_,_=>rfl
 | x :: r, z, hz, hr, hd, hb => by
   obtain⟨h1,h2⟩:=hr x (by simp)
   obtain⟨d1,d2⟩:=List.pairwise_cons.1 hd
   have h3:(2:Nat)^x.s<512:=p9 hn (qw_ h1)
   have hp:prp n (toSg x)=true:=by simp[prp,vtr,toSg];omega
   have hsb:sb (toSg x)=((2^x.s:Nat):Int):=by simp[sb,toSg]
   have ha:=(v4_ hz (i:=x.s) (by omega)).2 (hb x (by simp))
   have ho:z|||2^x.s<2^9:=Nat.or_lt_two_pow (by omega) (by omega)
   simp only[List.map_cons,sck]
   rw[hp,hsb,ha,y7_ _ _ (by omega) (by omega)]
   simp only[bne_self_eq_false,Bool.not_false,Bool.and_self,if_true]
   refine l4_ hn r _ (by omega) (fun y hy=>hr y (by simp[hy])) d2 fun y hy=>?_
   rw[Nat.testBit_or,hb y (by simp[hy]),QP.pow_bit,Bool.false_or]
   simpa using d1 y hy
theorem lA_:∀(L:List QP.Sp),QP.Asc L->ascS (L.map toSg)=true
 |[],_=>rfl
 |[a],_=>rfl
 | a :: b :: r, h => by
   obtain⟨h1,h2⟩:=List.pairwise_cons.1 h
   have:=lA_ (b::r) h2
   simp only[List.map_cons]at this ⊢
   unfold ascS
   rw[this,Bool.and_true,zzp_]
   exact(ua_ a b).2 (h1 b (by simp))
theorem jt_{n T:Nat}{b:QP.Bt}(hn:n<=9)(hT:T<=1073741824)(h:QP.VOk n T b):vok n (toBl b)=true:=by
 have h1:(sck n 0 ((toBl b).given++(toBl b).queue)).isSome=true:=by
  have:=l4_ hn (b.given++b.queue) 0 (by omega) (fun x hx=>⟨(h.rng x hx).1,by have:=(h.rng x hx).2;omega⟩) h.ds (fun x _=>by simp)
  rw[List.map_append]at this
  exact this
 have h2:ascS (toBl b).queue=true:=lA_ _ h.asc
 unfold vok
 rw[h1,h2]
 have g1:(toBl b).given.length<=1:=by simpa[toBl] using h.g1
 have g2:((toBl b).given.isEmpty&&!(toBl b).queue.isEmpty)=false:=by
  cases e:b.given with
  |nil=>have:=h.gq e;simp[toBl,e,this]
  |cons x r=>simp[toBl,e]
 have g3:((toBl b).asked&&(toBl b).queue.isEmpty)=false:=by
  cases e:b.asked
  .simp[toBl,e]
  .have:=h.aq e
   simp[toBl,e,this]
 rw[g2,g3]
 simp[g1]
theorem uS_{n:Nat}{Q:List Nat}{i T:Nat}{b:QP.Bt}(hm:Md n Q)(hi:i<n)(hT:T<=1073741824)(ha:QP.AOk Q i b)(hv:QP.VOk n T b):bOk n (zi Q) i (toBl b)=true:=by
 unfold bOk
 rw[hm.ok,iM_ hm ha,jt_ hm.k1.2 hT hv]
 have h1:vtr (n:Int) (i:Int)=true:=by simp[vtr];omega
 have h2:(0:Int)<=(toBl b).time:=Int.natCast_nonneg _
 have h3:(toBl b).time<=1073741824:=by have:=hv.tm;show ((b.time:Nat):Int)<=_;omega
 simp[h1,h2,h3]
end Go.Proofs.Ytpfjlnmnolbiaaa
namespace Go.Proofs.Ytpfjlnmnolbiaaa.QP
abbrev Ms:=List (Kd×Sp)
def toUp:Kd->Option Up
 |.ask=>some .ask|.yld=>some .yld|.rel=>some .rel|_=>none
def toDn:Kd->Option Dn
 |.yes=>some .yes|.fal=>some .fal|.inq=>some .inq|_=>none
def upM(l:Ms):List Up:=l.filterMap fun m=>toUp m.1
def dnM(l:Ms):List Dn:=l.filterMap fun m=>toDn m.1
theorem vB_(a b:Ms):upM (a++b)=upM a++upM b:=by simp[upM]
theorem u9_(a b:Ms):dnM (a++b)=dnM a++dnM b:=by simp[dnM]
def Rof(b:Bt)(v:Nat):Ra:=if b.qu.testBit v then (if b.votes.testBit v then .h else .w) else .o
def hasS(l:List Sp)(i:Nat):Bool:=l.any fun x=>x.s==i
def Vof(b:Bt)(i:Nat):Va:=if hasS b.given i then .g else if hasS b.queue i then .q else .n
theorem zy_{l:List Sp}{i:Nat}:hasS l i=true↔∃x∈l,x.s=i:=by simp[hasS]
def got(out:Out)(st:Sp)(v:Nat):Ms:=(out.filter fun o=>o.2==v).map fun o=>(o.1,if o.1=.ask then st else ⟨0,0⟩)
def put(M:Nat->Nat->Ms)(j:Nat)(out:Out)(st:Sp)(a v:Nat):Ms:=if a=j then M a v++got out st v else M a v
def pop(M:Nat->Nat->Ms)(i j a v:Nat):Ms:=if a=i/\v=j then (M a v).tail else M a v
def upd1(B:Nat->Bt)(j:Nat)(b:Bt)(a:Nat):Bt:=if a=j then b else B a
structure NInv(n:Nat)(Q:List Nat)(T:Nat)(B:Nat->Bt)(M:Nat->Nat->Ms):Prop where
 sh:∀i v,i<n->v<n->Shape (Rof (B i) v) (Vof (B v) i) (upM (M i v)) (dnM (M v i))
 ao:∀i,i<n->AOk Q i (B i)
 vo:∀i,i<n->VOk n T (B i)
 ms:∀i v,∀m∈M i v,(m.1=.ask->m.2.s=i/\m.2.t<=T)/\(m.1≠.ask->m.2=⟨0,0⟩)
theorem l5_{v:Nat}{p:Nat->Bool}:∀ {n:Nat},((List.range n).filter fun x=>p x&&x==v)=if v<n/\p v=true then [v] else []
 |0=>by simp
 | n + 1 => by
   rw[yyv_,List.filter_append,l5_]
   by_cases h:v=n
   .subst h
    cases e:p v<;>simp[e]
   .have h1:(n==v)=false:=by simpa using fun e:n=v=>h e.symm
    have h2:(v<n+1)↔v<n:=by omega
    simp[h1,h2]
theorem xx_{n s v:Nat}{k:Kd}{st:Sp}(hv:v<n):got ((mem n s).map fun x=>(k,x)) st v=if s.testBit v then [(k,if k=.ask then st else ⟨0,0⟩)] else []:=by
 have e:((mem n s).map fun x=>(k,x)).filter (fun o=>o.2==v)=((mem n s).filter fun x=>x==v).map fun x=>(k,x):=by
  rw[List.filter_map];rfl
 unfold got
 rw[e]
 unfold mem
 rw[List.filter_filter]
 have e2:((List.range n).filter fun x=>x==v&&s.testBit x)=(List.range n).filter fun x=>s.testBit x&&x==v:=by
  congr 1;funext x;exact Bool.and_comm ..
 rw[e2,l5_]
 cases s.testBit v<;>simp[hv]
theorem ip_{out:Out}{st:Sp}{v i T:Nat}(hs:∀o∈out,o.1=.ask->st.s=i/\st.t<=T):∀m∈got out st v,(m.1=.ask->m.2.s=i/\m.2.t<=T)/\(m.1≠.ask->m.2=⟨0,0⟩):=by
 intro m hm
 unfold got at hm
 obtain⟨o,ho,rfl⟩:=List.mem_map.1 hm
 have ho:=(List.mem_filter.1 ho).1
 refine⟨fun e=>?_,fun e=>?_⟩
 .have e:o.1=.ask:=e
  simp only[e,if_true]
  exact hs o ho e
 .have e:o.1≠.ask:=e
  simp[e]
section
variable{n:Nat}{Q:List Nat}{T:Nat}{B:Nat->Bt}{M:Nat->Nat->Ms}
theorem o2_(h:∀i v,∀m∈M i v,(m.1=.ask->m.2.s=i/\m.2.t<=T)/\(m.1≠.ask->m.2=⟨0,0⟩)){j:Nat}{out:Out}{st:Sp}{T':Nat}(ht:T<=T')(hs:∀o∈out,o.1=.ask->st.s=j/\st.t<=T') :
 ∀i v,∀m∈put M j out st i v,(m.1=.ask->m.2.s=i/\m.2.t<=T')/\(m.1≠.ask->m.2=⟨0,0⟩):=by
 intro i v m hm
 have old:∀m∈M i v,(m.1=.ask->m.2.s=i/\m.2.t<=T')/\(m.1≠.ask->m.2=⟨0,0⟩):=fun m hm=>⟨fun e=>⟨((h i v m hm).1 e).1,yyd_ ((h i v m hm).1 e).2 ht⟩,(h i v m hm).2⟩
 unfold put at hm
 split at hm
 .next e =>
  subst e
  rcases zzw_.1 hm with hm|hm
  .exact old m hm
  .exact ip_ hs m hm
 .exact old m hm
theorem la_(h:∀i v,∀m∈M i v,(m.1=.ask->m.2.s=i/\m.2.t<=T)/\(m.1≠.ask->m.2=⟨0,0⟩))(a c:Nat) :
 ∀i v,∀m∈pop M a c i v,(m.1=.ask->m.2.s=i/\m.2.t<=T)/\(m.1≠.ask->m.2=⟨0,0⟩):=by
 intro i v m hm
 unfold pop at hm
 split at hm
 .exact h i v m (List.mem_of_mem_tail hm)
 .exact h i v m hm
theorem NInv.asker{j:Nat}{b:Bt}{s:Nat}{k:Kd}{u:Up}{st:Sp}{T':Nat}(h:NInv n Q T B M)(hj:j<n)(hT:T<=T')(hk:toUp k=some u)(hkd:toDn k=none)
 (hb:b.given=(B j).given/\b.queue=(B j).queue) (ha:AOk Q j b) (hv:VOk n T' b) (hs:k=.ask->st.s=j/\st.t<=T')
 (hr:∀v,v<n->s.testBit v=false->Rof b v=Rof (B j) v)
 (hw:∀v d w,v<n->s.testBit v=true->Shape (Rof (B j) v) w (upM (M j v)) d->Shape (Rof b v) w (upM (M j v)++[u]) d) :
 NInv n Q T' (upd1 B j b) (put M j ((mem n s).map fun v=>(k,v)) st):=by
 have hV:∀v i,Vof (upd1 B j b v) i=Vof (B v) i:=by
  intro v i
  unfold upd1
  split
  .next e=>subst e;unfold Vof;rw[hb.1,hb.2]
  .rfl
 have hdn:∀a v,v<n->dnM (put M j ((mem n s).map fun v=>(k,v)) st a v)=dnM (M a v):=by
  intro a v hvn
  unfold put
  split
  .rw[u9_,xx_ hvn]
   split<;>simp[dnM,hkd]
  .rfl
 refine⟨fun i v hi hvn=>?_,fun i hi=>?_,fun i hi=>?_,o2_ h.ms hT fun o ho e=>?_⟩
 .rw[hV,hdn v i hi]
  have old:=h.sh i v hi hvn
  by_cases e:i=j
  .subst e
   have e1:upd1 B i b i=b:=by simp[upd1]
   have e2:upM (put M i ((mem n s).map fun v=>(k,v)) st i v)=upM (M i v)++(if s.testBit v then [u] else []):=by
    unfold put
    rw[if_pos rfl,vB_,xx_ hvn]
    cases s.testBit v<;>simp[upM,hk]
   rw[e1,e2]
   cases hsv:s.testBit v
   .rw[hr v hvn hsv]
    simpa using old
   .simpa using hw v _ _ hvn hsv old
  .have e1:upd1 B j b i=B i:=by simp[upd1,e]
   have e2:put M j ((mem n s).map fun v=>(k,v)) st i v=M i v:=by simp[put,e]
   rw[e1,e2]
   exact old
 .unfold upd1
  split
  .next e=>subst e;exact ha
  .exact h.ao i hi
 .unfold upd1
  split
  .exact hv
  .exact(h.vo i hi).mono hT
 .obtain⟨v,_,rfl⟩:=List.mem_map.1 ho
  exact hs e
theorem NInv.want{j q:Nat}(h:NInv n Q T B M)(hj:j<n)(h0:(B j).qu=0)(hq:q∈Q)(hq0:q≠0) :
 NInv n Q (T+1) (upd1 B j (wantB n (B j) j q).1) (put M j (wantB n (B j) j q).2 (wantB n (B j) j q).1.stamp):=by
 have hvt:(B j).votes=0:=eq_of_bits fun v=>by
  cases e:(B j).votes.testBit v
  .simp
  .have:=(h.ao j hj).vq v e;rw[h0]at this;simp at this
 have hvo:=h.vo j hj
 refine h.asker (s:=q) (k:=.ask) (u:=.ask) hj (by omega) rfl rfl ⟨rfl,rfl⟩ ((h.ao j hj).want h0 hq hq0) ?_ (fun _=>⟨rfl,?_⟩) (fun v hv hb=>?_) fun v d w hv hb hs=>?_
 .exact⟨hvo.g1,hvo.gq,hvo.aq,fun x hx=>⟨(hvo.rng x hx).1,by have:=(hvo.rng x hx).2;omega⟩,hvo.ds,hvo.asc,by have:=hvo.tm;show (B j).time+1<=T+1;omega⟩
 .have:=hvo.tm;show (B j).time+1<=T+1;omega
 .have e1:Rof (B j) v=.o:=by simp[Rof,h0]
  have e2:Rof (wantB n (B j) j q).1 v=.o:=by simp[Rof,wantB,hb]
  rw[e1,e2]
 .have e1:Rof (B j) v=.o:=by simp[Rof,h0]
  have e2:Rof (wantB n (B j) j q).1 v=.w:=by simp[Rof,wantB,hb,hvt]
  rw[e1]at hs
  rw[e2]
  exact hs.want
theorem NInv.done{j:Nat}(h:NInv n Q T B M)(hj:j<n)(hu:(B j).using'=true) :
 NInv n Q T (upd1 B j (doneB n (B j)).1) (put M j (doneB n (B j)).2 ⟨0,0⟩):=by
 have hvo:=h.vo j hj
 obtain⟨hq0,hvq⟩:=(h.ao j hj).us.1 hu
 refine h.asker (s:=(B j).qu) (k:=.rel) (u:=.rel) hj (zzl_ _) rfl rfl ⟨rfl,rfl⟩ ((h.ao j hj).done hu) ?_ (fun e=>by cases e) (fun v hv hb=>?_) fun v d w hv hb hs=>?_
 .exact⟨hvo.g1,hvo.gq,hvo.aq,hvo.rng,hvo.ds,hvo.asc,hvo.tm⟩
 .have e1:Rof (B j) v=.o:=by simp[Rof,hb]
  have e2:Rof (doneB n (B j)).1 v=.o:=by simp[Rof,doneB]
  rw[e1,e2]
 .have e1:Rof (B j) v=.h:=by simp[Rof,hvq,hb]
  have e2:Rof (doneB n (B j)).1 v=.o:=by simp[Rof,doneB]
  rw[e1]at hs
  rw[e2]
  exact hs.release
end
end Go.Proofs.Ytpfjlnmnolbiaaa.QP
namespace Go.Proofs.Ytpfjlnmnolbiaaa.QP
section
variable{n:Nat}{Q:List Nat}{T:Nat}{B:Nat->Bt}{M:Nat->Nat->Ms}
theorem vA_{i j:Nat}{m:Kd×Sp}{rest:Ms}(hM:M i j=m::rest)(hk:toUp m.1=none)(a v:Nat):upM (pop M i j a v)=upM (M a v):=by
 unfold pop
 split
 .next e =>
  obtain⟨rfl,rfl⟩:=e
  rw[hM];simp[upM,hk]
 .rfl
theorem tm_{i j:Nat}{m:Kd×Sp}{rest:Ms}(hM:M i j=m::rest)(hk:toDn m.1=none)(a v:Nat):dnM (pop M i j a v)=dnM (M a v):=by
 unfold pop
 split
 .next e =>
  obtain⟨rfl,rfl⟩:=e
  rw[hM];simp[dnM,hk]
 .rfl
theorem yH_{i j a v:Nat}(h:¬(a=i/\v=j)):pop M i j a v=M a v:=by simp[pop,h]
theorem yp_{i j:Nat}{m:Kd×Sp}{rest:Ms}(hM:M i j=m::rest):pop M i j i j=rest:=by simp[pop,hM]
theorem NInv.hearA{i j:Nat}{m:Kd×Sp}{rest:Ms}{d0:Dn}{b:Bt}{s:Nat}(h:NInv n Q T B M)(hi:i<n)(hj:j<n)(hM:M i j=m::rest)(hk:toDn m.1=some d0)(hku:toUp m.1=none)
 (hb:b.given=(B j).given/\b.queue=(B j).queue) (ha:AOk Q j b) (hv:VOk n T b)
 (hr:∀v,v<n->v≠i->s.testBit v=false->Rof b v=Rof (B j) v)
 (hw:∀v,v<n->v≠i->s.testBit v=true->Rof (B j) v=.h/\Rof b v=.w)
 (hx:∀w u d,Shape (Rof (B j) i) w u (d0::d)->Shape (Rof b i) w (u++if s.testBit i then [.yld] else []) d) :
 NInv n Q T (upd1 B j b) (put (pop M i j) j ((mem n s).map fun v=>(.yld,v)) ⟨0,0⟩):=by
 have hV:∀v a,Vof (upd1 B j b v) a=Vof (B v) a:=by
  intro v a
  unfold upd1
  split
  .next e=>subst e;unfold Vof;rw[hb.1,hb.2]
  .rfl
 have hdn:∀a v,v<n->dnM (put (pop M i j) j ((mem n s).map fun v=>(.yld,v)) ⟨0,0⟩ a v)=dnM (pop M i j a v):=by
  intro a v hvn
  unfold put
  split
  .rw[u9_,xx_ hvn]
   split<;>simp[dnM,toDn]
  .rfl
 refine⟨fun a v han hvn=>?_,fun a han=>?_,fun a han=>?_,o2_ (la_ h.ms i j) (zzl_ _) fun o ho e=>?_⟩
 .rw[hV,hdn v a han]
  have old:=h.sh a v han hvn
  by_cases ea:a=j
  .subst ea
   have e1:upd1 B a b a=b:=by simp[upd1]
   have e2:upM (put (pop M i a) a ((mem n s).map fun v=>(.yld,v)) ⟨0,0⟩ a v)=upM (M a v)++(if s.testBit v then [.yld] else []):=by
    unfold put
    rw[if_pos rfl,vB_,xx_ hvn,vA_ hM hku]
    cases s.testBit v<;>simp[upM,toUp]
   rw[e1,e2]
   by_cases ev:v=i
   .subst ev
    rw[yp_ hM]
    refine hx _ _ _ ?_
    have:dnM (M v a)=d0::dnM rest:=by rw[hM];simp[dnM,hk]
    rw[this]at old
    exact old
   .rw[yH_ (by intro q;exact ev q.1)]
    cases hsv:s.testBit v
    .rw[hr v hvn ev hsv];simpa using old
    .obtain⟨w1,w2⟩:=hw v hvn ev hsv
     rw[w1]at old
     rw[w2]
     simpa using old.yield
  .have e1:upd1 B j b a=B a:=by simp[upd1,ea]
   have e2:upM (put (pop M i j) j ((mem n s).map fun v=>(.yld,v)) ⟨0,0⟩ a v)=upM (M a v):=by
    unfold put
    rw[if_neg ea,vA_ hM hku]
   rw[e1,e2,yH_ (by intro q;exact ea q.2)]
   exact old
 .unfold upd1
  split
  .next e=>subst e;exact ha
  .exact h.ao a han
 .unfold upd1
  split
  .exact hv
  .exact h.vo a han
 .obtain⟨v,_,rfl⟩:=List.mem_map.1 ho
  cases e
theorem NInv.hearV{i j:Nat}{m:Kd×Sp}{rest:Ms}{u0:Up}{b:Bt}{out:Out}(h:NInv n Q T B M)(hi:i<n)(hj:j<n)(hM:M i j=m::rest)(hk:toUp m.1=some u0)(hkd:toDn m.1=none)
 (hb:b.qu=(B j).qu/\b.votes=(B j).votes) (ha:AOk Q j b) (hv:VOk n T b) (ho:∀o∈out,toUp o.1=none)
 (hx:∀r u d,Shape r (Vof (B j) i) (u0::u) d->Shape r (Vof b i) u (d++dnM (got out ⟨0,0⟩ i)))
 (hy:∀a r u d,a<n->a≠i->Shape r (Vof (B j) a) u d->Shape r (Vof b a) u (d++dnM (got out ⟨0,0⟩ a))) :
 NInv n Q T (upd1 B j b) (put (pop M i j) j out ⟨0,0⟩):=by
 have hR:∀a v,Rof (upd1 B j b a) v=Rof (B a) v:=by
  intro a v
  unfold upd1
  split
  .next e=>subst e;unfold Rof;rw[hb.1,hb.2]
  .rfl
 have hgu:∀a,upM (got out ⟨0,0⟩ a)=[]:=by
  intro a
  unfold upM
  rw[List.filterMap_eq_nil_iff]
  intro x hx
  unfold got at hx
  obtain⟨o,ho',rfl⟩:=List.mem_map.1 hx
  exact ho o (List.mem_filter.1 ho').1
 have hup:∀a v,upM (put (pop M i j) j out ⟨0,0⟩ a v)=upM (pop M i j a v):=by
  intro a v
  unfold put
  split
  .rw[vB_,hgu];simp
  .rfl
 refine⟨fun a v han hvn=>?_,fun a han=>?_,fun a han=>?_,o2_ (la_ h.ms i j) (zzl_ _) fun o ho' e=>?_⟩
 .rw[hR,hup]
  have old:=h.sh a v han hvn
  by_cases ev:v=j
  .subst ev
   have e1:upd1 B v b v=b:=by simp[upd1]
   have e2:dnM (put (pop M i v) v out ⟨0,0⟩ v a)=dnM (M v a)++dnM (got out ⟨0,0⟩ a):=by
    unfold put
    rw[if_pos rfl,u9_,tm_ hM hkd]
   rw[e1,e2]
   by_cases ea:a=i
   .subst ea
    rw[yp_ hM]
    refine hx _ _ _ ?_
    have:upM (M a v)=u0::upM rest:=by rw[hM];simp[upM,hk]
    rw[this]at old
    exact old
   .rw[yH_ (by intro q;exact ea q.1)]
    exact hy a _ _ _ han ea old
  .have e1:upd1 B j b v=B v:=by simp[upd1,ev]
   have e2:dnM (put (pop M i j) j out ⟨0,0⟩ v a)=dnM (M v a):=by
    unfold put
    rw[if_neg ev,tm_ hM hkd]
   rw[e1,e2,yH_ (by intro q;exact ev q.2)]
   exact old
 .unfold upd1
  split
  .next e=>subst e;exact ha
  .exact h.ao a han
 .unfold upd1
  split
  .exact hv
  .exact h.vo a han
 .have:=ho o ho'
  rw[e]at this
  cases this
theorem mem0(n:Nat):mem n 0=[]:=by simp[mem]
theorem vL_(j:Nat)(st:Sp):put M j [] st=M:=by
 funext a v
 unfold put
 split<;>simp[got]
theorem NInv.yes{i j:Nat}{s:Sp}{rest:Ms}(h:NInv n Q T B M)(hi:i<n)(hj:j<n)(hM:M i j=(.yes,s)::rest) :
 ((B j).qu.testBit i=true/\(B j).votes.testBit i=false)/\NInv n Q T (upd1 B j (yesA (B j) i)) (pop M i j):=by
 have old:=h.sh j i hj hi
 have ed:dnM (M i j)=.yes::dnM rest:=by rw[hM];simp[dnM,toDn]
 rw[ed]at old
 have hw:=old.yes.1
 have hq:(B j).qu.testBit i=true/\(B j).votes.testBit i=false:=by
  unfold Rof at hw
  cases e1:(B j).qu.testBit i
  .rw[e1]at hw;simp at hw
  .cases e2:(B j).votes.testBit i
   .exact⟨rfl,rfl⟩
   .rw[e1,e2]at hw;simp at hw
 refine⟨hq,?_⟩
 have hvo:=h.vo j hj
 have hvb:∀v,(yesA (B j) i).votes.testBit v=((B j).votes.testBit v||decide (i=v)):=fun v=>by
  have:(yesA (B j) i).votes=(B j).votes|||2^i:=by unfold yesA;split<;>rfl
  rw[this,Nat.testBit_or,pow_bit]
 have hqb:(yesA (B j) i).qu=(B j).qu:=by unfold yesA;split<;>rfl
 have key:=h.hearA (s:=0) (b:=yesA (B j) i) hi hj hM rfl rfl (by unfold yesA;split<;>exact⟨rfl,rfl⟩) ((h.ao j hj).yes hq.1 hq.2)
  (by unfold yesA;split<;>exact⟨hvo.g1,hvo.gq,hvo.aq,hvo.rng,hvo.ds,hvo.asc,hvo.tm⟩)
  (fun v hv hne _=>by
   unfold Rof
   rw[hqb,hvb v,decide_eq_false (fun e:i=v=>hne e.symm),Bool.or_false])
  (fun v hv hne hs=>by simp at hs)
  (fun w u d hs=>by
   have:Rof (yesA (B j) i) i=.h:=by unfold Rof;rw[hqb,hq.1,hvb i];simp
   rw[this]
   simpa using hs.yes.2)
 rw[mem0]at key
 simp only[List.map_nil]at key
 rwa [vL_]at key
end
end Go.Proofs.Ytpfjlnmnolbiaaa.QP
namespace Go.Proofs.Ytpfjlnmnolbiaaa.QP
section
variable{n:Nat}{Q:List Nat}{T:Nat}{B:Nat->Bt}{M:Nat->Nat->Ms}
theorem jc_{b:Bt}{v:Nat}(h:Rof b v=.w):b.qu.testBit v=true/\b.votes.testBit v=false:=by
 unfold Rof at h
 cases e1:b.qu.testBit v
 .rw[e1]at h;simp at h
 .cases e2:b.votes.testBit v
  .exact⟨rfl,rfl⟩
  .rw[e1,e2]at h;simp at h
theorem NInv.fail{i j:Nat}{s:Sp}{rest:Ms}(h:NInv n Q T B M)(hi:i<n)(hj:j<n)(hM:M i j=(.fal,s)::rest) :
 ((B j).qu.testBit i=true/\(B j).votes.testBit i=false)/\NInv n Q T (upd1 B j (failA n (B j) i).1) (put (pop M i j) j (failA n (B j) i).2 ⟨0,0⟩):=by
 have old:=h.sh j i hj hi
 have ed:dnM (M i j)=.fal::dnM rest:=by rw[hM];simp[dnM,toDn]
 rw[ed]at old
 have hq:=jc_ old.fail.1
 refine⟨hq,?_⟩
 have hvo:=h.vo j hj
 have hao:=h.ao j hj
 have hvb:∀v,(failA n (B j) i).1.votes.testBit v=((B j).votes.testBit v&&!(B j).inqd.testBit v):=fun v=>wo_bit _ _ _
 have hii:(B j).inqd.testBit i=false:=by
  cases e:(B j).inqd.testBit i
  .rfl
  .have:=hao.iv i e;rw[hq.2]at this;cases this
 refine h.hearA (s:=(B j).inqd) hi hj hM rfl rfl ⟨rfl,rfl⟩ (hao.fail hq.1 hq.2) ⟨hvo.g1,hvo.gq,hvo.aq,hvo.rng,hvo.ds,hvo.asc,hvo.tm⟩ (fun v hv hne hs=>?_) (fun v hv hne hs=>?_) fun w u d hs=>?_
 .have e1:(failA n (B j) i).1.qu=(B j).qu:=rfl
  unfold Rof
  rw[e1,hvb,hs]
  simp
 .have e1:(failA n (B j) i).1.qu=(B j).qu:=rfl
  have hvv:=hao.iv v hs
  have hqv:=hao.vq v hvv
  unfold Rof
  rw[e1,hvb,hs,hvv,hqv]
  simp
 .have e1:(failA n (B j) i).1.qu=(B j).qu:=rfl
  have:Rof (failA n (B j) i).1 i=.w:=by
   unfold Rof
   rw[e1,hvb,hq.1,hq.2]
   simp
  rw[this,hii]
  simpa using hs.fail.2
theorem NInv.inq{i j:Nat}{s:Sp}{rest:Ms}(h:NInv n Q T B M)(hi:i<n)(hj:j<n)(hM:M i j=(.inq,s)::rest) :
 NInv n Q T (upd1 B j (inqA n (B j) i).1) (put (pop M i j) j (inqA n (B j) i).2 ⟨0,0⟩):=by
 have hvo:=h.vo j hj
 have hao:=h.ao j hj
 have nothing:∀b:Bt,b.qu=(B j).qu->b.votes=(B j).votes->b.given=(B j).given->b.queue=(B j).queue->AOk Q j b->VOk n T b->NInv n Q T (upd1 B j b) (put (pop M i j) j [] ⟨0,0⟩):=by
  intro b e1 e2 e3 e4 ha hv
  have hR:∀v,Rof b v=Rof (B j) v:=fun v=>by unfold Rof;rw[e1,e2]
  have:=h.hearA (s:=0) (b:=b) hi hj hM rfl rfl ⟨e3,e4⟩ ha hv (fun v _ _ _=>hR v) (fun v _ _ hs=>by simp at hs) (fun w u d hs=>by rw[hR];simpa using hs.inq)
  rw[mem0]at this
  exact this
 have hA:=hao.inq (n:=n) (j:=i)
 unfold inqA at hA ⊢
 split
 .next hc=>rw[if_pos hc]at hA;exact nothing _ rfl rfl rfl rfl hA ⟨hvo.g1,hvo.gq,hvo.aq,hvo.rng,hvo.ds,hvo.asc,hvo.tm⟩
 .next hc =>
  rw[if_neg hc]at hA
  split
  .next hf=>rw[if_pos hf]at hA;exact nothing _ rfl rfl rfl rfl hA ⟨hvo.g1,hvo.gq,hvo.aq,hvo.rng,hvo.ds,hvo.asc,hvo.tm⟩
  .next hf =>
   rw[if_neg hf]at hA
   have hv:(B j).votes.testBit i=true:=by
    cases e:(B j).votes.testBit i
    .exact absurd (.inl e) hc
    .rfl
   have hqv:=hao.vq i hv
   have hvb:∀v,(give n (B j) (2^i)).1.votes.testBit v=((B j).votes.testBit v&&!decide (i=v)):=fun v=>by
    have:(give n (B j) (2^i)).1.votes=wo (B j).votes (2^i):=rfl
    rw[this,wo_bit,pow_bit]
   have e1:(give n (B j) (2^i)).1.qu=(B j).qu:=rfl
   refine h.hearA (s:=2^i) hi hj hM rfl rfl ⟨rfl,rfl⟩ hA ⟨hvo.g1,hvo.gq,hvo.aq,hvo.rng,hvo.ds,hvo.asc,hvo.tm⟩ (fun v hvn hne hs=>?_) (fun v hvn hne hs=>?_) fun w u d hs=>?_
   .unfold Rof
    rw[e1,hvb,decide_eq_false (fun e:i=v=>hne e.symm)]
    simp
   .rw[pow_bit]at hs
    exact absurd (of_decide_eq_true hs).symm hne
   .have r1:Rof (B j) i=.h:=by unfold Rof;rw[hqv,hv];rfl
    have r2:Rof (give n (B j) (2^i)).1 i=.w:=by unfold Rof;rw[e1,hvb,hqv,hv];simp
    rw[r1]at hs
    rw[r2,pow_bit]
    simpa using hs.inq.yield
theorem jb_{b:Bt}{a:Nat}(h:Vof b a=.n):hasS b.given a=false/\hasS b.queue a=false:=by
 unfold Vof at h
 cases e1:hasS b.given a
 .cases e2:hasS b.queue a
  .exact⟨rfl,rfl⟩
  .rw[e1,e2]at h;simp at h
 .rw[e1]at h;simp at h
theorem ll_{l:List Sp}{a:Nat}(h:hasS l a=false):∀x∈l,x.s≠a:=by
 intro x hx e
 have:hasS l a=true:=zy_.2 ⟨x,hx,e⟩
 rw[h]at this;cases this
theorem wy_{s:Sp}{l:List Sp}{a:Nat}:hasS (ins s l) a=(decide (s.s=a)||hasS l a):=by
 rw[yyt_,zzy_,zy_,zy_,zzp_]
 constructor
 .rintro⟨x,hx,e⟩
  rcases yF_.1 hx with rfl|hx
  .exact .inl e
  .exact .inr ⟨x,hx,e⟩
 .rintro(e|⟨x,hx,e⟩)
  .exact⟨s,yF_.2 (.inl rfl),e⟩
  .exact⟨x,yF_.2 (.inr hx),e⟩
theorem wz_{b:Bt}(h:VOk n T b){g:Sp}{r:List Sp}(hg:b.given=g::r):r=[]:=by
 have:=h.g1
 rw[hg]at this
 cases r with
 |nil=>rfl
 |cons _ _=>simp at this
theorem Shape.same{r:Ra}{v:Va}{u:List Up}{d:List Dn}(h:Shape r v u d):Shape r v u (d++dnM []):=by simpa[dnM] using h
theorem NInv.ask{i j:Nat}{s:Sp}{rest:Ms}(h:NInv n Q T B M)(hi:i<n)(hj:j<n)(hM:M i j=(.ask,s)::rest) :
 (s.s=i/\s.t<=T/\∀x∈(B j).given++(B j).queue,x.s≠i)/\NInv n Q T (upd1 B j (askV (B j) s).1) (put (pop M i j) j (askV (B j) s).2 ⟨0,0⟩):=by
 have old:=h.sh i j hi hj
 have ed:upM (M i j)=.ask::upM rest:=by rw[hM];simp[upM,toUp]
 rw[ed]at old
 have hvn:=jb_ old.ask.1
 obtain⟨hs,ht⟩:=(h.ms i j (.ask,s) (by rw[hM];simp)).1 rfl
 have hn:∀x∈(B j).given++(B j).queue,x.s≠i:=by
  intro x hx
  rcases zzw_.1 hx with hx|hx
  .exact ll_ hvn.1 x hx
  .exact ll_ hvn.2 x hx
 have hs:s.s=i:=hs
 have ht:s.t<=T:=ht
 refine⟨⟨hs,ht,hn⟩,?_⟩
 have hvo:=h.vo j hj
 have hao:=h.ao j hj
 have hV':=hvo.ask (s:=s) (by rw[hs];exact hi) ht (by rw[hs];exact hn)
 have hf:(askV (B j) s).1.qu=(B j).qu/\(askV (B j) s).1.votes=(B j).votes/\(askV (B j) s).1.fail=(B j).fail/\(askV (B j) s).1.inqd=(B j).inqd/\(askV (B j) s).1.stamp=(B j).stamp/\(askV (B j) s).1.using'=(B j).using'/\(B j).time<=(askV (B j) s).1.time:=by
  unfold askV
  split
  .exact⟨rfl,rfl,rfl,rfl,rfl,rfl,Nat.le_max_left ..⟩
  .split<;>exact⟨rfl,rfl,rfl,rfl,rfl,rfl,Nat.le_max_left ..⟩
 have hA':AOk Q j (askV (B j) s).1:=by
  obtain⟨f1,f2,f3,f4,f5,f6,f7⟩:=hf
  refine⟨by rw[f1];exact hao.qu,by rw[f1,f2];exact hao.vq,by rw[f1,f3];exact hao.fq,by rw[f2,f3];exact hao.fv,by rw[f2,f4];exact hao.iv,by rw[f1,f5,f6];exact hao.s0,?_,by rw[f1,f2,f6];exact hao.us,by rw[f4,f6];exact hao.ui⟩
  rw[f1,f5]
  intro e
  obtain⟨a1,a2,a3⟩:=hao.s1 e
  exact⟨a1,a2,by omega⟩
 unfold askV at hV' hA' ⊢
 cases hg:(B j).given with
 | nil =>
   have hq:=hvo.gq hg
   simp only[hg]at hV' hA' ⊢
   refine h.hearV (out:=[(.yes,s.s)]) hi hj hM rfl rfl ⟨rfl,rfl⟩ hA' hV' (by simp[toUp]) (fun r u d hs'=>?_) fun a r u d han hne hs'=>?_
   .have v1:Vof (B j) i=.n:=old.ask.1
    rw[v1]at hs'
    obtain⟨_,rfl,rfl,k,_,_⟩:=hs'.ask
    have v2:∀t,Vof { B j with time:=t,given:=[s] } i=.g:=fun t=>by simp[Vof,hasS,hs]
    rw[v2,hs]
    simpa[got,dnM,toDn] using k
   .have v1:Vof (B j) a=.n:=by simp[Vof,hasS,hg,hq]
    have v2:∀t,Vof { B j with time:=t,given:=[s] } a=.n:=fun t=>by
     have:¬s.s=a:=fun e=>hne (by rw[<-e,hs])
     simp[Vof,hasS,hq,this]
    rw[v1]at hs'
    rw[v2]
    have:¬s.s=a:=fun e=>hne (by rw[<-e,hs])
    simpa[got,this,dnM] using hs'
 | cons g r0 =>
   have hr0:=wz_ hvo hg
   subst hr0
   have hgi:g.s≠i:=hn g (by rw[hg];simp)
   have hgq:(B j).given++(B j).queue=g::(B j).queue:=by rw[hg];rfl
   have hds:=hvo.ds
   rw[hgq]at hds
   obtain⟨d1,d2⟩:=List.pairwise_cons.1 hds
   have v1:Vof (B j) i=.n:=old.ask.1
   have vi:∀t ak,Vof { B j with time:=t,asked:=ak,given:=[g],queue:=ins s (B j).queue } i=.q:=fun t ak=>by
    have e1:hasS [g] i=false:=by simp[hasS,hgi]
    simp[Vof,wy_,hs,e1]
   have va:∀t ak a,a≠i->Vof { B j with time:=t,asked:=ak,given:=[g],queue:=ins s (B j).queue } a=Vof (B j) a:=fun t ak a hne=>by
    have e:decide (s.s=a)=false:=decide_eq_false fun e=>hne (by rw[<-e,hs])
    simp only[Vof,wy_,e,Bool.false_or,hg]
   simp only[hg]at hV' hA' ⊢
   split
   .next hc =>
    rw[if_pos hc]at hV' hA'
    refine h.hearV hi hj hM rfl rfl ⟨rfl,rfl⟩ hA' hV' ?_ (fun r u d hs'=>?_) fun a r u d han hne hs'=>?_
    .intro o ho
     rcases zzw_.1 ho with ho|ho
     .unfold falFst at ho
      split at ho
      .simp at ho
      .split at ho
       .simp at ho;rw[ho];rfl
       .simp at ho
     .split at ho
      .simp at ho
      .simp at ho;rw[ho];rfl
    .rw[v1]at hs'
     obtain⟨_,rfl,rfl,_,_,k⟩:=hs'.ask
     show Shape .w (Vof { B j with time:=max (B j).time s.t,asked:=true,given:=[g],queue:=ins s (B j).queue } i) [] _
     rw[vi]
     show Shape .w .q [] (_++dnM (got (falFst g (B j).queue++if (B j).asked=true then [] else [(Kd.inq,g.s)]) ⟨0,0⟩ i))
     have e0:got (falFst g (B j).queue++if (B j).asked=true then [] else [(Kd.inq,g.s)]) ⟨0,0⟩ i=[]:=by
      unfold got
      rw[List.map_eq_nil_iff,List.filter_eq_nil_iff]
      intro o ho
      rcases zzw_.1 ho with ho|ho
      .cases hqq:(B j).queue with
       |nil=>rw[hqq]at ho;simp[falFst]at ho
       | cons x q' =>
         rw[hqq]at ho
         simp only[falFst]at ho
         split at ho
         .simp at ho
          rw[ho]
          have:=hn x (by rw[hgq,hqq];simp)
          simpa using this
         .simp at ho
      .split at ho
       .simp at ho
       .simp at ho;rw[ho];simpa using hgi
     rw[e0]
     exact k.same
    .show Shape r (Vof { B j with time:=max (B j).time s.t,asked:=true,given:=[g],queue:=ins s (B j).queue } a) u (d++dnM (got (falFst g (B j).queue++if (B j).asked=true then [] else [(Kd.inq,g.s)]) ⟨0,0⟩ a))
     rw[va _ _ a hne]
     by_cases hag:a=g.s
     .have vg:Vof (B j) a=.g:=by simp[Vof,hg,hasS,hag]
      have e0:dnM (got (falFst g (B j).queue++if (B j).asked=true then [] else [(Kd.inq,g.s)]) ⟨0,0⟩ a)=if (B j).asked then [] else [.inq]:=by
       have e1:got (falFst g (B j).queue) ⟨0,0⟩ a=[]:=by
        unfold got
        rw[List.map_eq_nil_iff,List.filter_eq_nil_iff]
        intro o ho
        cases hqq:(B j).queue with
        |nil=>rw[hqq]at ho;simp[falFst]at ho
        | cons x q' =>
          rw[hqq]at ho
          simp only[falFst]at ho
          split at ho
          .simp at ho
           rw[ho,hag]
           have:=d1 x (by rw[hqq];simp)
           simpa using fun e:x.s=g.s=>this e.symm
          .simp at ho
       have e2:∀x y:Out,got (x++y) ⟨0,0⟩ a=got x ⟨0,0⟩ a++got y ⟨0,0⟩ a:=fun x y=>by simp[got]
       rw[e2,e1,hag]
       cases (B j).asked<;>simp[got,dnM,toDn]
      rw[e0,vg]
      rw[vg]at hs'
      cases (B j).asked
      .simpa using hs'.inquire
      .simpa using hs'
     .have e2:∀x y:Out,got (x++y) ⟨0,0⟩ a=got x ⟨0,0⟩ a++got y ⟨0,0⟩ a:=fun x y=>by simp[got]
      have e3:got (if (B j).asked=true then [] else [(Kd.inq,g.s)]) ⟨0,0⟩ a=[]:=by
       have:¬g.s=a:=fun e=>hag e.symm
       cases (B j).asked<;>simp[got,this]
      rw[e2,e3,List.append_nil]
      cases hqq:(B j).queue with
      |nil=>simpa[falFst,got,dnM] using hs'
      | cons x q' =>
        simp only[falFst]
        split
        .by_cases hax:x.s=a
         ·have vq:Vof (B j) a=.q:=by
           have:¬g.s=a:=fun e=>hag e.symm
           simp[Vof,hg,hasS,hqq,hax,this]
          rw[vq]at hs' ⊢
          simpa[got,hax,dnM,toDn] using hs'.refuse
         .simpa[got,hax,dnM] using hs'
        .simpa[got,dnM] using hs'
   .next hc =>
    rw[if_neg hc]at hV' hA'
    refine h.hearV hi hj hM rfl rfl ⟨rfl,rfl⟩ hA' hV' (by simp[toUp]) (fun r u d hs'=>?_) fun a r u d han hne hs'=>?_
    .rw[v1]at hs'
     obtain⟨_,rfl,rfl,_,k,_⟩:=hs'.ask
     show Shape .w (Vof { B j with time:=max (B j).time s.t,asked:=(B j).asked,given:=[g],queue:=ins s (B j).queue } i) [] (d++dnM (got [(.fal,s.s)] ⟨0,0⟩ i))
     rw[vi,hs]
     simpa[got,dnM,toDn] using k
    .show Shape r (Vof { B j with time:=max (B j).time s.t,asked:=(B j).asked,given:=[g],queue:=ins s (B j).queue } a) u (d++dnM (got [(.fal,s.s)] ⟨0,0⟩ a))
     rw[va _ _ a hne]
     have hne2:¬s.s=a:=fun e=>hne (by rw[<-e,hs])
     simpa[got,hne2,dnM] using hs'
end
end Go.Proofs.Ytpfjlnmnolbiaaa.QP
namespace Go.Proofs.Ytpfjlnmnolbiaaa.QP
section
variable{n:Nat}{Q:List Nat}{T:Nat}{B:Nat->Bt}{M:Nat->Nat->Ms}
def w1_(b:Bt)(g:Sp)(again:Bool):List Sp:=if again then ins g b.queue else b.queue
def hd(L:List Sp)(a:Nat):Bool:=match L with|[]=>false|x::_=>x.s==a
theorem lx_(b:Bt)(g:Sp)(again:Bool)(a:Nat):Vof (backV b g again).1 a=if hd (w1_ b g again) a then .g else if hasS (w1_ b g again) a then .q else .n:=by
 unfold backV
 show Vof (match w1_ b g again with|[]=>_|x::r=>_:Bt×Out).1 a=_
 cases w1_ b g again with
 |nil=>simp[Vof,hasS,hd]
 | cons x r =>
   cases e:(x.s==a)
   .simp[Vof,hasS,hd,e]
   .simp[Vof,hasS,hd,e]
theorem qy_(b:Bt)(g:Sp)(again:Bool)(a:Nat):dnM (got (backV b g again).2 ⟨0,0⟩ a)=if hd (w1_ b g again) a then [.yes] else []:=by
 unfold backV
 show dnM (got (match w1_ b g again with|[]=>_|x::r=>_:Bt×Out).2 ⟨0,0⟩ a)=_
 cases w1_ b g again with
 |nil=>simp[got,dnM,hd]
 |cons x r=>cases e:(x.s==a)<;>simp[got,dnM,toDn,hd,e]
theorem lk_{L:List Sp}{a:Nat}(h:hd L a=true):hasS L a=true:=by
 cases L with
 |nil=>cases h
 |cons x r=>simp[hd]at h;simp[hasS,h]
theorem NInv.back{i j:Nat}{k:Kd}{s:Sp}{rest:Ms}{again:Bool}(h:NInv n Q T B M)(hi:i<n)(hj:j<n)(hM:M i j=(k,s)::rest)(hk:(k=.yld/\again=true)\/(k=.rel/\again=false)) :
 ∃g,(B j).given=[g]/\g.s=i/\NInv n Q T (upd1 B j (backV (B j) g again).1) (put (pop M i j) j (backV (B j) g again).2 ⟨0,0⟩):=by
 have old:=h.sh i j hi hj
 have hvo:=h.vo j hj
 have hao:=h.ao j hj
 have hVg:Vof (B j) i=.g:=by
  rcases hk with ⟨rfl,_⟩|⟨rfl,_⟩
  .have ed:upM (M i j)=.yld::upM rest:=by rw[hM];simp[upM,toUp]
   rw[ed]at old
   exact old.yld.1
  .have ed:upM (M i j)=.rel::upM rest:=by rw[hM];simp[upM,toUp]
   rw[ed]at old
   exact old.rel.1
 have hgv:hasS (B j).given i=true:=by
  unfold Vof at hVg
  cases e:hasS (B j).given i
  .rw[e]at hVg
   cases e2:hasS (B j).queue i<;>rw[e2]at hVg<;>simp at hVg
  .rfl
 obtain⟨g,hgm,hgs⟩:=zy_.1 hgv
 have hg:(B j).given=[g]:=by
  cases hc:(B j).given with
  |nil=>rw[hc]at hgm;simp at hgm
  | cons x r =>
    have hr:=wz_ hvo hc
    subst hr
    rw[hc]at hgm
    rw[List.mem_singleton.1 hgm]
 refine⟨g,hg,hgs,?_⟩
 have hds:=hvo.ds
 rw[hg]at hds
 obtain⟨d1,d2⟩:=List.pairwise_cons.1 hds
 have hqi:hasS (B j).queue i=false:=by
  cases e:hasS (B j).queue i
  .rfl
  .obtain⟨x,hx,hxs⟩:=zy_.1 e
   exact absurd (hgs.trans hxs.symm) (d1 x hx)
 have hf:(backV (B j) g again).1.qu=(B j).qu/\(backV (B j) g again).1.votes=(B j).votes/\(backV (B j) g again).1.fail=(B j).fail/\(backV (B j) g again).1.inqd=(B j).inqd/\(backV (B j) g again).1.stamp=(B j).stamp/\(backV (B j) g again).1.using'=(B j).using'/\(backV (B j) g again).1.time=(B j).time:=by
  unfold backV
  split<;>exact⟨rfl,rfl,rfl,rfl,rfl,rfl,rfl⟩
 have hA':AOk Q j (backV (B j) g again).1:=by
  obtain⟨f1,f2,f3,f4,f5,f6,f7⟩:=hf
  refine⟨by rw[f1];exact hao.qu,by rw[f1,f2];exact hao.vq,by rw[f1,f3];exact hao.fq,by rw[f2,f3];exact hao.fv,by rw[f2,f4];exact hao.iv,by rw[f1,f5,f6];exact hao.s0,by rw[f1,f5,f7];exact hao.s1,by rw[f1,f2,f6];exact hao.us,by rw[f4,f6];exact hao.ui⟩
 have hbl:∀a,hasS (w1_ (B j) g again) a=((again&&decide (i=a))||hasS (B j).queue a):=fun a=>by
  unfold w1_
  cases again
  .simp
  .simp[wy_,hgs]
 have hko:∀o∈(backV (B j) g again).2,toUp o.1=none:=by
  unfold backV
  split
  .simp
  .simp[toUp]
 have hup:∃u0,toUp k=some u0/\toDn k=none/\∀r u d,Shape r .g (u0::u) d->Shape r (if again then .q else .n) u d:=by
  rcases hk with ⟨rfl,rfl⟩|⟨rfl,rfl⟩
  .exact⟨.yld,rfl,rfl,fun r u d hs=>hs.yld.2⟩
  .exact⟨.rel,rfl,rfl,fun r u d hs=>hs.rel.2⟩
 obtain⟨u0,hu1,hu2,hu3⟩:=hup
 refine h.hearV hi hj hM hu1 hu2 ⟨hf.1,hf.2.1⟩ hA' (hvo.back hg again) hko (fun r u d hs=>?_) fun a r u d han hne hs=>?_
 .rw[hVg]at hs
  have hs:=hu3 r u d hs
  rw[lx_,qy_]
  cases again
  .have h1:hasS (w1_ (B j) g false) i=false:=by rw[hbl,hqi];rfl
   have h2:hd (w1_ (B j) g false) i=false:=by
    cases e:hd (w1_ (B j) g false) i
    .rfl
    .rw[lk_ e]at h1;cases h1
   rw[h1,h2]
   simpa using hs
  .have h1:hasS (w1_ (B j) g true) i=true:=by rw[hbl];simp
   rw[h1]
   cases hd (w1_ (B j) g true) i
   .simpa using hs
   .simpa using hs.promote
 ·have e:Vof (B j) a=if hasS (B j).queue a then .q else .n:=by
   have:hasS (B j).given a=false:=by
    rw[hg]
    have:¬g.s=a:=fun q=>hne (by rw[<-q,hgs])
    simp[hasS,this]
   simp[Vof,this]
  have h1:hasS (w1_ (B j) g again) a=hasS (B j).queue a:=by
   rw[hbl,decide_eq_false (fun q:i=a=>hne q.symm)];simp
  rw[e]at hs
  rw[lx_,qy_,h1]
  cases h2:hd (w1_ (B j) g again) a
  .simpa using hs
  .have:=lk_ h2
   rw[h1]at this
   rw[this]at hs ⊢
   simpa using hs.promote
theorem NInv.alone(h:NInv n Q T B M)(hQ:∀p∈Q,∀q∈Q,∃v,v<n/\p.testBit v=true/\q.testBit v=true){i k:Nat}(hi:i<n)(hk:k<n)(ui:(B i).using'=true)(uk:(B k).using'=true):i=k:=by
 obtain⟨i1,i2⟩:=(h.ao i hi).us.1 ui
 obtain⟨k1,k2⟩:=(h.ao k hk).us.1 uk
 obtain⟨v,hv,b1,b2⟩:=hQ _ ((h.ao i hi).qu.resolve_left i1) _ ((h.ao k hk).qu.resolve_left k1)
 have r1:Rof (B i) v=.h:=by unfold Rof;rw[i2,b1];rfl
 have r2:Rof (B k) v=.h:=by unfold Rof;rw[k2,b2];rfl
 have s1:=h.sh i v hi hv
 have s2:=h.sh k v hk hv
 rw[r1]at s1
 rw[r2]at s2
 have g1:=s1.has
 have g2:=s2.has
 have has:∀a,Vof (B v) a=.g->hasS (B v).given a=true:=fun a e=>by
  unfold Vof at e
  cases e1:hasS (B v).given a
  .rw[e1]at e
   cases e2:hasS (B v).queue a<;>rw[e2]at e<;>simp at e
  .rfl
 obtain⟨x,hx,hxs⟩:=zy_.1 (has i g1)
 obtain⟨y,hy,hys⟩:=zy_.1 (has k g2)
 cases hc:(B v).given with
 |nil=>rw[hc]at hx;simp at hx
 | cons z r =>
   have hr:=wz_ (h.vo v hv) hc
   subst hr
   rw[hc]at hx hy
   rw[<-hxs,<-hys,List.mem_singleton.1 hx,List.mem_singleton.1 hy]
end
theorem NInv.start{n:Nat}{Q:List Nat}:NInv n Q 0 (fun _=>⟨0,0,0,0,0,⟨0,0⟩,false,false,[],[]⟩) (fun _ _=>[]):=by
 refine⟨fun i v _ _=>?_,fun i _=>?_,fun i _=>?_,fun i v m hm=>by simp at hm⟩
 .have e1:Rof ⟨0,0,0,0,0,⟨0,0⟩,false,false,[],[]⟩ v=.o:=by simp[Rof]
  have e2:Vof ⟨0,0,0,0,0,⟨0,0⟩,false,false,[],[]⟩ i=.n:=by simp[Vof,hasS]
  rw[e1,e2]
  exact .n0 OI.nil
 .exact⟨.inl rfl,by simp,by simp,by simp,by simp,fun _=>⟨rfl,rfl⟩,fun e=>absurd rfl e,by simp,fun _=>rfl⟩
 .exact⟨by simp,by simp,by simp,by simp,by simp[Ds],by simp[Asc],zzl_ _⟩
end Go.Proofs.Ytpfjlnmnolbiaaa.QP
namespace Go.Proofs.Ytpfjlnmnolbiaaa
open Go.RowKit Go.Proofs
def toVt(v:Nat)(m:QP.Kd×QP.Sp):Vt:=⟨kdI m.1,v,m.2.t,m.2.s⟩
def toMs(M:Nat->Nat->QP.Ms)(a v:Nat):List Vt:=(M a v).map (toVt v)
def x5_(st:QP.Sp)(o:QP.Kd×Nat):Vt:=if o.1=.ask then ⟨1,o.2,st.t,st.s⟩ else vg_ o
theorem o1_(M:Nat->Nat->QP.Ms)(j:Nat)(out:QP.Out)(st:QP.Sp):yz_ (toMs M) j (out.map (x5_ st))=toMs (QP.put M j out st):=by
 funext a v
 unfold yz_ toMs QP.put QP.got
 by_cases ha:a=j
 .rw[if_pos ha,if_pos ha,List.map_append]
  congr 1
  induction out with
  |nil=>rfl
  | cons o r ih =>
    have hto:(x5_ st o).to=(o.2:Int):=by unfold x5_ vg_;split<;>rfl
    rw[List.map_cons,List.filter_cons,List.filter_cons,hto]
    by_cases hv:o.2=v
    .have e1:((o.2:Int)==(v:Int))=true:=by simp[hv]
     have e2:(o.2==v)=true:=by simp[hv]
     rw[e1,e2,if_pos rfl,if_pos rfl,List.map_cons,List.map_cons,<-ih]
     congr 1
     unfold x5_ toVt vg_
     split
     .next hk=>simp only[hk,if_true,kdI,hv]
     .next hk=>simp only[hk,if_false,hv];rfl
    .have e1:((o.2:Int)==(v:Int))=false:=by simp;omega
     have e2:(o.2==v)=false:=by simpa using hv
     rw[e1,e2]
     simp only[yyi_,if_false]
     exact ih
 .rw[if_neg ha,if_neg ha]
theorem jT_(M:Nat->Nat->QP.Ms)(i j:Nat):toMs (QP.pop M i j)=updM (toMs M) i j (toMs M i j).tail:=by
 funext a v
 unfold toMs QP.pop updM
 by_cases h:a=i/\v=j
 .rw[if_pos h,if_pos h,h.1,h.2]
  cases M i j<;>rfl
 .rw[if_neg h,if_neg h]
theorem nout{out:QP.Out}(h:∀o∈out,o.1≠.ask)(st:QP.Sp):out.map (x5_ st)=out.map vg_:=by
 refine List.map_congr_left fun o ho=>?_
 unfold x5_
 rw[if_neg (h o ho)]
theorem mQ_(b:QP.Bt)(s:QP.Sp):∀o∈(QP.askV b s).2,o.1≠.ask:=by
 intro o ho
 unfold QP.askV at ho
 split at ho
 .simp at ho
  subst ho
  intro q;cases q
 .next g r hg =>
  split at ho
  .rcases zzw_.1 ho with ho|ho
   .unfold QP.falFst at ho
    split at ho
    .simp at ho
    .split at ho
     .simp at ho
      subst ho
      intro q;cases q
     .simp at ho
   .split at ho
    .simp at ho
    .simp at ho
     subst ho
     intro q;cases q
  .simp at ho
   subst ho
   intro q;cases q
theorem sE_(b:QP.Bt)(g:QP.Sp)(again:Bool):∀o∈(QP.backV b g again).2,o.1≠.ask:=by
 intro o ho
 unfold QP.backV at ho
 split at ho
 .simp at ho
 .simp at ho
  subst ho
  intro q;cases q
theorem lO_{n:Nat}{out:QP.Out}(h:∀o∈out,o.2<n)(st:QP.Sp):∀m∈out.map (x5_ st),0<=m.to/\m.to<(n:Int):=by
 intro m hm
 obtain⟨o,ho,rfl⟩:=List.mem_map.1 hm
 have:=h o ho
 have e:(x5_ st o).to=(o.2:Int):=by unfold x5_ vg_;split<;>rfl
 rw[e]
 omega
namespace QP
def hearQ(n:Nat)(b:Bt)(i:Nat)(m:Kd×Sp):Bt×Out :=
 match m.1 with
 |.ask=>askV b m.2
 |.yes=>(yesA b i,[])
 |.fal=>failA n b i
 |.inq=>inqA n b i
 |.yld=>match b.given with|[]=>(b,[])|g::_=>backV b g true
 |.rel=>match b.given with|[]=>(b,[])|g::_=>backV b g false
inductive Stp(n:Nat)(Q:List Nat)(B:Nat->Bt)(M:Nat->Nat->Ms):(Nat->Bt)->(Nat->Nat->Ms)->Prop
 |idle:Stp n Q B M B M
 |want {j q:Nat} (hj:j<n) (h0:(B j).qu=0) (hq:q∈Q):Stp n Q B M (upd1 B j (wantB n (B j) j q).1) (put M j (wantB n (B j) j q).2 (wantB n (B j) j q).1.stamp)
 |done {j:Nat} (hj:j<n) (hu:(B j).using'=true):Stp n Q B M (upd1 B j (doneB n (B j)).1) (put M j (doneB n (B j)).2 ⟨0,0⟩)
 |hear {i j:Nat} {m:Kd×Sp} {rest:Ms} (hi:i<n) (hj:j<n) (hM:M i j=m::rest):Stp n Q B M (upd1 B j (hearQ n (B j) i m).1) (put (pop M i j) j (hearQ n (B j) i m).2 ⟨0,0⟩)
theorem NInv.mono{n:Nat}{Q:List Nat}{T T':Nat}{B:Nat->Bt}{M:Nat->Nat->Ms}(h:NInv n Q T B M)(hT:T<=T'):NInv n Q T' B M :=
 ⟨h.sh,h.ao,fun i hi=>(h.vo i hi).mono hT,fun i v m hm=>⟨fun e=>⟨((h.ms i v m hm).1 e).1,yyd_ ((h.ms i v m hm).1 e).2 hT⟩,(h.ms i v m hm).2⟩⟩
theorem NInv.hear{n:Nat}{Q:List Nat}{T:Nat}{B:Nat->Bt}{M:Nat->Nat->Ms}(h:NInv n Q T B M){i j:Nat}{m:Kd×Sp}{rest:Ms}(hi:i<n)(hj:j<n)(hM:M i j=m::rest) :
 NInv n Q T (upd1 B j (hearQ n (B j) i m).1) (put (pop M i j) j (hearQ n (B j) i m).2 ⟨0,0⟩):=by
 obtain⟨k,s⟩:=m
 cases k with
 |ask=>exact(h.ask hi hj hM).2
 | yes =>
   show NInv n Q T (upd1 B j (yesA (B j) i)) (put (pop M i j) j [] ⟨0,0⟩)
   rw[vL_]
   exact(h.yes hi hj hM).2
 |fal=>exact(h.fail hi hj hM).2
 |inq=>exact h.inq hi hj hM
 | yld =>
   obtain⟨g,h1,h2,h3⟩:=h.back (again:=true) hi hj hM (.inl ⟨rfl,rfl⟩)
   have e:hearQ n (B j) i (.yld,s)=backV (B j) g true:=by unfold hearQ;simp only[h1]
   rw[e];exact h3
 | rel =>
   obtain⟨g,h1,h2,h3⟩:=h.back (again:=false) hi hj hM (.inr ⟨rfl,rfl⟩)
   have e:hearQ n (B j) i (.rel,s)=backV (B j) g false:=by unfold hearQ;simp only[h1]
   rw[e];exact h3
theorem NInv.stp{n:Nat}{Q:List Nat}{T:Nat}{B B':Nat->Bt}{M M':Nat->Nat->Ms}(h:NInv n Q T B M)(hs:Stp n Q B M B' M')(h0:∀q∈Q,q≠0):NInv n Q (T+1) B' M':=by
 cases hs with
 |idle=>exact h.mono (Nat.le_succ _)
 |want hj h0' hq=>exact h.want hj h0' hq (h0 _ hq)
 |done hj hu=>exact(h.done hj hu).mono (Nat.le_succ _)
 |hear hi hj hM=>exact(h.hear hi hj hM).mono (Nat.le_succ _)
structure OutOk(n:Nat)(out:Out):Prop where
 to:∀o∈out,o.2<n
 len:out.length<=n+2
theorem ku_(n s:Nat):(mem n s).length<=n:=by
 unfold mem
 have:=List.length_filter_le (fun v=>s.testBit v) (List.range n)
 simpa using this
theorem mem_out(n s:Nat)(k:Kd):OutOk n ((mem n s).map fun v=>(k,v)) :=
 ⟨fun o ho=>by
  obtain⟨v,hv,rfl⟩:=List.mem_map.1 ho
  exact(kt_.1 hv).1,by rw[List.length_map];have:=ku_ n s;omega⟩
theorem OutOk.nil(n:Nat):OutOk n []:=⟨fun o ho=>by simp at ho,by simp⟩
theorem NInv.outs{n:Nat}{Q:List Nat}{T:Nat}{B:Nat->Bt}{M:Nat->Nat->Ms}(h:NInv n Q T B M){i j:Nat}{m:Kd×Sp}{rest:Ms}(hi:i<n)(hj:j<n)(hM:M i j=m::rest):OutOk n (hearQ n (B j) i m).2:=by
 obtain⟨k,s⟩:=m
 have hr:=(h.vo j hj).rng
 cases k with
 | ask =>
   obtain⟨h1,h2,h3⟩:=(h.ask hi hj hM).1
   show OutOk n (askV (B j) s).2
   have hs:s.s<n:=by omega
   unfold askV
   split
   .exact⟨fun o ho=>by simp at ho;rw[ho];exact hs,by simp⟩
   .next g r hg =>
    have hgs:g.s<n:=(hr g (by rw[hg];simp)).1
    split
    .refine⟨fun o ho=>?_,?_⟩
     .rcases zzw_.1 ho with ho|ho
      .unfold falFst at ho
       split at ho
       .simp at ho
       .next x r' hx =>
        have:=(hr x (by rw[hx];simp)).1
        split at ho
        .simp at ho;rw[ho];exact this
        .simp at ho
      .split at ho
       .simp at ho
       .simp at ho;rw[ho];exact hgs
     ·have h1:(falFst g (B j).queue).length≤1:=by
       unfold falFst
       split
       .simp
       .split<;>simp
      rw[zzr_]
      split<;>simp<;>omega
    .exact⟨fun o ho=>by simp at ho;rw[ho];exact hs,by simp⟩
 |yes=>exact .nil n
 |fal=>exact mem_out n _ _
 | inq =>
   show OutOk n (inqA n (B j) i).2
   unfold inqA
   split
   .exact .nil n
   .split
    .exact .nil n
    .exact mem_out n _ _
 | yld =>
   obtain⟨g,h1,h2,h3⟩:=h.back (again:=true) hi hj hM (.inl ⟨rfl,rfl⟩)
   have e:hearQ n (B j) i (.yld,s)=backV (B j) g true:=by unfold hearQ;simp only[h1]
   rw[e]
   have hgs:g.s<n:=by omega
   unfold backV
   split
   .exact .nil n
   .next x r hx =>
    refine⟨fun o ho=>?_,by simp⟩
    simp at ho
    rw[ho]
    have hx':x∈ins g (B j).queue:=by rw[if_pos rfl]at hx;rw[hx];simp
    rcases yF_.1 hx' with rfl|hx'
    .exact hgs
    .exact(hr x (by simp[hx'])).1
 | rel =>
   obtain⟨g,h1,h2,h3⟩:=h.back (again:=false) hi hj hM (.inr ⟨rfl,rfl⟩)
   have e:hearQ n (B j) i (.rel,s)=backV (B j) g false:=by unfold hearQ;simp only[h1]
   rw[e]
   unfold backV
   split
   .exact .nil n
   .next x r hx =>
    refine⟨fun o ho=>?_,by simp⟩
    simp at ho
    rw[ho]
    have hx':x∈(B j).queue:=by simp at hx;rw[hx];simp
    exact(hr x (by simp[hx'])).1
theorem kK_(out:Out)(st:Sp)(v:Nat):(got out st v).length<=out.length:=by
 unfold got
 rw[List.length_map]
 exact List.length_filter_le ..
theorem r6_{M:Nat->Nat->Ms}{j:Nat}{out:Out}{st:Sp}{L c:Nat}(h:∀a b,(M a b).length<=L)(hc:out.length<=c)(a b:Nat):(put M j out st a b).length<=L+c:=by
 unfold put
 split
 .rw[zzr_];have:=h a b;have:=kK_ out st b;omega
 .have:=h a b;omega
theorem Stp.len{n:Nat}{Q:List Nat}{T:Nat}{B B':Nat->Bt}{M M':Nat->Nat->Ms}(h:NInv n Q T B M)(hs:Stp n Q B M B' M'){L:Nat}(hL:∀a b,(M a b).length<=L)(a b:Nat):(M' a b).length<=L+(n+2):=by
 cases hs with
 |idle=>have:=hL a b;omega
 |want hj h0' hq=>exact r6_ hL (mem_out n _ _).len a b
 |done hj hu=>exact r6_ hL (mem_out n _ _).len a b
 | hear hi hj hM =>
   refine r6_ (fun a b=>?_) (h.outs hi hj hM).len a b
   unfold pop
   split
   .rw[List.length_tail];have:=hL a b;omega
   .exact hL a b
inductive Rch(n:Nat)(Q:List Nat):Nat->(Nat->Bt)->(Nat->Nat->Ms)->Prop
 |start:Rch n Q 0 (fun _=>⟨0,0,0,0,0,⟨0,0⟩,false,false,[],[]⟩) (fun _ _=>[])
 |step {k:Nat} {B B':Nat->Bt} {M M':Nat->Nat->Ms} (h:Rch n Q k B M) (hs:Stp n Q B M B' M'):Rch n Q (k+1) B' M'
theorem Rch.inv{n:Nat}{Q:List Nat}(h0:∀q∈Q,q≠0):∀ {k:Nat} {B:Nat->Bt} {M:Nat->Nat->Ms},Rch n Q k B M->NInv n Q k B M:=by
 intro k B M h
 induction h with
 |start=>exact NInv.start
 |step h hs ih=>exact ih.stp hs h0
theorem Rch.len{n:Nat}{Q:List Nat}(h0:∀q∈Q,q≠0):∀ {k:Nat} {B:Nat->Bt} {M:Nat->Nat->Ms},Rch n Q k B M->∀a b,(M a b).length<=k*(n+2):=by
 intro k B M h
 induction h with
 |start=>intro a b;simp
 | step h hs ih =>
   intro a b
   have:=hs.len (h.inv h0) ih a b
   rw[yyn_,Nat.one_mul]
   exact this
end QP
theorem kG_{n:Nat}{Q:List Nat}{T:Nat}{B:Nat->QP.Bt}{M:Nat->Nat->QP.Ms}(hm:Md n Q)(hT:T<=1073741824)(h:QP.NInv n Q T B M){i j:Nat}(hi:i<n)(hj:j<n){m:QP.Kd×QP.Sp}{rest:QP.Ms}(hM:M i j=m::rest) :
 zB_ n (zi Q) j i (toVt j m) (toBl (B j))=okR (toBl (QP.hearQ n (B j) i m).1) ((QP.hearQ n (B j) i m).2.map vg_)/\∀o∈(QP.hearQ n (B j) i m).2,o.1≠.ask:=by
 obtain⟨k,s⟩:=m
 have hok:=uS_ hm hj hT (h.ao j hj) (h.vo j hj)
 have hv:vtr (n:Int) (i:Int)=true:=by simp[vtr];omega
 have hs:=pI_ hm (h.ao j hj)
 have hms:=h.ms i j (k,s) (by rw[hM];simp)
 have htn:((i:Nat):Int).toNat=i:=by simp
 have head:∀R,(∀(_:True),(if (toVt j (k,s)).k=1 then
  if prp n (toVt j (k,s)).sg=false\/(toVt j (k,s)).ss≠i then errR 1 else if askE (toBl (B j)) (toVt j (k,s)).sg then errR 11 else okR (askS (toBl (B j)) (toVt j (k,s)).sg) (askM (toBl (B j)) (toVt j (k,s)).sg)
  else if (toVt j (k,s)).k<1\/6<(toVt j (k,s)).k\/(toVt j (k,s)).st≠0\/(toVt j (k,s)).ss≠0 then errR 1
  else if (toVt j (k,s)).k=5\/(toVt j (k,s)).k=6 then
   if wi_ (toBl (B j)) i then errR 14 else okR (yi_ (toBl (B j)) ((toVt j (k,s)).k==5)).next (w0_ (yi_ (toBl (B j)) ((toVt j (k,s)).k==5)).queue)
  else if (ansR (toBl (B j)) ((2^i:Nat):Int) (toVt j (k,s)).k).1≠0 then errR (ansR (toBl (B j)) ((2^i:Nat):Int) (toVt j (k,s)).k).1
  else okR ((ansR (toBl (B j)) ((2^i:Nat):Int) (toVt j (k,s)).k).2.1.gave (ansR (toBl (B j)) ((2^i:Nat):Int) (toVt j (k,s)).k).2.2) (yldO (mbU (ansR (toBl (B j)) ((2^i:Nat):Int) (toVt j (k,s)).k).2.2 9)))=R) ->
   zB_ n (zi Q) j i (toVt j (k,s)) (toBl (B j))=R:=by
  intro R hR
  rw[<-hR trivial]
  unfold zB_
  rw[if_neg (by rw[hok];simp),if_neg (by rw[hv];simp),htn]
 have z:k≠.ask->s=⟨0,0⟩:=hms.2
 cases k with
 | ask =>
   obtain⟨⟨h1,h2,h3⟩,h4⟩:=h.ask hi hj hM
   obtain⟨e1,e2⟩:=iJ_ (B j) s
   refine⟨head _ fun _=>?_,?_⟩
   ·have hp:prp n (toVt j (.ask,s)).sg=true:=by
     simp[prp,vtr,toVt,Vt.sg]
     omega
    have hE:askE (toBl (B j)) (toVt j (.ask,s)).sg=false:=by
     have hne:∀x∈(B j).given++(B j).queue,((x.s:Int)==(s.s:Int))=false:=fun x hx=>by
      have:=h3 x hx
      simp;omega
     unfold askE
     rw[Bool.or_eq_false_iff]
     constructor
     .rw[List.any_eq_false]
      intro y hy
      obtain⟨x,hx,rfl⟩:=List.mem_map.1 hy
      have:=hne x (by simp[hx])
      simpa[toVt,Vt.sg,toSg] using this
     .rw[List.any_eq_false]
      intro y hy
      obtain⟨x,hx,rfl⟩:=List.mem_map.1 hy
      have:=hne x (by simp[hx])
      simpa[toVt,Vt.sg,toSg] using this
    rw[if_pos (show (toVt j (QP.Kd.ask,s)).k=1 from rfl),if_neg (by
     rintro(q|q)
     .rw[hp]at q;cases q
     .exact q (by show ((s.s:Nat):Int)=_;rw[h1])),hE]
    show okR (askS (toBl (B j)) (toSg s)) (askM (toBl (B j)) (toSg s))=_
    rw[e1,e2]
    rfl
   .exact mQ_ _ _
 | yes =>
   obtain rfl:=z (by decide)
   obtain⟨⟨h1,h2⟩,h3⟩:=h.yes hi hj hM
   have:=jh_ hs hi h1 h2
   obtain⟨a1,a2,a3⟩:=this
   refine⟨head _ fun _=>?_,by simp[QP.hearQ]⟩
   have e:(toVt j (.yes,(⟨0,0⟩:QP.Sp))).k=2:=rfl
   rw[e,if_neg (by omega),if_neg (by simp[toVt]),if_neg (by omega),if_neg (by simpa using a1),a2,a3]
   rfl
 | fal =>
   obtain rfl:=z (by decide)
   obtain⟨⟨h1,h2⟩,h3⟩:=h.fail hi hj hM
   obtain⟨a1,a2,a3⟩:=ix_ hs hi h1 h2
   refine⟨head _ fun _=>?_,?_⟩
   .have e:(toVt j (.fal,(⟨0,0⟩:QP.Sp))).k=3:=rfl
    rw[e,if_neg (by omega),if_neg (by simp[toVt]),if_neg (by omega),if_neg (by simpa using a1),a2,a3]
    rfl
   .intro o ho
    simp only[QP.hearQ,QP.failA,QP.give,List.mem_map]at ho
    obtain⟨v,_,rfl⟩:=ho
    intro q;cases q
 | inq =>
   obtain rfl:=z (by decide)
   have h3:=h.inq hi hj hM
   obtain⟨a1,a2,a3⟩:=ih_ hs hi
   refine⟨head _ fun _=>?_,?_⟩
   .have e:(toVt j (.inq,(⟨0,0⟩:QP.Sp))).k=4:=rfl
    rw[e,if_neg (by omega),if_neg (by simp[toVt]),if_neg (by omega),if_neg (by simpa using a1),a2,a3]
    rfl
   .intro o ho
    have ho:o∈(QP.inqA n (B j) i).2:=ho
    unfold QP.inqA at ho
    split at ho
    .simp at ho
    .split at ho
     .simp at ho
     .simp only[QP.give,List.mem_map]at ho
      obtain⟨v,_,rfl⟩:=ho
      intro q;cases q
 | yld =>
   obtain rfl:=z (by decide)
   obtain⟨g,h1,h2,h3⟩:=h.back (again:=true) hi hj hM (.inl ⟨rfl,rfl⟩)
   obtain⟨e1,e2⟩:=nl_ (B j) g [] h1 true
   have eQ:QP.hearQ n (B j) i (.yld,⟨0,0⟩)=QP.backV (B j) g true:=by unfold QP.hearQ;simp only[h1]
   rw[eQ]
   refine⟨head _ fun _=>?_,?_⟩
   .have e:(toVt j (.yld,(⟨0,0⟩:QP.Sp))).k=5:=rfl
    have hE:wi_ (toBl (B j)) i=false:=by simp[wi_,toBl,h1,toSg,h2]
    rw[e,if_neg (by omega),if_neg (by simp[toVt]),if_pos (by omega),hE]
    show okR (yi_ (toBl (B j)) true).next (w0_ (yi_ (toBl (B j)) true).queue)=_
    rw[e1,e2]
   .exact sE_ _ _ _
 | rel =>
   obtain rfl:=z (by decide)
   obtain⟨g,h1,h2,h3⟩:=h.back (again:=false) hi hj hM (.inr ⟨rfl,rfl⟩)
   obtain⟨e1,e2⟩:=nl_ (B j) g [] h1 false
   have eQ:QP.hearQ n (B j) i (.rel,⟨0,0⟩)=QP.backV (B j) g false:=by unfold QP.hearQ;simp only[h1]
   rw[eQ]
   refine⟨head _ fun _=>?_,?_⟩
   .have e:(toVt j (.rel,(⟨0,0⟩:QP.Sp))).k=6:=rfl
    have hE:wi_ (toBl (B j)) i=false:=by simp[wi_,toBl,h1,toSg,h2]
    rw[e,if_neg (by omega),if_neg (by simp[toVt]),if_pos (by omega),hE]
    show okR (yi_ (toBl (B j)) false).next (w0_ (yi_ (toBl (B j)) false).queue)=_
    rw[e1,e2]
   .exact sE_ _ _ _
namespace QP
theorem iz_:∀(n:Nat) (l:List Sp),Ds l->(∀x∈l,x.s<n)->l.length<=n:=by
 intro n
 induction n with
 | zero =>
   intro l _ h
   cases l with
   |nil=>simp
   |cons x r=>have:=h x (by simp);omega
 | succ n ih =>
   intro l hd h
   have h1:(l.filter fun x=>decide (x.s<n)).length<=n:=ih _ (List.Pairwise.filter _ hd) fun x hx=>by simpa using(List.mem_filter.1 hx).2
   have h2:(l.filter fun x=>!decide (x.s<n)).length<=1:=by
    have hp:Ds (l.filter fun x=>!decide (x.s<n)):=List.Pairwise.filter _ hd
    have he:∀x∈l.filter fun x=>!decide (x.s<n),x.s=n:=fun x hx=>by
     have h3:=List.mem_filter.1 hx
     have:=h x h3.1
     have:=h3.2
     simp at this
     omega
    revert hp he
    generalize l.filter (fun x=>!decide (x.s<n))=L
    intro hp he
    match L,hp,he with
    |[],_,_=>simp
    |[_],_,_=>simp
    | x :: y :: r, hp, he =>
      have:=(List.pairwise_cons.1 hp).1 y (by simp)
      rw[he x (by simp),he y (by simp)]at this
      exact absurd rfl this
   have h3:∀l:List Sp,l.length=(l.filter fun x=>decide (x.s<n)).length+(l.filter fun x=>!decide (x.s<n)).length:=by
    intro l
    induction l with
    |nil=>rfl
    |cons x r ih=>by_cases e:x.s<n<;>simp[e]<;>omega
   have:=h3 l
   omega
theorem VOk.lens{n T:Nat}{b:Bt}(h:VOk n T b):b.given.length<=1/\b.queue.length<=n:=by
 have:=iz_ n (b.given++b.queue) h.ds fun x hx=>(h.rng x hx).1
 rw[zzr_]at this
 exact⟨h.g1,by omega⟩
end QP
theorem sR_{n T:Nat}{b:QP.Bt}(h:QP.VOk n T b)(hn:n<=9):(toBl b).sm/\(toBl b).given.length<=1000/\(toBl b).queue.length<=1000:=by
 have:=h.lens
 simp only[Bl.sm,toBl,List.length_map]
 omega
theorem lK_{n:Nat}{Q:List Nat}{T:Nat}{B:Nat->QP.Bt}{M:Nat->Nat->QP.Ms}(hm:Md n Q)(hT:T<1073741824)(h:QP.NInv n Q T B M){j q:Nat}(hj:j<n)(h0:(B j).qu=0)(hq:q∈Q) :
 vz_ n (zi Q) j q (toBl (B j)) (askO (toBl (B j)) j (mbU (q:Int) 9))=okR (toBl (QP.wantB n (B j) j q).1) ((QP.wantB n (B j) j q).2.map (x5_ (QP.wantB n (B j) j q).1.stamp)):=by
 have hok:=uS_ hm hj (by omega) (h.ao j hj) (h.vo j hj)
 have hr:=hm.cot.rng q hq
 have htm:=(h.vo j hj).tm
 unfold vz_
 rw[if_neg (by rw[hok];simp),if_neg (by
  intro hc
  exact hc (List.mem_map.2 ⟨q,hq,rfl⟩)),if_neg (by
  intro hc
  apply hc
  show (((B j).qu:Nat):Int)=0
  rw[h0];rfl),if_neg (by
  show ¬(((B j).time:Nat):Int)=1073741824
  omega),rg_ hm.k1.2 hr.2]
 congr 1
 unfold askO QP.wantB
 simp only[List.map_map]
 refine List.map_congr_left fun v _=>?_
 simp only[Function.comp,x5_,if_true]
 rfl
theorem kW_{n:Nat}{Q:List Nat}{T:Nat}{B:Nat->QP.Bt}{M:Nat->Nat->QP.Ms}(hm:Md n Q)(hT:T<=1073741824)(h:QP.NInv n Q T B M){j:Nat}(hj:j<n)(hu:(B j).using'=true) :
 sx_ n (zi Q) j (toBl (B j)) (relO (mbU (toBl (B j)).qu 9))=okR (toBl (QP.doneB n (B j)).1) ((QP.doneB n (B j)).2.map (x5_ ⟨0,0⟩)):=by
 have hok:=uS_ hm hj hT (h.ao j hj) (h.vo j hj)
 have hs:=pI_ hm (h.ao j hj)
 unfold sx_
 rw[if_neg (by rw[hok];simp),if_neg (by
  show ¬(B j).using'=false
  rw[hu];simp)]
 show okR _ (relO (mbU (((B j).qu:Nat):Int) 9))=_
 rw[rg_ hm.k1.2 hs.qu]
 congr 1
 unfold relO QP.doneB
 simp only[List.map_map]
 refine List.map_congr_left fun v _=>?_
 simp only[Function.comp,x5_]
 rw[if_neg (by intro q;cases q)]
 rfl
theorem pA_(B:Nat->QP.Bt)(j:Nat)(b:QP.Bt):updB (fun k=>toBl (B k)) j (toBl b)=fun k=>toBl (QP.upd1 B j b k):=by
 funext k
 unfold updB QP.upd1
 split<;>rfl
section
abbrev PNet(T:Nat->Nat)(g:Gh)(w:World)(X n:Nat)(Q:List Nat)(B:Nat->QP.Bt)(M:Nat->Nat->QP.Ms)(h:Hd):Prop:=Net T g w X n (zi Q) (fun k=>toBl (B k)) (toMs M) h
structure Kp(T:Nat->Nat)(g:Gh)(w:World)(T':Nat->Nat)(g':Gh)(w':World):Prop where
 os:w'.os=w.os
 tape:w'.tape=w.tape
 output:w'.output=w.output
 size:w.heap.size<=w'.heap.size
 fr:∀k,k<w.heap.size->T k=0->T' k=0/\w'.heap[k]?=w.heap[k]?
 same:∀k,k<w.heap.size->g'.I k=g.I k
theorem Kp.refl(T:Nat->Nat)(g:Gh)(w:World):Kp T g w T g w:=⟨rfl,rfl,rfl,zzl_ _,fun _ _ h=>⟨h,rfl⟩,fun _ _=>rfl⟩
theorem Kp.trans{T T1 T2:Nat->Nat}{g g1 g2:Gh}{w w1 w2:World}(h:Kp T g w T1 g1 w1)(h':Kp T1 g1 w1 T2 g2 w2):Kp T g w T2 g2 w2 :=
 ⟨h'.os.trans h.os,h'.tape.trans h.tape,h'.output.trans h.output,yyd_ h.size h'.size,fun k hk h0=>⟨(h'.fr k (zzk_ hk h.size) (h.fr k hk h0).1).1,(h'.fr k (zzk_ hk h.size) (h.fr k hk h0).1).2.trans (h.fr k hk h0).2⟩,fun k hk=>(h'.same k (zzk_ hk h.size)).trans (h.same k hk)⟩
theorem xn_(M:Nat->Nat->QP.Ms)(a b:Nat):(toMs M a b).length=(M a b).length:=by simp[toMs]
theorem tw_(Q:List Nat):(zi Q).length=Q.length:=by simp[zi]
section
variable{T:Nat->Nat}{g:Gh}{w:World}{X n:Nat}{Q:List Nat}{B:Nat->QP.Bt}{M:Nat->Nat->QP.Ms}{h:Hd}{Tm L:Nat}
theorem nc_(hn:PNet T g w X n Q B M h)(hm:Md n Q)(hI:QP.NInv n Q Tm B M)(hT:Tm<=1073741824)(hL:∀a b,(M a b).length<=L)(hL2:L<=99000){i:Nat}(hi:i<n)(hu:(B i).using'=true) :
 Calls Try.prog 11 #[.pointer (some ⟨X,0,none⟩),.int .i64 i] w fun e w'=>∃T' g' h',e=.returned (.bool true)/\PNet T' g' w' X n Q (QP.upd1 B i (QP.doneB n (B i)).1) (QP.put M i (QP.doneB n (B i)).2 ⟨0,0⟩) h'/\Kp T g w T' g' w':=by
 have hI2:=hI.done hi hu
 have n9:=hn.n9
 have ho:=QP.mem_out n (B i).qu .rel
 have he:(QP.doneB n (B i)).2=(QP.mem n (B i).qu).map fun v=>(.rel,v):=rfl
 rw[<-he]at ho
 have h1:=(hI2.ao i hi)
 have h2:=(hI2.vo i hi)
 have e1:QP.upd1 B i (QP.doneB n (B i)).1 i=(QP.doneB n (B i)).1:=by simp[QP.upd1]
 rw[e1]at h1 h2
 have hlen:((QP.doneB n (B i)).2.map (x5_ ⟨0,0⟩)).length<=11:=by rw[List.length_map];have:=ho.len;omega
 refine(p9_ hn hi (b:=toBl (QP.doneB n (B i)).1) (l:=(QP.doneB n (B i)).2.map (x5_ ⟨0,0⟩)) (by rw[tw_];have:=hm.l64;omega) (sR_ (hI.vo i hi) n9).1 (sR_ h2 n9).1 (kW_ hm hT hI hi hu) (lO_ ho.to _) (by omega) (fun a b=>by rw[xn_];have:=hL a b;omega)).mono ?_
 rintro e w' ⟨T',g',h',rfl,hn',q1,q2,q3,q4,q5,q6⟩
 rw[pA_,o1_]at hn'
 exact⟨T',g',h',by rw[uS_ hm hi hT h1 h2],hn',⟨q1,q2,q3,q4,q5,q6⟩⟩
theorem uP_(hn:PNet T g w X n Q B M h)(hm:Md n Q)(hI:QP.NInv n Q Tm B M)(hT:Tm<=1073741824)(hL:∀a b,(M a b).length<=L)(hL2:L<=99000){i j:Nat}(hi:i<n)(hj:j<n){m:QP.Kd×QP.Sp}{rest:QP.Ms}(hM:M i j=m::rest) :
 Calls Try.prog 12 #[.pointer (some ⟨X,0,none⟩),.int .i64 i,.int .i64 j] w fun e w'=>∃T' g' h',e=.returned (.bool true)/\PNet T' g' w' X n Q (QP.upd1 B j (QP.hearQ n (B j) i m).1) (QP.put (QP.pop M i j) j (QP.hearQ n (B j) i m).2 ⟨0,0⟩) h'/\Kp T g w T' g' w':=by
 have hI2:=hI.hear hi hj hM
 have n9:=hn.n9
 have ho:=hI.outs hi hj hM
 have h1:=(hI2.ao j hj)
 have h2:=(hI2.vo j hj)
 have e1:QP.upd1 B j (QP.hearQ n (B j) i m).1 j=(QP.hearQ n (B j) i m).1:=by simp[QP.upd1]
 rw[e1]at h1 h2
 obtain⟨hR,hna⟩:=kG_ hm hT hI hi hj hM
 rw[<-nout hna ⟨0,0⟩]at hR
 have hlen:((QP.hearQ n (B j) i m).2.map (x5_ ⟨0,0⟩)).length<=11:=by rw[List.length_map];have:=ho.len;omega
 have hM':toMs M i j=toVt j m::rest.map (toVt j):=by simp[toMs,hM]
 refine(tn_ hn hi hj hM' (b:=toBl (QP.hearQ n (B j) i m).1) (l:=(QP.hearQ n (B j) i m).2.map (x5_ ⟨0,0⟩)) (by rw[tw_];have:=hm.l64;omega) (sR_ (hI.vo j hj) n9).2.1 (sR_ (hI.vo j hj) n9).2.2 (sR_ h2 n9).1 hR (lO_ ho.to _) (by omega) (fun a b=>by rw[xn_];have:=hL a b;omega)).mono ?_
 rintro e w' ⟨T',g',h',rfl,hn',q1,q2,q3,q4,q5,q6⟩
 have e2:updM (toMs M) i j (rest.map (toVt j))=toMs (QP.pop M i j):=by rw[jT_,hM'];rfl
 rw[pA_,e2,o1_]at hn'
 exact⟨T',g',h',by rw[uS_ hm hj hT h1 h2],hn',⟨q1,q2,q3,q4,q5,q6⟩⟩
end
end
theorem rq_:∀(l:List Int),flat (iv l)=l.map fun x=>.s (.int .i64 x)
 |[]=>rfl
 | x :: r => by
   have:=rq_ r
   simp only[iv,List.map_cons,flat]at this ⊢
   rw[this]
   rfl
theorem ww_{g:Gh}{w:World}{l:List Int}{v:Value}(h:Rep g w (.list 1 (iv l)) v):∃A c,v=.slice A l.length c/\l.length<=c/\c<=maxLen/\∀p (hp:p<l.length),∃b o,A=some ⟨b,o,none⟩/\0<g.I b/\w.cell? ⟨b,o+p,none⟩=some (.int .i64 l[p]):=by
 cases h with
 | list vals hc hm hA hz hi hcell hrep =>
   refine⟨_,_,by rw[iv_length],by rw[iv_length]at hc;exact hc,hm,fun p hp=>?_⟩
   have hj:p<(flat (iv l)).length:=by rw[rq_,List.length_map];exact hp
   obtain⟨b,q,r1,r2,r3⟩:=hcell p hj
   have:=(hrep p (.s (.int .i64 l[p])) (by rw[rq_,zzs_,zzf_ hp];rfl)).of_s rfl
   exact⟨b,q,r1,by omega,by rw[r3,this]⟩
set_option maxHeartbeats 8000000 in
set_option maxRecDepth 100000 in
theorem lU_{T:Nat->Nat}{g:Gh}{w:World}{X n:Nat}{Q:List Nat}{B:Nat->QP.Bt}{M:Nat->Nat->QP.Ms}{h:Hd}{Tm L:Nat}(hn:PNet T g w X n Q B M h)(hm:Md n Q)(hI:QP.NInv n Q Tm B M)(hT:Tm<1073741824)(hL:∀a b,(M a b).length<=L)(hL2:L<=99000){c i j:Nat}(hc:c<8)(hi:i<1000)(hj:j<1000)(hQ:0<Q.length) :
 Calls Try.prog 29 #[.pointer (some ⟨X,0,none⟩),.int .i64 c,.int .i64 i,.int .i64 j] w fun e w'=>∃T' g' h' B' M',e=.returned (.bool true)/\PNet T' g' w' X n Q B' M' h'/\Kp T g w T' g' w'/\QP.Stp n Q B M B' M':=by
 have mx:=zD_
 have n9:=hn.n9
 have n1:=hm.k1.1
 have x2:=hn.x2
 have hbcn:=hn.bcn
 have hn0:¬(n:Int)=0:=by omega
 have hnb:((n:Int)==0)=false:=by simp;omega
 have hri:(i:Int).tmod (n:Int)=((i%n:Nat):Int):=by rw[Int.tmod_eq_emod_of_nonneg (by omega)];rfl
 have hrj:(j:Int).tmod (n:Int)=((j%n:Nat):Int):=by rw[Int.tmod_eq_emod_of_nonneg (by omega)];rfl
 have hI0:i%n<n:=Nat.mod_lt _ (by omega)
 have hJ0:j%n<n:=Nat.mod_lt _ (by omega)
 have hwi:IntKind.i64.wrap ((i%n:Nat):Int)=((i%n:Nat):Int):=by rw[yye_];omega
 have hwj:IntKind.i64.wrap ((j%n:Nat):Int)=((j%n:Nat):Int):=by rw[yye_];omega
 generalize i%n=I at *
 generalize j%n=J at *
 obtain⟨W0,hW⟩:∃W0,W0=w.drew:=⟨_,rfl⟩
 have hnW:PNet T g W0 X n Q B M h:=by
  rw[hW]
  exact hn.grow (zzl_ _) (fun _ _=>rfl) (fun _ _=>rfl) hn.Ilt
 have hK0:Kp T g w T g W0:=by rw[hW];exact⟨rfl,rfl,rfl,zzl_ _,fun _ _ h=>⟨h,rfl⟩,fun _ _=>rfl⟩
 have HN:=Lib.hid hnW
 have HK0:=Lib.hid hK0
 have HI:=Lib.hid hI
 have HL:=Lib.hid hL
 have HM:=Lib.hid hm
 have HW:=Lib.hid hW.symm
 have hiz:(I:Int)<n:=by omega
 have hjz:(J:Int)<n:=by omega
 clear hn hnW hK0 hI hL hm hW
 go_enter Try.func29,Try.ntmps29
 go_wp2
 go_region
 rw[HW.out]
 clear HW x2
 have x2:=HN.out.x2
 have x3:=HN.out.x3
 have m1:=HN.out.m1 hI0
 have m2:=HN.out.m2 hI0 hJ0
 have hmcn:=HN.out.mcn
 have hrcn:=HN.out.rcn I hI0
 have HKf:=Lib.hid (fun T' g' w' (k:Kp T g W0 T' g' w')=>HK0.out.trans k)
 by_cases hc6:(c:Int)<6
 case pos =>
  obtain⟨A,C,hmv⟩:∃A C,h.mv I J=.slice A (M I J).length C:=by
   rcases HN.out.vv I J hI0 hJ0 with ⟨e1,A,e2⟩|⟨k,off,cap,cur,e2,_⟩
   .exact⟨A,0,by rw[e2,<-xn_,e1];rfl⟩
   .exact⟨_,_,by rw[e2,xn_]⟩
  rw[hmv]at m2
  cases hMe:M I J with
  | nil =>
    rw[hMe]at m2
    have hd0:(((([]:QP.Ms).length:Nat):Int)==0)=true:=rfl
    go_wp2
    go_ret
    exact⟨T,g,h,B,M,rfl,HN.out,HK0.out,.idle⟩
  | cons m rest =>
    rw[hMe]at m2
    have hcall:=uP_ HN.out HM.out HI.out (by omega) HL.out hL2 hI0 hJ0 hMe
    have HC:=Lib.hid hcall
    have hst:=QP.Stp.hear (Q:=Q) (B:=B) hI0 hJ0 hMe
    have HS:=Lib.hid hst
    clear hcall hst
    have hll:((((m::rest:QP.Ms).length:Nat):Int)==0)=false:=by rw[List.length_cons];simp;omega
    have hl2:¬(((m::rest:QP.Ms).length:Nat):Int)=0:=by rw[List.length_cons];omega
    generalize (m::rest).length=ml at *
    go_wp2_with ((go_at_call 12
                  refine HC.out.mono ?_
                  rintro e w' ⟨T',g',h',rfl,hn',hk⟩
                  have HR:=Lib.hid (And.intro hn' hk)
                  clear hn' hk))
    all_goals go_wp2
    all_goals go_ret
    all_goals exact⟨T',g',h',_,_,rfl,HR.out.1,HK0.out.trans HR.out.2,HS.out⟩
 case neg =>
  obtain⟨v0,v1,v2,v3,v4,v5,v6,v7,v8,v9,v10,a0,a1,a2,a3,a4,a5,a6,a7,a8,a9,a10,hrv,⟨o0,o1,o2,o3,o4,o5,o6,o7,o8,o9,o10⟩,e7,e1⟩:=HN.out.st hI0
  cases hu:(B I).using' with
  | true =>
    have e7':v7=.bool true:=by rw[e7];show Value.bool (B I).using'=_;rw[hu]
    rw[e7']at a7
    have hcall:=nc_ HN.out HM.out HI.out (by omega) HL.out hL2 hI0 hu
    have HC:=Lib.hid hcall
    have hst:=QP.Stp.done (n:=n) (Q:=Q) (M:=M) hI0 hu
    have HS:=Lib.hid hst
    clear hcall hst e7 e7' e1
    go_wp2_with ((go_at_call 11
                  refine HC.out.mono ?_
                  rintro e w' ⟨T',g',h',rfl,hn',hk⟩
                  have HR:=Lib.hid (And.intro hn' hk)
                  clear hn' hk))
    all_goals go_wp2
    all_goals go_ret
    all_goals exact⟨T',g',h',_,_,rfl,HR.out.1,HK0.out.trans HR.out.2,HS.out⟩
  | false =>
    have e7':v7=.bool false:=by rw[e7];show Value.bool (B I).using'=_;rw[hu]
    rw[e7']at a7
    have e1':v1=.int .i64 ((B I).qu:Nat):=e1
    rw[e1']at a1
    by_cases hq0:(B I).qu=0
    case neg =>
     have hd0:((((B I).qu:Nat):Int)==0)=false:=by simp;omega
     have hd1:¬(((B I).qu:Nat):Int)=0:=by omega
     clear e7 e7' e1 e1'
     go_wp2
     go_ret
     exact⟨rfl,T,g,h,B,M,HN.out,HK0.out,.idle⟩
    case pos =>
     rw[hq0]at a1
     have hq1:((0:Nat):Int)=0:=rfl
     go_wp2
     have hn:=HN.out
     have x0:=hn.x0
     have x1:=hn.x1
     have hbc2:=hn.bcn
     obtain⟨QA,QC,hqv,hqc1,hqc2,hqcell⟩:=ww_ hn.hq
     have hlq:(zi Q).length=Q.length:=tw_ Q
     have hq64:=HM.out.l64
     have hQr:(((I:Int)+(J:Int)).tmod (Q.length:Int))=(((I+J)%Q.length:Nat):Int):=by rw[Int.tmod_eq_emod_of_nonneg (by omega)];rfl
     have hQ0:(I+J)%Q.length<Q.length:=Nat.mod_lt _ (by omega)
     have hwij:IntKind.i64.wrap ((I:Int)+(J:Int))=(I:Int)+(J:Int):=by rw[yye_];omega
     have hwp:IntKind.i64.wrap (((I+J)%Q.length:Nat):Int)=(((I+J)%Q.length:Nat):Int):=by rw[yye_];omega
     have hQn0:¬(Q.length:Int)=0:=by omega
     have hQnb:((Q.length:Int)==0)=false:=by rw[beq_eq_false_iff_ne];omega
     obtain⟨qb,qo,hQA,hqI,hqc⟩:=hqcell ((I+J)%Q.length) (by rw[hlq];exact hQ0)
     have hqe:(zi Q)[(I+J)%Q.length]'(by rw[hlq];exact hQ0)=((Q[(I+J)%Q.length]:Nat):Int):=by simp[zi]
     rw[hqe]at hqc
     have hqm:Q[(I+J)%Q.length]∈Q:=yyp_ _
     clear hqe
     generalize Q[(I+J)%Q.length]=qx at hqc hqm
     clear hqcell
     generalize hpe:(I+J)%Q.length=p at *
     rw[hQA,hlq]at hqv
     rw[hlq]at hqc1
     have hpz:(p:Int)<(Q.length:Int):=by omega
     have hqbl:qb<W0.heap.size:=hn.Ilt qb hqI
     have hR:=lK_ HM.out hT HI.out hI0 hq0 hqm
     have hI2:=HI.out.want (n:=n) hI0 hq0 hqm (by have:=HM.out.cot.rng qx hqm;omega)
     have ho:=QP.mem_out n qx .ask
     have hst:=QP.Stp.want (n:=n) (M:=M) hI0 hq0 hqm
     have hA2:=hI2.ao I hI0
     have hV2:=hI2.vo I hI0
     have e1u:QP.upd1 B I (QP.wantB n (B I) I qx).1 I=(QP.wantB n (B I) I qx).1:=by simp[QP.upd1]
     rw[e1u]at hA2 hV2
     have hoe:(QP.wantB n (B I) I qx).2=(QP.mem n qx).map fun v=>(.ask,v):=rfl
     rw[<-hoe]at ho
     have hbo:bOk n (zi Q) I (toBl (QP.wantB n (B I) I qx).1)=true:=uS_ HM.out hI0 (by omega) hA2 hV2
     have hsm2:=(sR_ hV2 n9).1
     have hput:yz_ (toMs M) I ((QP.wantB n (B I) I qx).2.map (x5_ (QP.wantB n (B I) I qx).1.stamp))=toMs (QP.put M I (QP.wantB n (B I) I qx).2 (QP.wantB n (B I) I qx).1.stamp):=o1_ ..
     have hupd:=pA_ B I (QP.wantB n (B I) I qx).1
     have hlen:((QP.wantB n (B I) I qx).2.map (x5_ (QP.wantB n (B I) I qx).1.stamp)).length<=11:=by rw[List.length_map];have:=ho.len;omega
     have hto:=lO_ ho.to (QP.wantB n (B I) I qx).1.stamp
     have hlM:∀a b,(toMs M a b).length+((QP.wantB n (B I) I qx).2.map (x5_ (QP.wantB n (B I) I qx).1.stamp)).length<=100000:=fun a b=>by rw[xn_];have:=HL.out a b;omega
     generalize toBl (QP.wantB n (B I) I qx).1=b at hR hbo hsm2 hupd
     generalize (QP.wantB n (B I) I qx).2.map (x5_ (QP.wantB n (B I) I qx).1.stamp)=l at hR hput hlen hto hlM
     generalize (QP.wantB n (B I) I qx).1=b1 at hst hput hupd
     generalize (QP.wantB n (B I) I qx).2=l1 at hst hput
     have hcall:∀wx,Below W0.heap.size W0 wx->Calls Try.prog 15 #[.agg #[v0,.int .i64 0,v2,v3,v4,v5,v6,.bool false,v8,v9,v10],.agg #[.int .i64 n,.slice (some ⟨qb,qo,none⟩) Q.length QC],.int .i64 I,.int .i64 qx] wx fun e w'=>∃g' r0 r1 r2 r3 r4 r5 r6 r7 r8 r9 r10 A C,e=.returned (.tuple #[.agg #[r0,r1,r2,r3,r4,r5,r6,r7,r8,r9,r10],.slice A l.length C,.int .i64 0])/\Gv g wx b l w' g' r0 r1 r2 r3 r4 r5 r6 r7 r8 r9 r10 A C:=by
      intro wx hbx
      have hIk:=hn.keepI hbx
      refine(wq_ (nw_ (toBl (B I)) n (zi Q) I qx (by omega) (sR_ (HI.out.vo I hI0) n9).1) (g:=g) (w:=wx) (vals:=#[.agg #[v0,.int .i64 0,v2,v3,v4,v5,v6,.bool false,v8,v9,v10],.agg #[.int .i64 n,.slice (some ⟨qb,qo,none⟩) Q.length QC],.int .i64 I,.int .i64 qx]) rfl ?_ ?_ fun k hk=>zzk_ (hn.Ilt k hk) hbx.size).mono ?_
      .intro x hx
       simp at hx
       rcases hx with rfl|rfl|rfl|rfl<;>rfl
      .intro x u c hu hc
       match x,hu,hc with
       | 0, hu, hc =>
         cases hu
         cases hc
         have:=uf_ hrv hIk
         rw[e7',e1',hq0]at this
         exact this
       | 1, hu, hc =>
         cases hu
         cases hc
         refine .agg rfl (by intro c hc;simp at hc;rcases hc with rfl|rfl<;>rfl) (fun x u c hu hc=>?_)
         match x,hu,hc with
         |0,hu,hc=>cases hu;cases hc;exact .s rfl
         |1,hu,hc=>cases hu;cases hc;exact zr_ (hqv ▸ hn.hq) rfl hIk
       |2,hu,hc=>cases hu;cases hc;exact .s rfl
       |3,hu,hc=>cases hu;cases hc;exact .s rfl
      .rintro e w' ⟨v,r,g',rfl,rfl,hr,hbel,hg,hlt⟩
       rw[hR]at hr
       obtain⟨r0,r1,r2,r3,r4,r5,r6,r7,r8,r9,r10,A,C,rfl,hv⟩:=kH_ hr hbel hg hlt
       exact⟨g',r0,r1,r2,r3,r4,r5,r6,r7,r8,r9,r10,A,C,rfl,hv⟩
     rw[hqv]at x1
     have hB1:Below W0.heap.size W0 W0.drew:=⟨rfl,rfl,rfl,zzl_ _,fun _ _=>rfl⟩
     have hB2:Below W0.heap.size W0 (W0.drew.alloc (.cells #[.int .i64 0,.int .i64 0,.int .i64 0,.int .i64 0,.int .i64 0,.int .i64 0,.int .i64 0,.bool false,.slice none 0 0,.slice none 0 0,.bool false] 39)):=⟨rfl,rfl,rfl,by simp,fun k hk=>Below.heap_alloc W0.drew _ k hk⟩
     have hZ2:(W0.drew.alloc (.cells #[.int .i64 0,.int .i64 0,.int .i64 0,.int .i64 0,.int .i64 0,.int .i64 0,.int .i64 0,.bool false,.slice none 0 0,.slice none 0 0,.bool false] 39)).heap[W0.heap.size]?=some (.cells z39 39 (0,0)):=heap_alloc_new W0.drew (.cells z39 39)
     have hz2:W0.heap.size<(W0.drew.alloc (.cells #[.int .i64 0,.int .i64 0,.int .i64 0,.int .i64 0,.int .i64 0,.int .i64 0,.int .i64 0,.bool false,.slice none 0 0,.slice none 0 0,.bool false] 39)).heap.size:=by simp
     have hXl:X<W0.heap.size:=(hn.tz X (by rw[hn.tag.x];omega)).1
     have hBl:h.bk<W0.heap.size:=(hn.tz _ (by rw[hn.tag.b];omega)).1
     have hS:∀wx,Below W0.heap.size W0 wx->wx.cell? ⟨X,0,none⟩=some (.int .i64 n)/\wx.cell? ⟨X,1,none⟩=some (Value.slice (some ⟨qb,qo,none⟩) Q.length QC)/\wx.cell? ⟨X,2,none⟩=some (.slice (some ⟨h.bk,0,none⟩) n h.bc)/\wx.cell? ⟨h.bk,I*11,none⟩=some v0/\wx.cell? ⟨h.bk,I*11+1,none⟩=some (.int .i64 0)/\wx.cell? ⟨h.bk,I*11+2,none⟩=some v2/\wx.cell? ⟨h.bk,I*11+3,none⟩=some v3/\wx.cell? ⟨h.bk,I*11+4,none⟩=some v4/\wx.cell? ⟨h.bk,I*11+5,none⟩=some v5/\wx.cell? ⟨h.bk,I*11+6,none⟩=some v6/\wx.cell? ⟨h.bk,I*11+7,none⟩=some (.bool false)/\wx.cell? ⟨h.bk,I*11+8,none⟩=some v8/\wx.cell? ⟨h.bk,I*11+9,none⟩=some v9/\wx.cell? ⟨h.bk,I*11+10,none⟩=some v10/\wx.cell? ⟨qb,qo+p,none⟩=some (.int .i64 qx):=fun wx hb=>⟨z1_ hb x0 hXl,z1_ hb x1 hXl,z1_ hb x2 hXl,z1_ hb a0 hBl,z1_ hb a1 hBl,z1_ hb a2 hBl,z1_ hb a3 hBl,z1_ hb a4 hBl,z1_ hb a5 hBl,z1_ hb a6 hBl,z1_ hb a7 hBl,z1_ hb a8 hBl,z1_ hb a9 hBl,z1_ hb a10 hBl,z1_ hb hqc hqbl⟩
     have HS:=Lib.hid hS
     have HC:=Lib.hid hcall
     have HST:=Lib.hid hst
     have HX:=Lib.hid (And.intro hbo (And.intro hsm2 (And.intro hput (And.intro hupd (And.intro hto hlM)))))
     clear hS x0 x1 x2 a0 a1 a2 a3 a4 a5 a6 a7 a8 a9 a10 hn hcall hst hbo hsm2 hput hupd hto hlM hR hrv e7 e7' e1 e1' o0 o1 o2 o3 o4 o5 o6 o7 o8 o9 o10 hqc hQA hI2 ho hA2 hV2 e1u hoe hqv
     generalize hnQ:Q.length=nQ at *
     have HNQ:=Lib.hid hnQ
     clear hnQ
     have hQn1:¬nQ=0:=by omega
     have hQn2:(nQ==0)=false:=by rw[beq_eq_false_iff_ne];omega
     go_region_held3 (fun wx=>wx.cell? ⟨X,0,none⟩=some (.int .i64 n)/\wx.cell? ⟨X,1,none⟩=some (.slice (some ⟨qb,qo,none⟩) nQ QC)/\wx.cell? ⟨X,2,none⟩=some (.slice (some ⟨h.bk,0,none⟩) n h.bc)/\wx.cell? ⟨h.bk,I*11,none⟩=some v0/\wx.cell? ⟨h.bk,I*11+1,none⟩=some (.int .i64 0)/\wx.cell? ⟨h.bk,I*11+2,none⟩=some v2/\wx.cell? ⟨h.bk,I*11+3,none⟩=some v3/\wx.cell? ⟨h.bk,I*11+4,none⟩=some v4/\wx.cell? ⟨h.bk,I*11+5,none⟩=some v5/\wx.cell? ⟨h.bk,I*11+6,none⟩=some v6/\wx.cell? ⟨h.bk,I*11+7,none⟩=some (.bool false)/\wx.cell? ⟨h.bk,I*11+8,none⟩=some v8/\wx.cell? ⟨h.bk,I*11+9,none⟩=some v9/\wx.cell? ⟨h.bk,I*11+10,none⟩=some v10/\wx.cell? ⟨qb,qo+p,none⟩=some (.int .i64 qx))
      ((refine HS.out _ ?_;assumption))
      (first
      | (go_at_call 15
         refine(HC.out _ hB1).mono ?_
         rintro e w' ⟨g',r0,r1,r2,r3,r4,r5,r6,r7,r8,r9,r10,A,C,rfl,hv⟩
         have hB3:=hB1.trans (Below.mono1 hv.below hB1.size)
         obtain⟨y1,y2,y3,y4,y5,y6,y7,y8,y9,y10,W,z0,z1,z2,z3,z4,z5,z6,z7,z8,z9,z10,hW1,hW2,hW3⟩:=nj_ (P:=Try.prog) w' hv.one
         have hB4:Below W0.heap.size W0 (w'.alloc (.cells #[.int .i64 0,.int .i64 0,.int .i64 0,.int .i64 0,.int .i64 0,.int .i64 0,.int .i64 0,.bool false,.slice none 0 0,.slice none 0 0,.bool false] 39)):=hB3.trans (Below.mono1 (yt_ w' _) hB3.size)
         have hB5:Below W0.heap.size W0 W:=hB3.trans (Below.mono1 hW1 hB3.size)
         have HA:=Lib.hid (hv.aft1 HN.out hB1 hW1)
         have HO:=Lib.hid hv.one
         have HW:=Lib.hid (And.intro hB3.size hW3)
         clear hv hW1 hW2 hW3)
      | (go_at_call 15
         refine(HC.out _ hB2).mono ?_
         rintro e w' ⟨g',r0,r1,r2,r3,r4,r5,r6,r7,r8,r9,r10,A,C,rfl,hv⟩
         have hB3:=hB2.trans (Below.mono1 hv.below hB2.size)
         obtain⟨y1,y2,y3,y4,y5,y6,y7,y8,y9,y10,W,z0,z1,z2,z3,z4,z5,z6,z7,z8,z9,z10,hW1,hW2,hW3,hW4,hW5,hW6⟩:=hv.box1 (P:=Try.prog) hZ2
         have HA:=Lib.hid (hv.aft2 HN.out hB2 (zzl_ _) hz2 hW1 hW2 hW3 hW4 hW5)
         have hB5:Below W0.heap.size W0 W:=⟨HA.out.os,HA.out.tape,HA.out.output,HA.out.size,HA.out.fr⟩
         have HO:=Lib.hid hv.one
         have HW:=Lib.hid (And.intro (zzl_ W0.heap.size) hW6)
         clear hv hW1 hW2 hW3 hW4 hW5 hW6))
     all_goals
      obtain⟨q0,q1,q2,q3,q4,q5,q6,q7,q8,q9,q10⟩:=rs_ HW.out.2
      have hcall2:=wM_ HA.out.net hI0 (by have:=HNQ.out;rw[tw_];omega) HX.out.2.1 HA.out.rb HA.out.rl HX.out.2.2.2.2.1 (by omega) HX.out.2.2.2.2.2
      have HC2:=Lib.hid hcall2
      clear hcall2
      go_wp2_with ((go_at_call 31
                    refine HC2.out.mono ?_
                    rintro e w2 ⟨T',g2,h',rfl,hk⟩
                    have HK:=Lib.hid hk
                    clear hk))
      all_goals go_wp2
      all_goals go_ret
      all_goals
       obtain⟨t1,t2,t3,t4,t5,t6,t7⟩:=HK.out
       have ha:=HA.out
       obtain⟨q1,q2,q3,q4,_⟩:=HX.out
       rw[q4,q3]at t1
       have hk2:Kp T g W0 T' g2 w2:=⟨t2.trans ha.os,t3.trans ha.tape,t4.trans ha.output,yyd_ ha.size t5,fun k hk h0=>⟨(t6 k (zzk_ hk ha.size) h0).1,(t6 k (zzk_ hk ha.size) h0).2.trans (ha.fr k hk)⟩,fun k hk=>(t7 k (zzk_ hk ha.size)).trans (ha.same k hk)⟩
       refine⟨T',g2,h',_,_,?_,t1,HK0.out.trans hk2,HST.out⟩
       first|rfl|(simp only[q1];rfl)|(rw[q1];rfl)
end Go.Proofs.Ytpfjlnmnolbiaaa
namespace Go.Proofs.Ytpfjlnmnolbiaaa
open Go Go.Proofs
section
variable{P:Program}{l:List Oper}{n:Nat}{Q:Exit->Act->World->Prop}
end
end Go.Proofs.Ytpfjlnmnolbiaaa
namespace Go.Proofs.Ytpfjlnmnolbiaaa
open Go Go.Proofs
structure Orow where
 v:Value
 e:TypeId
 z:Nat
 n:Nat
 xs:List Value
structure Bs(w0:World)(X:Nat)(O:List Orow)(L:List (Nat×Obj))(w:World):Prop where
 os:w.os=w0.os
 tape:w.tape=w0.tape
 output:w.output=w0.output
 size:w0.heap.size<=w.heap.size
 old:∀k,k<w0.heap.size->k≠X->w.heap[k]?=w0.heap[k]?
 own:∀r∈O,w.ownsRow w0.heap.size r.e r.z r.v r.n r.xs
 loose:∀q∈L,w0.heap.size<=q.1/\q.1<w.heap.size/\w.heap[q.1]?=some q.2
 ndO:∀(i j:Nat) (r s:Orow) (k:Nat),O[i]?=some r->O[j]?=some s->r.v.ownBlock=some k->s.v.ownBlock=some k->i=j
 ndL:L.Pairwise fun p q=>p.1<q.1
 ndOL:∀r∈O,∀q∈L,r.v.ownBlock≠some q.1
section
variable{w0 w:World}{X:Nat}{O:List Orow}{L:List (Nat×Obj)}
theorem Bs.drew(h:Bs w0 X O L w):Bs w0 X O L w.drew:=⟨h.os,h.tape,h.output,h.size,h.old,h.own,h.loose,h.ndO,h.ndL,h.ndOL⟩
theorem Bs.grown{w':World}(h:Bs w0 X O L w)(hg:w.grownBy w' none):Bs w0 X O L w':=by
 have hb:∀k,k<w.heap.size->w'.heap[k]?=w.heap[k]?:=fun k hk=>hg.block k hk (by simp)
 refine⟨hg.os.trans h.os,hg.tape.trans h.tape,hg.output.trans h.output,yyd_ h.size hg.size,fun k hk hx=>(hb k (zzk_ hk h.size)).trans (h.old k hk hx),fun r hr=>(h.own r hr).kept hg ?_,fun q hq=>?_,h.ndO,h.ndL,h.ndOL⟩
 .cases r.v.ownBlock<;>simp
 .obtain⟨h1,h2,h3⟩:=h.loose q hq
  exact⟨h1,zzk_ h2 hg.size,(hb q.1 h2).trans h3⟩
theorem Bs.alloc(h:Bs w0 X O L w)(cs:Array Value)(t:TypeId):Bs w0 X O (L++[(w.heap.size,.cells cs t (0,0))]) (w.alloc (.cells cs t)):=by
 have h':=h.grown (World.grownBy_alloc w (.cells cs t) none)
 refine⟨h'.os,h'.tape,h'.output,h'.size,h'.old,h'.own,fun q hq=>?_,h.ndO,?_,fun r hr q hq=>?_⟩
 .rcases zzw_.1 hq with hq|hq
  .exact h'.loose q hq
  .have:=List.mem_singleton.1 hq
   subst this
   exact⟨h.size,by simp,heap_alloc_new w _⟩
 .rw[List.pairwise_append]
  refine⟨h.ndL,by simp,fun a ha b hb=>?_⟩
  have:=List.mem_singleton.1 hb
  subst this
  exact(h.loose a ha).2.1
 .rcases zzw_.1 hq with hq|hq
  .exact h.ndOL r hr q hq
  .have:=List.mem_singleton.1 hq
   subst this
   intro e
   have:=((h.own r hr).lt _ e).2
   simp at this
theorem Bs.append{P:Program}(h:Bs w0 X O L w)(hX:X<w0.heap.size){j:Nat}{r:Orow}(hj:O[j]?=some r)(t ty:TypeId)(i:TypeInfo)(z:Value)(bytes:Nat)(ht:P.underlying t=some (.slice r.e))(hi:P.info? r.e=some i)(hz:i.zero=some z)
 (hsize:i.size=r.z) (hby:i.bytes=bytes) (hzs:z.cells.size=r.z) (hsz:0<r.z) {k:Nat} {cs:Array Value} {e':TypeId} (hk:(k,Obj.cells cs e' (0,0))∈L) (hl:cs.size=r.z) (h1:∀u∈cs.toList,u.oneCell'=true)
 (hn:r.n+1<=1000) (hb:bytes<=100000) :
 ∃g cap w',(Builtin.append_ #[t,t] ty #[r.v,.slice (some ⟨k,0,none⟩) 1 1]).run P w=.ok (.slice (some ⟨g,0,none⟩) (r.n+1) cap) w'/\Bs w0 X (O.set j ⟨.slice (some ⟨g,0,none⟩) (r.n+1) cap,r.e,r.z,r.n+1,r.xs++cs.toList⟩) L w'/\w'.heap[X]?=w.heap[X]?:=by
 obtain⟨k1,k2,k3⟩:=h.loose _ hk
 have hrm:r∈O:=zzd_ hj
 have hjl:=(zzc_.1 hj).1
 have hown:=h.own r hrm
 have hbb:(r.n+1)*bytes<=140737488355328:=by
  have:(r.n+1)*bytes<=1000*100000:=Nat.mul_le_mul hn hb
  omega
 obtain⟨g,cap,w',q1,q2,q3,q4,q5⟩:=run_append_lies (P:=P) w t ty w0.heap.size r.e i z r.z bytes ht hi hz hsize hby hzs hsz r.v r.n r.xs hown ⟨k,0,none⟩ 1 1 cs.toList (by simp[hl]) (World.news_of_block k3) h1 (by omega) (by simp[maxLen];omega) hbb h.size w.heap.size rfl
 have hrow:∀b,r.v.ownBlock=some b->w0.heap.size<=b:=fun b hb=>(hown.lt b hb).1
 have hkeep:∀b,b<w.heap.size->r.v.ownBlock≠some b->w'.heap[b]?=w.heap[b]?:=fun b hb hne=>q3.block b hb fun e=>hne e.symm
 have hob:∀c n' cap',(Value.slice (some ⟨c,0,none⟩) n' cap').ownBlock=some c:=fun _ _ _=>rfl
 -- the new row's block
 have hg:∀(i':Nat) (r':Orow),O[i']?=some r'->i'≠j->r'.v.ownBlock≠some g:=by
  intro i' r' hi' hne e
  rcases q4 with q4|q4
  .exact hne (h.ndO i' j r' r g hi' hj e q4)
  .have:=((h.own r' (zzd_ hi')).lt g e).2
   omega
 refine⟨g,cap,w',q1,⟨q3.os.trans h.os,q3.tape.trans h.tape,q3.output.trans h.output,yyd_ h.size q3.size,fun b hb' hx=>?_,fun r' hr'=>?_,fun q hq=>?_,fun i1 i2 r1 r2 b e1 e2 e3 e4=>?_,h.ndL,fun r' hr' q hq=>?_⟩,?_⟩
 .rw[hkeep b (zzk_ hb' h.size) (fun e=>by have:=hrow b e;omega)]
  exact h.old b hb' hx
 .obtain⟨i',hi'⟩:=List.mem_iff_getElem?.1 hr'
  rw[List.getElem?_set]at hi'
  split at hi'
  .cases hi'
   exact q2
  .next hne =>
   refine(h.own r' (zzd_ hi')).kept q3 ?_
   cases e1:r'.v.ownBlock with
   |none=>exact .inl rfl
   | some b =>
     refine .inr fun e2=>hne ?_
     exact(h.ndO i' j r' r b hi' hj e1 e2.symm).symm
 .obtain⟨a1,a2,a3⟩:=h.loose q hq
  exact⟨a1,zzk_ a2 q3.size,(hkeep q.1 a2 (h.ndOL r hrm q hq)).trans a3⟩
 .rw[List.getElem?_set]at e1 e2
  split at e1
  .next h1' =>
   split at e2
   .next h2'=>exact h1'.symm.trans h2'
   .next h2' =>
    cases e1
    rw[hob]at e3
    cases e3
    exact absurd e4 (hg i2 r2 e2 (Ne.symm h2'))
  .next h1' =>
   split at e2
   .next h2' =>
    cases e2
    rw[hob]at e4
    cases e4
    exact absurd e3 (hg i1 r1 e1 (Ne.symm h1'))
   .exact h.ndO i1 i2 r1 r2 b e1 e2 e3 e4
 .obtain⟨i',hi'⟩:=List.mem_iff_getElem?.1 hr'
  rw[List.getElem?_set]at hi'
  split at hi'
  .cases hi'
   rw[hob]
   rintro e
   cases e
   rcases q4 with q4|q4
   .exact h.ndOL r hrm q hq q4
   .have:=(h.loose q hq).2.1
    omega
  .exact h.ndOL r' (zzd_ hi') q hq
 .exact hkeep X (zzk_ hX h.size) fun e=>by have:=hrow X e;omega
theorem Bs.setX(h:Bs w0 X O L w)(hX:X<w0.heap.size)(o:Nat)(v:Value):Bs w0 X O L (w.setCell ⟨X,o,none⟩ v):=by
 have hb:∀k,k≠X->(w.setCell ⟨X,o,none⟩ v).heap[k]?=w.heap[k]?:=fun k hk=>by
  simp[World.setCell,yyu_,Ne.symm hk]
 have hs:(w.setCell ⟨X,o,none⟩ v).heap.size=w.heap.size:=by simp[World.setCell]
 refine⟨h.os,h.tape,h.output,by rw[hs];exact h.size,fun k hk hx=>(hb k hx).trans (h.old k hk hx),fun r hr=>?_,fun q hq=>?_,h.ndO,h.ndL,h.ndOL⟩
 .obtain⟨a,b⟩:=h.own r hr
  refine⟨a,?_⟩
  rcases b with b|⟨g,cap,cur,e1,e2,e3,e4⟩
  .exact .inl b
  .exact .inr ⟨g,cap,cur,e1,e2,(hb g (by omega)).trans e3,e4⟩
 .obtain⟨a1,a2,a3⟩:=h.loose q hq
  exact⟨a1,by rw[hs];exact a2,(hb q.1 (by omega)).trans a3⟩
theorem Bs.sub(h:Bs w0 X O L w){L':List (Nat×Obj)}(hs:L'.Sublist L):Bs w0 X O L' w :=
 ⟨h.os,h.tape,h.output,h.size,h.old,h.own,fun q hq=>h.loose q (hs.subset hq),h.ndO,h.ndL.sublist hs,fun r hr q hq=>h.ndOL r hr q (hs.subset hq)⟩
end
end Go.Proofs.Ytpfjlnmnolbiaaa
namespace Go.Proofs.Ytpfjlnmnolbiaaa
open Go.RowKit Go.Proofs
structure Sm(k:Nat)(Q:List Nat):Prop where
 k7:k<=7
 ne:0<Q.length
 q4:∀q∈Q,(QP.mem k q).length<=4
theorem lZ_:Sm 3 (xh_ 3):=⟨by decide,by decide +kernel,by decide +kernel⟩
theorem lY_:Sm 5 (xh_ 5):=⟨by decide,by decide +kernel,by decide +kernel⟩
theorem k0_:Sm 2 (xh_ 2):=⟨by decide,by decide +kernel,by decide +kernel⟩
theorem k2_:Sm (2*2) (zG_ (2*2) (grid 2 2)):=⟨by decide,by decide +kernel,by decide +kernel⟩
theorem k1_:Sm (2*3) (zG_ (2*3) (grid 2 3)):=⟨by decide,by decide +kernel,by decide +kernel⟩
theorem jx_:Sm (2^3-1) (tQ 3):=⟨by decide,by decide +kernel,by decide +kernel⟩
theorem sz_(n:Int):PC Try.prog 27 [.s (.int .i64 n)] (fun r=>∃k Q,(Md k Q/\Sm k Q)/\r=cP (k:Nat) (zi Q)):=by
 have k0:=nA_ n 6 (by omega) (by omega)
 have hb:=Int.emod_nonneg n (b:=6) (by omega)
 have hc:=Int.emod_lt_of_pos n (b:=6) (by omega)
 refine zH_ c27 zD_ rfl ?_
 simp -implicitDefEqProofs [a27,F27]
 refine z5_ ?_
 simp -implicitDefEqProofs
 refine zu_ k0 (by simp) (by simp) ?_
 rintro _ rfl
 generalize n%6=m at hb hc
 have h6:m=0\/m=1\/m=2\/m=3\/m=4\/m=5:=by omega
 rcases h6 with rfl|rfl|rfl|rfl|rfl|rfl
 .simp -implicitDefEqProofs
  refine z5_ ?_
  simp -implicitDefEqProofs
  refine zu_ (r5_ (n:=3) (by omega) (by omega)) (by simp) (by simp) ?_
  rintro _ rfl
  simp -implicitDefEqProofs [cP]
  exact⟨_,_,⟨vr_ (n:=3) (by omega) (by omega),lZ_⟩,rfl,rfl⟩
 .simp -implicitDefEqProofs
  refine z5_ ?_
  simp -implicitDefEqProofs
  refine zu_ (jG_ (r:=2) (c:=2) (by omega) (by omega)) (by simp) (by simp) ?_
  rintro _ rfl
  simp -implicitDefEqProofs [cP]
  exact⟨_,_,⟨hl_ (r:=2) (c:=2) (by omega) (by omega),k2_⟩,rfl,rfl⟩
 .simp -implicitDefEqProofs
  refine z5_ ?_
  simp -implicitDefEqProofs
  refine zu_ (r5_ (n:=5) (by omega) (by omega)) (by simp) (by simp) ?_
  rintro _ rfl
  simp -implicitDefEqProofs [cP]
  exact⟨_,_,⟨vr_ (n:=5) (by omega) (by omega),lY_⟩,rfl,rfl⟩
 .simp -implicitDefEqProofs
  refine z5_ ?_
  simp -implicitDefEqProofs
  refine zu_ (jF_ (k:=3) (.inr (.inr rfl))) (by simp) (by simp) ?_
  rintro _ rfl
  simp -implicitDefEqProofs [cP]
  exact⟨_,_,⟨iX_ (k:=3) (.inr (.inr rfl)),jx_⟩,rfl,rfl⟩
 .simp -implicitDefEqProofs
  refine z5_ ?_
  simp -implicitDefEqProofs
  refine zu_ (r5_ (n:=2) (by omega) (by omega)) (by simp) (by simp) ?_
  rintro _ rfl
  simp -implicitDefEqProofs [cP]
  exact⟨_,_,⟨vr_ (n:=2) (by omega) (by omega),k0_⟩,rfl,rfl⟩
 .simp -implicitDefEqProofs
  refine z5_ ?_
  simp -implicitDefEqProofs
  refine zu_ (nZ_) (by simp) (by simp) ?_
  rintro _ rfl
  simp -implicitDefEqProofs [cP]
  exact⟨_,_,⟨kI_,k1_⟩,rfl,rfl⟩
section
theorem uj_{g:Gh}{w:World}(hlt:∀k,0<g.I k->k<w.heap.size)(m:Int):Calls Try.prog 27 #[.int .i64 m] w fun e w'=>∃(n:Nat) (Q:List Nat) (QA:Option Addr) (QC:Nat) (g':Gh),e=.returned (.agg #[.int .i64 n,.slice QA Q.length QC])/\Md n Q/\Sm n Q/\Rep g' w' (.list 1 (iv (zi Q))) (.slice QA Q.length QC)/\Below w.heap.size w w'/\(∀k,k<w.heap.size->g'.I k=g.I k)/\∀k,0<g'.I k->k<w'.heap.size:=by
 refine(wq_ (sz_ m) (g:=g) (w:=w) (vals:=#[.int .i64 m]) rfl ?_ ?_ hlt).mono ?_
 .intro x hx
  simp at hx
  subst hx
  rfl
 .intro i x v hx hv
  match i,hx,hv with
  |0,hx,hv=>cases hx;cases hv;exact .s rfl
 .rintro e w' ⟨v,r,g',rfl,⟨n,Q,⟨hm,hs⟩,rfl⟩,hr,hb,hg,hI⟩
  cases hr with
  | agg e1 e2 e3 =>
    rename_i vs
    obtain⟨a,c,rfl⟩:∃a c,vs=#[a,c]:=by
     have:vs.toList.length=2:=by have:=e1;simp at this;simp;omega
     match hv:vs.toList,this with
     |[a,c],_=>exact⟨a,c,Array.ext' (by simpa using hv)⟩
    have ha:=(e3 0 _ a rfl rfl).of_s rfl
    subst ha
    have hc:=e3 1 _ c rfl rfl
    obtain⟨A,C,rfl,_⟩:=ww_ hc
    rw[tw_] at *
    exact⟨n,Q,A,C,g',rfl,hm,hs,hc,hb,hg,hI⟩
theorem New_calls{w:World}:Calls Try.prog 25 #[] w fun e w'=>e=.returned (.agg #[.int .i64 0,.int .i64 0,.int .i64 0,.int .i64 0,.int .i64 0,.int .i64 0,.int .i64 0,.bool false,.slice none 0 0,.slice none 0 0,.bool false])/\w.grownBy w' none:=by
 go_enter Try.func25,Try.ntmps25
 go_wp2
 have hc:∀j,(w.alloc (.cells z39 39)).cell? ⟨w.heap.size,j,none⟩=z39[j]?:=fun j=>by
  have:=heap_alloc_new w (.cells z39 39)
  simp only[World.cell?,this]
  rfl
 have hc':=hc
 simp only[z39]at hc'
 refine bodyPost_ret (v:=.agg z39) (by simp[results,Try.results25,go_sem,hc',z39]) rfl ⟨rfl,World.grownBy_alloc _ _ _⟩
def mkO(n:Nat)(bv mv:Value)(p:Nat)(rk:Nat->Nat):List Orow:=[⟨bv,39,11,p,(List.range p).flatMap fun _=>z39.toList⟩,⟨mv,42,1,p,(List.range p).map fun i=>.slice (some ⟨rk i,0,none⟩) n n⟩]
def nils(n:Nat):Array Value:=Array.replicate n (.slice none 0 0)
def mkL(n p:Nat)(rk:Nat->Nat):List (Nat×Obj):=(List.range p).map fun i=>(rk i,.cells (nils n) 41 (0,0))
structure Mk(w0:World)(X n:Nat)(qv:Value)(p:Nat)(w:World):Prop where
 ex:∃bv mv rk,Bs w0 X (mkO n bv mv p rk) (mkL n p rk) w/\w.heap[X]?=some (.cells #[.int .i64 n,qv,bv,mv] 33 (0,0))
theorem ks_{w0 V:World}{X n:Nat}{qv bv mv:Value}{p gb cb gm cm kr:Nat}{rk:Nat->Nat}{O:List Orow}{L:List (Nat×Obj)}(h:Bs w0 X O L V)
 (hx:V.heap[X]?=some (.cells #[.int .i64 n,qv,.slice (some ⟨gb,0,none⟩) (p+1) cb,.slice (some ⟨gm,0,none⟩) (p+1) cm] 33 (0,0)))
 (hO:O=((mkO n bv mv p rk).set 0 ⟨.slice (some ⟨gb,0,none⟩) (p+1) cb,39,11,p+1,((List.range p).flatMap fun _=>z39.toList)++z39.toList⟩).set 1 ⟨.slice (some ⟨gm,0,none⟩) (p+1) cm,42,1,p+1,((List.range p).map fun i=>.slice (some ⟨rk i,0,none⟩) n n)++[.slice (some ⟨kr,0,none⟩) n n]⟩)
 (hL:∃R,L=mkL n p rk++R/\(kr,Obj.cells (nils n) 41 (0,0))∈R):Mk w0 X n qv (p+1) V:=by
 obtain⟨R,rfl,hR⟩:=hL
 have e1:O=mkO n (.slice (some ⟨gb,0,none⟩) (p+1) cb) (.slice (some ⟨gm,0,none⟩) (p+1) cm) (p+1) fun i=>if i=p then kr else rk i:=by
  rw[hO]
  have h1:(List.range p).map (fun i=>Value.slice (some ⟨rk i,0,none⟩) n n)=(List.range p).map fun i=>Value.slice (some ⟨if i=p then kr else rk i,0,none⟩) n n:=by
   refine List.map_congr_left fun i hi=>?_
   have:=List.mem_range.1 hi
   rw[if_neg (by omega)]
  simp[mkO,yyv_,h1]
 have e2:mkL n (p+1) (fun i=>if i=p then kr else rk i)=mkL n p rk++[(kr,.cells (nils n) 41 (0,0))]:=by
  have h1:(List.range p).map (fun i=>((if i=p then kr else rk i,Obj.cells (nils n) 41 (0,0)):Nat×Obj))=(List.range p).map fun i=>(rk i,.cells (nils n) 41 (0,0)):=by
   refine List.map_congr_left fun i hi=>?_
   have:=List.mem_range.1 hi
   rw[if_neg (by omega)]
  simp[mkL,yyv_,h1]
 rw[e1]at h
 refine⟨_,_,_,h.sub ?_,hx⟩
 rw[e2]
 exact List.Sublist.append (List.Sublist.refl _) (List.singleton_sublist.2 hR)
set_option maxRecDepth 100000 in
theorem nQ_{n:Nat}(hn:n<=9){w:World}:(Instr.makeSlice 42 (.int .i64 n) (.int .i64 n)).run Try.prog w=.ok (.slice (some ⟨w.heap.size,0,none⟩) n n) (w.alloc (.cells (nils n) 41)):=by
 obtain⟨i0,hi0,hz0,hzs,hzb⟩:∃i0,Try.prog.info? 41=some i0/\i0.zero=some (.slice none 0 0)/\i0.size=1/\i0.bytes=24:=⟨_,rfl,by kernel_rfl,by kernel_rfl,by kernel_rfl⟩
 have:=run_make (P:=Try.prog) w 42 41 i0 _ Try.underlying42 hi0 hz0 .i64 .i64 n n (by omega) (Int.le_refl _) (by rw[hzb];omega) (by omega)
 rw[this]
 have e:madeCells (Value.slice none 0 0).cells ((n:Int).toNat*i0.size)=nils n:=by
  rw[hzs]
  simp[madeCells,nils,Value.cells]
  apply Array.ext
  .simp
  .intro i h1 h2
   simp[Nat.mod_one]
 rw[e]
 simp
section
variable{w0 w:World}{X n p kr k:Nat}{O:List Orow}{L:List (Nat×Obj)}{xo:Option Obj}{r:Orow}
theorem Bs.al(h:Bs w0 X O L w)(hx:w.heap[X]?=xo)(hX:X<w0.heap.size)(cs:Array Value)(t:TypeId):∃V k,w.alloc (.cells cs t)=V/\w.heap.size=k/\Bs w0 X O (L++[(k,.cells cs t (0,0))]) V/\V.heap[X]?=xo :=
 ⟨_,_,rfl,rfl,h.alloc cs t,(Below.heap_alloc w (.cells cs t) X (zzk_ hX h.size)).trans hx⟩
theorem Bs.al39(h:Bs w0 X O L w)(hx:w.heap[X]?=xo)(hX:X<w0.heap.size):∃V k,w.alloc (.cells #[.int .i64 0,.int .i64 0,.int .i64 0,.int .i64 0,.int .i64 0,.int .i64 0,.int .i64 0,.bool false,.slice none 0 0,.slice none 0 0,.bool false] 39)=V/\w.heap.size=k/\Bs w0 X O (L++[(k,.cells z39 39 (0,0))]) V/\V.heap[X]?=xo:=h.al hx hX z39 39
theorem Bs.al41(h:Bs w0 X O L w)(hx:w.heap[X]?=xo)(hX:X<w0.heap.size)(n:Nat):∃V k,w.alloc (.cells (nils n) 41)=V/\w.heap.size=k/\Bs w0 X O (L++[(k,.cells (nils n) 41 (0,0))]) V/\V.heap[X]?=xo:=h.al hx hX _ 41
theorem Bs.al42(h:Bs w0 X O L w)(hx:w.heap[X]?=xo)(hX:X<w0.heap.size)(kr n:Nat):∃V k,w.alloc (.cells #[.slice (some ⟨kr,0,none⟩) n n] 42)=V/\w.heap.size=k/\Bs w0 X O (L++[(k,.cells #[.slice (some ⟨kr,0,none⟩) n n] 42 (0,0))]) V/\V.heap[X]?=xo:=h.al hx hX _ 42
set_option maxRecDepth 100000 in
theorem Bs.ap39(h:Bs w0 X O L w)(hx:w.heap[X]?=xo)(hX:X<w0.heap.size){v:Value}{xs:List Value}(hj:O[0]?=some ⟨v,39,11,p,xs⟩)(hk:(k,Obj.cells z39 39 (0,0))∈L)(hp:p+1<=1000) :
 ∃g c V,(Builtin.append_ #[30,30] 30 #[v,.slice (some ⟨k,0,none⟩) 1 1]).run Try.prog w=.ok (.slice (some ⟨g,0,none⟩) (p+1) c) V/\Bs w0 X (O.set 0 ⟨.slice (some ⟨g,0,none⟩) (p+1) c,39,11,p+1,xs++z39.toList⟩) L V/\V.heap[X]?=xo:=by
 obtain⟨i39,i39h,i39z,i39s,i39b⟩:∃i,Try.prog.info? 39=some i/\i.zero=some (.agg z39)/\i.size=11/\i.bytes=120:=⟨_,rfl,by kernel_rfl,by kernel_rfl,by kernel_rfl⟩
 obtain⟨g,c,V,h1,h2,h3⟩:=h.append (P:=Try.prog) hX (j:=0) hj 30 30 i39 _ 120 Try.underlying30 i39h i39z i39s i39b rfl (by simp) hk rfl (by intro u hu;simp[z39]at hu;rcases hu with rfl|rfl|rfl|rfl|rfl|rfl|rfl|rfl|rfl|rfl|rfl<;>rfl) hp (by omega)
 exact⟨g,c,V,h1,h2,h3.trans hx⟩
set_option maxRecDepth 100000 in
theorem Bs.ap42(h:Bs w0 X O L w)(hx:w.heap[X]?=xo)(hX:X<w0.heap.size){v:Value}{xs:List Value}(hj:O[1]?=some ⟨v,42,1,p,xs⟩)(hk:(k,Obj.cells #[.slice (some ⟨kr,0,none⟩) n n] 42 (0,0))∈L)(hp:p+1<=1000) :
 ∃g c V,(Builtin.append_ #[31,31] 31 #[v,.slice (some ⟨k,0,none⟩) 1 1]).run Try.prog w=.ok (.slice (some ⟨g,0,none⟩) (p+1) c) V/\Bs w0 X (O.set 1 ⟨.slice (some ⟨g,0,none⟩) (p+1) c,42,1,p+1,xs++[.slice (some ⟨kr,0,none⟩) n n]⟩) L V/\V.heap[X]?=xo:=by
 obtain⟨i42,i42h,i42z,i42s,i42b⟩:∃i,Try.prog.info? 42=some i/\i.zero=some (.slice none 0 0)/\i.size=1/\i.bytes=24:=⟨_,rfl,by kernel_rfl,by kernel_rfl,by kernel_rfl⟩
 obtain⟨g,c,V,h1,h2,h3⟩:=h.append (P:=Try.prog) hX (j:=1) hj 31 31 i42 _ 24 Try.underlying31 i42h i42z i42s i42b rfl (by simp) hk rfl (by intro u hu;simp at hu;subst hu;rfl) hp (by omega)
 exact⟨g,c,V,h1,h2,h3.trans hx⟩
theorem Bs.st(h:Bs w0 X O L w)(hX:X<w0.heap.size){qv bv mv:Value}(hx:w.heap[X]?=some (.cells #[.int .i64 n,qv,bv,mv] 33 (0,0))){gb cb gm cm:Nat}{rk:Nat->Nat}
 (hO:O=((mkO n bv mv p rk).set 0 ⟨.slice (some ⟨gb,0,none⟩) (p+1) cb,39,11,p+1,((List.range p).flatMap fun _=>z39.toList)++z39.toList⟩).set 1 ⟨.slice (some ⟨gm,0,none⟩) (p+1) cm,42,1,p+1,((List.range p).map fun i=>.slice (some ⟨rk i,0,none⟩) n n)++[.slice (some ⟨kr,0,none⟩) n n]⟩)
 (hL:∃R,L=mkL n p rk++R/\(kr,Obj.cells (nils n) 41 (0,0))∈R) :
 ∃V7 V8,(w.cell? ⟨X,2,none⟩=some bv/\w.frozen? ⟨X,2,none⟩=false)/\w.setCell ⟨X,2,none⟩ (.slice (some ⟨gb,0,none⟩) (p+1) cb)=V7/\(V7.cell? ⟨X,3,none⟩=some mv/\V7.frozen? ⟨X,3,none⟩=false)/\V7.setCell ⟨X,3,none⟩ (.slice (some ⟨gm,0,none⟩) (p+1) cm)=V8/\Mk w0 X n qv (p+1) V8:=by
 have h7:=h.setX hX 2 (.slice (some ⟨gb,0,none⟩) (p+1) cb)
 have x7:(w.setCell ⟨X,2,none⟩ (.slice (some ⟨gb,0,none⟩) (p+1) cb)).heap[X]?=some (.cells #[.int .i64 n,qv,.slice (some ⟨gb,0,none⟩) (p+1) cb,mv] 33 (0,0)):=by simp[World.setCell,yyu_,hx]
 have h8:=h7.setX hX 3 (.slice (some ⟨gm,0,none⟩) (p+1) cm)
 have x8:((w.setCell ⟨X,2,none⟩ (.slice (some ⟨gb,0,none⟩) (p+1) cb)).setCell ⟨X,3,none⟩ (.slice (some ⟨gm,0,none⟩) (p+1) cm)).heap[X]?=some (.cells #[.int .i64 n,qv,.slice (some ⟨gb,0,none⟩) (p+1) cb,.slice (some ⟨gm,0,none⟩) (p+1) cm] 33 (0,0)):=by
  generalize w.setCell ⟨X,2,none⟩ (.slice (some ⟨gb,0,none⟩) (p+1) cb)=V at x7
  simp[World.setCell,yyu_,x7]
 refine⟨_,_,⟨by simp[World.cell?,hx],by simp[World.frozen?,hx]⟩,rfl,⟨?_,?_⟩,rfl,ks_ h8 x8 hO hL⟩
 .simp only[World.cell?,x7];rfl
 .simp only[World.frozen?,x7];rfl
end
end
theorem my_{α:Type}(L:List α):∀(p i j:Nat),i<p->j<L.length->((List.range p).flatMap fun _=>L)[i*L.length+j]?=L[j]?:=by
 intro p
 induction p with
 |zero=>intro i j hi;omega
 | succ p ih =>
   intro i j hi hj
   have hlen:((List.range p).flatMap fun _=>L).length=p*L.length:=by simp[List.length_flatMap,List.map_const']
   rw[yyv_,List.flatMap_append]
   by_cases h:i<p
   ·have:i*L.length+j<p*L.length:=by
     have:(i+1)*L.length<=p*L.length:=yyg_ _ h
     rw[yyn_]at this
     omega
    rw[zzo_ (by omega)]
    exact ih i j h hj
   .have e:i=p:=by omega
    subst e
    rw[zzv_ (by omega),hlen]
    simp
def tagF(n X bk mb:Nat)(rk:Nat->Nat)(k:Nat):Nat :=
 if k=X then 1 else if k=bk then 2 else if k=mb then 3 else match (List.range n).find? (fun i=>rk i==k) with|some i=>4+i|none=>0
def B0:Nat->QP.Bt:=fun _=>⟨0,0,0,0,0,⟨0,0⟩,false,false,[],[]⟩
def M0:Nat->Nat->QP.Ms:=fun _ _=>[]
theorem i8_{g1:Gh}{w1 w0 w:World}{X n:Nat}{Q:List Nat}{qv:Value}(h:Mk w0 X n qv n w)(hm:Md n Q)(hX:X=w1.heap.size)(hb:Below w1.heap.size w1 w0)(h0:w0.heap.size=w1.heap.size+1)(hq:Rep g1 w1 (.list 1 (iv (zi Q))) qv)(hlt:∀k,0<g1.I k->k<w1.heap.size) :
 ∃T hd,PNet T g1 w X n Q B0 M0 hd/\(∀k,k<w1.heap.size->T k=0)/\Below w1.heap.size w1 w:=by
 obtain⟨bv,mv,rk,hB,hx⟩:=h.ex
 have hn1:=hm.k1
 have ob:=hB.own _ (show _∈mkO n bv mv n rk from .head _)
 have om:=hB.own _ (show _∈mkO n bv mv n rk from .tail _ (.head _))
 obtain⟨b1,b2⟩:=ob
 obtain⟨m1,m2⟩:=om
 simp only at b1 b2 m1 m2
 rcases b2 with ⟨_,e⟩|⟨bk,bc,cb,rfl,bb,bh,bcn,bcm,bs,bt⟩
 .omega
 rcases m2 with ⟨_,e⟩|⟨mb,mc,cm,rfl,mm,mh,mcn,mcm,ms,mt⟩
 .omega
 have hrow:∀i,i<n->w0.heap.size<=rk i/\rk i<w.heap.size/\w.heap[rk i]?=some (.cells (nils n) 41 (0,0)):=fun i hi=>hB.loose (rk i,.cells (nils n) 41 (0,0)) (by simp[mkL];exact⟨i,hi,rfl⟩)
 have hinj:∀i j,i<n->j<n->rk i=rk j->i=j:=by
  have hp:=hB.ndL
  unfold mkL at hp
  rw[List.pairwise_map]at hp
  intro i j hi hj e
  rcases Nat.lt_trichotomy i j with h|h|h
  .have:=List.pairwise_iff_getElem.1 hp i j (by simpa using hi) (by simpa using hj) h
   simp at this
   omega
  .exact h
  .have:=List.pairwise_iff_getElem.1 hp j i (by simpa using hj) (by simpa using hi) h
   simp at this
   omega
 have hbr:∀i,i<n->rk i≠bk:=fun i hi e=>hB.ndOL _ (show _∈mkO n _ _ n rk from .head _) (rk i,.cells (nils n) 41 (0,0)) (by simp[mkL];exact⟨i,hi,rfl⟩) (by simp[Value.ownBlock,e])
 have hmr:∀i,i<n->rk i≠mb:=fun i hi e=>hB.ndOL _ (show _∈mkO n _ _ n rk from .tail _ (.head _)) (rk i,.cells (nils n) 41 (0,0)) (by simp[mkL];exact⟨i,hi,rfl⟩) (by simp[Value.ownBlock,e])
 have hbm:mb≠bk:=fun e=>by
  have:=hB.ndO 0 1 _ _ bk rfl rfl rfl (by simp[Value.ownBlock,e])
  omega
 have hXlt:X<w0.heap.size:=by omega
 have hT0:∀k,k<w1.heap.size->tagF n X bk mb rk k=0:=by
  intro k hk
  unfold tagF
  rw[if_neg (by omega),if_neg (by omega),if_neg (by omega)]
  cases e:(List.range n).find? (fun i=>rk i==k) with
  |none=>rfl
  | some i =>
    have h1:=List.find?_some e
    have h2:=List.mem_range.1 (List.mem_of_find?_eq_some e)
    have:=(hrow i h2).1
    simp at h1
    omega
 have hgb:∀k,k<w1.heap.size->w.heap[k]?=w1.heap[k]?:=fun k hk=>(hB.old k (by omega) (by omega)).trans (hb.block k hk)
 have hI:∀b o,o<g1.I b->o<g1.I b/\w.cell? ⟨b,o,none⟩=w1.cell? ⟨b,o,none⟩:=fun b o ho=>⟨ho,yyb_ (a:=⟨b,o,none⟩) (hgb b (hlt b (by omega)))⟩
 have hnil:∀z,Rep g1 w (.list z []) (.slice none 0 0):=fun z=>.list (fun _=>.slice none 0 0) (by simp) (by simp[maxLen]) (fun _=>rfl) (by simp) (by simp[flat]) (by simp[flat]) (by simp[flat])
 refine⟨tagF n X bk mb rk,⟨bk,bc,mb,mc,qv,rk,fun _=>n,fun _ _=>.slice none 0 0⟩,⟨hn1.2,fun k hk=>by have:=hlt k hk;have:=hB.size;omega,⟨?_,?_,?_,fun i hi=>?_,fun i j k _ _ hk=>by simp[rb]at hk⟩,fun k hk=>?_,hx,zr_ hq rfl hI,⟨bcn,bcm⟩,⟨mcn,mcm⟩,fun i _=>⟨zzl_ _,by simp[maxLen];omega⟩,⟨cb,bh,bs,fun i hi j u hu=>?_⟩,⟨cm,mh,fun i hi=>?_⟩,fun i hi=>⟨nils n,(hrow i hi).2.2,fun j hj=>by simp[nils,hj]⟩,fun i j _ _=>.inl ⟨rfl,none,rfl⟩⟩,hT0,⟨hB.os.trans hb.os,hB.tape.trans hb.tape,hB.output.trans hb.output,by have:=hB.size;have:=hb.size;omega,hgb⟩⟩
 .simp[tagF]
 .show tagF n X bk mb rk bk=2
  unfold tagF
  rw[if_neg (by omega),if_pos rfl]
 .show tagF n X bk mb rk mb=3
  unfold tagF
  rw[if_neg (by omega),if_neg hbm,if_pos rfl]
 .show tagF n X bk mb rk (rk i)=4+i
  have:=(hrow i hi).1
  unfold tagF
  rw[if_neg (by omega),if_neg (hbr i hi),if_neg (hmr i hi)]
  cases e:(List.range n).find? (fun a=>rk a==rk i) with
  | none =>
    have:=List.find?_eq_none.1 e i (List.mem_range.2 hi)
    simp at this
  | some a =>
    have h1:=List.find?_some e
    have h2:=List.mem_range.1 (List.mem_of_find?_eq_some e)
    simp at h1
    rw[hinj a i h2 hi h1]
 .have hk1:¬k<w1.heap.size:=fun h=>hk (hT0 k h)
  refine⟨?_,?_⟩
  .unfold tagF at hk
   split at hk
   .next e=>rw[e];exact zzk_ hXlt hB.size
   .split at hk
    .next e=>rw[e];exact(zzm_.1 bh).1
    .split at hk
     .next e=>rw[e];exact(zzm_.1 mh).1
     .split at hk
      .next i e =>
       have h1:=List.find?_some e
       have h2:=List.mem_range.1 (List.mem_of_find?_eq_some e)
       simp at h1
       rw[<-h1]
       exact(hrow i h2).2.1
      .exact absurd rfl hk
  .by_cases h:0<g1.I k
   .exact absurd (hlt k h) hk1
   .omega
 ·have hj:j<11:=by
   have:=(zzc_.1 hu).1
   simpa[Bl.cs] using this
  have hz:z39.toList.length=11:=rfl
  have h1:=my_ z39.toList n i j hi (by rw[hz];exact hj)
  rw[hz,<-bt,zzu_,if_pos (by omega),Array.getElem?_toList]at h1
  match j,hj,hu with
  |0,_,hu=>cases hu;exact⟨_,h1.trans rfl,rfl,.s rfl⟩
  |1,_,hu=>cases hu;exact⟨_,h1.trans rfl,rfl,.s rfl⟩
  |2,_,hu=>cases hu;exact⟨_,h1.trans rfl,rfl,.s rfl⟩
  |3,_,hu=>cases hu;exact⟨_,h1.trans rfl,rfl,.s rfl⟩
  |4,_,hu=>cases hu;exact⟨_,h1.trans rfl,rfl,.s rfl⟩
  |5,_,hu=>cases hu;exact⟨_,h1.trans rfl,rfl,.s rfl⟩
  |6,_,hu=>cases hu;exact⟨_,h1.trans rfl,rfl,.s rfl⟩
  |7,_,hu=>cases hu;exact⟨_,h1.trans rfl,rfl,.s rfl⟩
  |8,_,hu=>cases hu;exact⟨_,h1.trans rfl,rfl,hnil _⟩
  |9,_,hu=>cases hu;exact⟨_,h1.trans rfl,rfl,hnil _⟩
  |10,_,hu=>cases hu;exact⟨_,h1.trans rfl,rfl,.s rfl⟩
 .have h1:((List.range n).map fun i=>Value.slice (some ⟨rk i,0,none⟩) n n)[i]?=some (.slice (some ⟨rk i,0,none⟩) n n):=by simp[hi]
  rw[<-mt,zzu_,if_pos (by omega),Array.getElem?_toList]at h1
  exact h1
structure Tp(g:Gh)(w:World)(K:Nat)(xs:List Int)(k:Nat):Prop where
 ex:∃lv ty,w.heap[K]?=some (.cells #[lv,.int .i64 k] ty (0,0))/\Rep g w (.list 1 (iv xs)) lv
 Ilt:∀b,0<g.I b->b<w.heap.size
 IK:g.I K=0
structure Kt(K:Nat)(g:Gh)(w:World)(g':Gh)(w':World):Prop where
 os:w'.os=w.os
 tape:w'.tape=w.tape
 output:w'.output=w.output
 size:w.heap.size<=w'.heap.size
 fr:∀k,k<w.heap.size->k≠K->w'.heap[k]?=w.heap[k]?
 same:∀k,k<w.heap.size->g'.I k=g.I k
theorem qV_{g:Gh}{w:World}{K:Nat}{xs:List Int}{k:Nat}(h:Tp g w K xs k)(hk:k<=1000)(hx:xs.length<=1000):Calls Try.prog 28 #[.pointer (some ⟨K,0,none⟩)] w fun e w'=>e=.returned (.bool (decide (k<xs.length)))/\Below w.heap.size w w':=by
 obtain⟨lv,ty,h1,h2⟩:=h.ex
 obtain⟨A,c,rfl,hc1,hc2,_⟩:=ww_ h2
 have c0:w.cell? ⟨K,0,none⟩=some (.slice A xs.length c):=by simp[World.cell?,h1]
 have c1:w.cell? ⟨K,1,none⟩=some (.int .i64 k):=by simp[World.cell?,h1]
 have hd:decide ((k:Int)<(xs.length:Int))=decide (k<xs.length):=by
  rw[yyt_];simp
 clear h h1 h2
 go_enter Try.func28,Try.ntmps28
 go_wp2
 go_region
 go_wp2
 go_ret
 exact⟨by first|rfl|(rw[hd];rfl),⟨rfl,rfl,rfl,zzl_ _,fun _ _=>rfl⟩⟩
set_option maxRecDepth 100000 in
theorem qU_{g:Gh}{w:World}{K:Nat}{xs:List Int}{k:Nat}(h:Tp g w K xs k)(hk:k<=1000)(hx:xs.length<=1000){m:Int}(hm:1<=m)(hm2:m<=1000000):Calls Try.prog 30 #[.pointer (some ⟨K,0,none⟩),.int .i64 m] w fun e w'=>∃g',e=.returned (.int .i64 (nx xs k m))/\Tp g' w' K xs (nat1 xs k)/\Kt K g w g' w':=by
 obtain⟨lv,ty,h1,h2⟩:=h.ex
 obtain⟨A,c,rfl,hc1,hc2,hcell⟩:=ww_ h2
 have c0:w.cell? ⟨K,0,none⟩=some (.slice A xs.length c):=by simp[World.cell?,h1]
 have c1:w.cell? ⟨K,1,none⟩=some (.int .i64 k):=by simp[World.cell?,h1]
 have cf:w.frozen? ⟨K,1,none⟩=false:=by simp[World.frozen?,h1]
 have HT:=Lib.hid h
 have H1:=Lib.hid h1
 have H2:=Lib.hid h2
 by_cases hlt:k<xs.length
 .have hg:¬(k:Int)>=(xs.length:Int):=by omega
  obtain⟨b,o,rfl,hbI,hcb⟩:=hcell k hlt
  have w1:IntKind.i64.wrap ((k:Int)+1)=(k:Int)+1:=by rw[yye_];omega
  have w2:IntKind.i64.wrap ((k:Int)+1-1)=(k:Int):=by rw[yye_];omega
  have w3:(k:Int)+1-1=k:=by omega
  have w4:IntKind.i64.wrap (k:Int)=(k:Int):=by rw[yye_];omega
  have hkz:(k:Int)<xs.length:=by omega
  have hbK:b≠K:=by rintro rfl;have:=h.IK;omega
  have h1d:w.drew.heap[K]?=some (.cells #[.slice (some ⟨b,o,none⟩) xs.length c,.int .i64 k] ty (0,0)):=h1
  obtain⟨W,hW⟩:∃W,w.drew.setCell ⟨K,1,none⟩ (.int .i64 ((k:Int)+1))=W:=⟨_,rfl⟩
  have k0:W.heap[K]?=some (.cells #[.slice (some ⟨b,o,none⟩) xs.length c,.int .i64 ((k:Int)+1)] ty (0,0)):=by rw[<-hW];simp[World.setCell,yyu_,h1d]
  have kf:∀j,j≠K->W.heap[j]?=w.heap[j]?:=fun j hj=>by
   show _=w.drew.heap[j]?
   rw[<-hW];simp[World.setCell,yyu_,Ne.symm hj]
  have ks:W.heap.size=w.heap.size:=by
   show _=w.drew.heap.size
   rw[<-hW];simp[World.setCell]
  have ko:W.os=w.os/\W.tape=w.tape/\W.output=w.output:=by rw[<-hW];exact⟨rfl,rfl,rfl⟩
  have d0:W.cell? ⟨K,0,none⟩=some (.slice (some ⟨b,o,none⟩) xs.length c):=by simp[World.cell?,k0]
  have d1:W.cell? ⟨K,1,none⟩=some (.int .i64 ((k:Int)+1)):=by simp[World.cell?,k0]
  have d2:W.cell? ⟨b,o+k,none⟩=some (.int .i64 xs[k]):=(yyb_ (a:=⟨b,o+k,none⟩) (kf b hbK)).trans hcb
  have hcall:∀wx:World,W.heap.size<=wx.heap.size->Calls Try.prog 10 #[.int .i64 xs[k],.int .i64 m] wx fun e w'=>e=.returned (.int .i64 (xs[k]%m))/\Below wx.heap.size wx w':=by
   intro wx hwx
   refine(wq_ (nA_ xs[k] m hm (by omega)) (g:=g) (w:=wx) (vals:=#[.int .i64 xs[k],.int .i64 m]) rfl ?_ ?_ fun b' hb'=>?_).mono ?_
   .intro x hx'
    simp at hx'
    rcases hx' with rfl|rfl<;>rfl
   .intro i x v hx' hv
    match i,hx',hv with
    |0,hx',hv=>cases hx';cases hv;exact .s rfl
    |1,hx',hv=>cases hx';cases hv;exact .s rfl
   .have:=h.Ilt b' hb'
    omega
   .rintro e w' ⟨v,r,g',rfl,rfl,hr,hb',_⟩
    have:=hr.of_s rfl
    subst this
    exact⟨rfl,hb'⟩
  have HC:=Lib.hid hcall
  clear h h1 h2 hcell hcall
  have e0:w.drew.cell? ⟨K,0,none⟩=some (.slice (some ⟨b,o,none⟩) xs.length c):=c0
  have e1:w.drew.cell? ⟨K,1,none⟩=some (.int .i64 k):=c1
  have ef:w.drew.frozen? ⟨K,1,none⟩=false:=cf
  go_enter Try.func30,Try.ntmps30
  go_wp2
  go_region
  go_wp2
  have hKl:K<W.heap.size:=(zzm_.1 k0).1
  have hbl:b<W.heap.size:=by rw[ks];exact HT.out.Ilt b hbI
  have hS:∀wx,Below W.heap.size W wx->wx.cell? ⟨K,0,none⟩=some (.slice (some ⟨b,o,none⟩) xs.length c)/\wx.cell? ⟨K,1,none⟩=some (.int .i64 ((k:Int)+1))/\wx.cell? ⟨b,o+k,none⟩=some (.int .i64 xs[k]):=fun wx hb=>⟨z1_ hb d0 hKl,z1_ hb d1 hKl,z1_ hb d2 hbl⟩
  have hB1:Below W.heap.size W W.drew:=⟨rfl,rfl,rfl,zzl_ _,fun _ _=>rfl⟩
  have HS:=Lib.hid hS
  clear hS
  go_region_held3 (fun wx=>wx.cell? ⟨K,0,none⟩=some (.slice (some ⟨b,o,none⟩) xs.length c)/\wx.cell? ⟨K,1,none⟩=some (.int .i64 ((k:Int)+1))/\wx.cell? ⟨b,o+k,none⟩=some (.int .i64 xs[k]))
   ((refine HS.out _ ?_;assumption))
   (first
   | (go_at_call 10
      refine(HC.out W.drew (zzl_ _)).mono ?_
      rintro e w2 ⟨rfl,hb2⟩
      have hB2:Below W.heap.size W w2:=hB1.trans hb2))
  all_goals go_wp2
  all_goals go_ret
  all_goals
   have hnx:nx xs k m=xs[k]%m:=by simp[nx,hlt]
   have hn1:nat1 xs k=k+1:=by simp[nat1,hlt]
   have hfr:∀j,j<w.heap.size->j≠K->w2.heap[j]?=w.heap[j]?:=fun j hj hne=>(hB2.block j (by omega)).trans (kf j hne)
   refine⟨g,by rw[hnx];rfl,⟨⟨.slice (some ⟨b,o,none⟩) xs.length c,ty,?_,?_⟩,fun b' hb'=>?_,HT.out.IK⟩,⟨hB2.os.trans ko.1,hB2.tape.trans ko.2.1,hB2.output.trans ko.2.2,by have:=hB2.size;omega,hfr,fun _ _=>rfl⟩⟩
   .rw[hB2.block K hKl,k0,hn1];rfl
   .refine zr_ H2.out rfl fun b' o' ho=>⟨ho,yyb_ (a:=⟨b',o',none⟩) (hfr b' (HT.out.Ilt b' (by omega)) ?_)⟩
    rintro rfl
    have:=HT.out.IK
    omega
   .have:=HT.out.Ilt b' hb'
    have:=hB2.size
    omega
 .have hg:(k:Int)>=(xs.length:Int):=by omega
  clear h h1 h2 hcell
  go_enter Try.func30,Try.ntmps30
  go_wp2
  go_region
  go_wp2
  go_ret
  have hnx:nx xs k m=0:=by simp[nx,hlt]
  have hn1:nat1 xs k=k:=by simp[nat1,hlt]
  refine⟨g,by rw[hnx];rfl,⟨⟨_,ty,by rw[hn1];exact H1.out,zr_ H2.out rfl fun b' o' ho=>⟨ho,rfl⟩⟩,HT.out.Ilt,HT.out.IK⟩,⟨rfl,rfl,rfl,zzl_ _,fun _ _ _=>rfl,fun _ _=>rfl⟩⟩
section
theorem Net.other{T:Nat->Nat}{g g':Gh}{w w':World}{X n K:Nat}{q:List Int}{B:Nat->Bl}{M:Nat->Nat->List Vt}{h:Hd}(hn:Net T g w X n q B M h)(hT:T K=0)(hK:g.I K=0)(hs:w.heap.size<=w'.heap.size)(hb:∀k,k<w.heap.size->k≠K->w'.heap[k]?=w.heap[k]?)(hg:∀k,k<w.heap.size->g'.I k=g.I k)(hlt:∀k,0<g'.I k->k<w'.heap.size):Net T g' w' X n q B M h:=by
 have hTK:∀k,T k≠0->k≠K:=fun k h0 e=>h0 (e ▸ hT)
 have hI:∀b o,o<g.I b->o<g'.I b/\w'.cell? ⟨b,o,none⟩=w.cell? ⟨b,o,none⟩:=fun b o ho=>by
  have hl:=hn.Ilt b (by omega)
  exact⟨by rw[hg b hl];exact ho,yyb_ (a:=⟨b,o,none⟩) (hb b hl (by rintro rfl;omega))⟩
 have hTb:∀k,T k≠0->w'.heap[k]?=w.heap[k]?:=fun k hk=>hb k (hn.tz k hk).1 (hTK k hk)
 refine⟨hn.n9,hlt,hn.tag,fun k hk=>⟨zzk_ (hn.tz k hk).1 hs,by rw[hg k (hn.tz k hk).1];exact(hn.tz k hk).2⟩,(hTb X (by rw[hn.tag.x];omega)).trans hn.hX,zr_ hn.hq rfl hI,hn.bcn,hn.mcn,hn.rcn,?_,?_,fun i hi=>?_,fun i j hi hj=>?_⟩
 .obtain⟨cur,h1,h2,h3⟩:=hn.bb
  refine⟨cur,(hTb _ (by rw[hn.tag.b];omega)).trans h1,h2,fun i hi j u hu=>?_⟩
  obtain⟨c,q1,q2,q3⟩:=h3 i hi j u hu
  exact⟨c,q1,q2,zr_ q3 (wG_ _ u (zzd_ hu)) hI⟩
 .obtain⟨cur,h1,h2⟩:=hn.mm
  exact⟨cur,(hTb _ (by rw[hn.tag.m];omega)).trans h1,h2⟩
 .obtain⟨cur,h1,h2⟩:=hn.rr i hi
  exact⟨cur,(hTb _ (by rw[hn.tag.r i hi];omega)).trans h1,h2⟩
 .exact(hn.vv i j hi hj).keep fun k hk=>hTb k (by rw[hn.tag.v i j k hi hj hk];omega)
structure Pl(g:Gh)(w:World)(K X n:Nat)(Q:List Nat)(xs:List Int)(k j:Nat)(B:Nat->QP.Bt)(M:Nat->Nat->QP.Ms)(T:Nat->Nat)(g':Gh)(h:Hd)(w':World):Prop where
 net:PNet T g' w' X n Q B M h
 tp:Tp g' w' K xs k
 TK:T K=0
 Kl:w.heap.size<=K/\K<w'.heap.size
 below:Below w.heap.size w w'
 T0:∀b,b<w.heap.size->T b=0
 same:∀b,b<w.heap.size->g'.I b=g.I b
 rch:QP.Rch n Q j B M
section
variable{g:Gh}{w:World}{K X n:Nat}{Q:List Nat}{xs:List Int}{k j:Nat}{B:Nat->QP.Bt}{M:Nat->Nat->QP.Ms}{T:Nat->Nat}{g':Gh}{h:Hd}{w':World}
theorem Pl.net_kt(hp:Pl g w K X n Q xs k j B M T g' h w'){g2:Gh}{w2:World}{k2:Nat}(ht:Tp g2 w2 K xs k2)(hk:Kt K g' w' g2 w2) :
 PNet T g2 w2 X n Q B M h/\Below w.heap.size w w2/\(∀b,b<w.heap.size->g2.I b=g.I b)/\K<w2.heap.size:=by
 have s1:=hp.below.size
 have s2:=hk.size
 refine⟨hp.net.other hp.TK hp.tp.IK hk.size hk.fr hk.same ht.Ilt,hp.below.trans ⟨hk.os,hk.tape,hk.output,hk.size,fun b hb=>hk.fr b (by omega) (by have:=hp.Kl.1;omega)⟩,fun b hb=>(hk.same b (by omega)).trans (hp.same b hb),by have:=hp.Kl.2;omega⟩
theorem Tp.kp(ht:Tp g' w' K xs k)(hK:K<w'.heap.size)(hTK:T K=0)(hg:∀b,0<g'.I b->T b=0){T2:Nat->Nat}{g2:Gh}{w2:World}(hk:Kp T g' w' T2 g2 w2)(hlt:∀b,0<g2.I b->b<w2.heap.size):Tp g2 w2 K xs k:=by
 obtain⟨lv,ty,h1,h2⟩:=ht.ex
 refine⟨⟨lv,ty,(hk.fr K hK hTK).2.trans h1,zr_ h2 rfl fun b o ho=>?_⟩,hlt,(hk.same K hK).trans ht.IK⟩
 have hb:=ht.Ilt b (by omega)
 exact⟨by rw[hk.same b hb];exact ho,yyb_ (a:=⟨b,o,none⟩) (hk.fr b hb (hg b (by omega))).2⟩
end
theorem sA_(B:Nat->Bl):∀m,(∀i,i<m->(B i).using'=false)->cntU B m=0
 |0,_=>rfl
 |m+1,h=>by simp[cntU,sA_ B m fun i hi=>h i (by omega),h m (by omega)]
theorem qs_(B:Nat->Bl):∀m,(∀i k,i<m->k<m->(B i).using'=true->(B k).using'=true->i=k)->cntU B m<=1
 |0,_=>by simp[cntU]
 | m + 1, h => by
   cases hu:(B m).using' with
   |false=>simp[cntU,hu];exact qs_ B m fun i k hi hk=>h i k (by omega) (by omega)
   | true =>
     have:=sA_ B m fun i hi=>by
      cases e:(B i).using' with
      |false=>rfl
      |true=>have:=h i m (by omega) (by omega) e hu;omega
     simp[cntU,hu,this]
theorem kx_{n:Nat}{Q:List Nat}(hm:Md n Q):∀p∈Q,∀q∈Q,∃v,v<n/\p.testBit v=true/\q.testBit v=true:=by
 intro p hp q hq
 have h0:=hm.cot.meet p hp q hq
 obtain⟨v,hv⟩:=Nat.exists_testBit_of_ne_zero h0
 rw[Nat.testBit_and,zzg_]at hv
 refine⟨v,?_,hv.1,hv.2⟩
 rcases yym_ v n with h|h
 .exact h
 .have:=Nat.testBit_lt_two_pow (zzk_ (hm.cot.rng p hp).2 (yyf_ (by omega) h))
  rw[this]at hv
  exact absurd hv.1 (by simp)
theorem mH_{n:Nat}{Q:List Nat}{Tm:Nat}{B:Nat->QP.Bt}{M:Nat->Nat->QP.Ms}(h:QP.NInv n Q Tm B M)(hm:Md n Q):cntU (fun k=>toBl (B k)) n<=1 :=
 qs_ _ n fun _ _ hi hk ui uk=>h.alone (kx_ hm) hi hk ui uk
theorem w2_{n:Nat}{Q:List Nat}(hm:Md n Q):∀q∈Q,q≠0:=fun q hq=>by have:=(hm.cot.rng q hq).1;omega
section
variable{g:Gh}{w:World}{K X n:Nat}{Q:List Nat}{xs:List Int}{k j:Nat}{B:Nat->QP.Bt}{M:Nat->Nat->QP.Ms}{T:Nat->Nat}{g':Gh}{h:Hd}{w':World}
theorem Pl.free(hp:Pl g w K X n Q xs k j B M T g' h w'):∀b,0<g'.I b->T b=0:=fun b hb=>by
 by_cases h0:T b=0
 .exact h0
 .have:=(hp.net.tz b h0).2;omega
theorem Pl.next(hp:Pl g w K X n Q xs k j B M T g' h w')(hk:k<=1000)(hx:xs.length<=1000){m:Int}(hm:1<=m)(hm2:m<=1000000) :
 Calls Try.prog 30 #[.pointer (some ⟨K,0,none⟩),.int .i64 m] w' fun e w2=>∃g2,e=.returned (.int .i64 (nx xs k m))/\Pl g w K X n Q xs (nat1 xs k) j B M T g2 h w2:=by
 refine(qU_ hp.tp hk hx hm hm2).mono ?_
 rintro e w2 ⟨g2,rfl,ht,hkt⟩
 obtain⟨a1,a2,a3,a4⟩:=hp.net_kt ht hkt
 exact⟨g2,rfl,a1,ht,hp.TK,⟨hp.Kl.1,a4⟩,a2,hp.T0,a3,hp.rch⟩
theorem Pl.bel(hp:Pl g w K X n Q xs k j B M T g' h w'){w2:World}(hb:Below w'.heap.size w' w2):Pl g w K X n Q xs k j B M T g' h w2:=by
 obtain⟨lv,ty,h1,h2⟩:=hp.tp.ex
 refine⟨hp.net.below hb,⟨⟨lv,ty,(hb.block K hp.Kl.2).trans h1,zr_ h2 rfl (hp.net.keepI hb)⟩,fun b hb'=>zzk_ (hp.tp.Ilt b hb') hb.size,hp.tp.IK⟩,hp.TK,⟨hp.Kl.1,zzk_ hp.Kl.2 hb.size⟩,hp.below.trans (Below.mono1 hb hp.below.size),hp.T0,hp.same,hp.rch⟩
theorem Pl.more(hp:Pl g w K X n Q xs k j B M T g' h w')(hk:k<=1000)(hx:xs.length<=1000) :
 Calls Try.prog 28 #[.pointer (some ⟨K,0,none⟩)] w' fun e w2=>e=.returned (.bool (decide (k<xs.length)))/\Pl g w K X n Q xs k j B M T g' h w2:=by
 refine(qV_ hp.tp hk hx).mono ?_
 rintro e w2 ⟨rfl,hb⟩
 exact⟨rfl,hp.bel hb⟩
theorem Pl.alone(hp:Pl g w K X n Q xs k j B M T g' h w')(hm:Md n Q) :
 Calls Try.prog 13 #[.pointer (some ⟨X,0,none⟩)] w' fun e w2=>e=.returned (.bool true)/\Pl g w K X n Q xs k j B M T g' h w2:=by
 refine(rv_ hp.net).mono ?_
 rintro e w2 ⟨rfl,hb⟩
 exact⟨by rw[decide_eq_true (mH_ (hp.rch.inv (w2_ hm)) hm)],hp.bel hb⟩
theorem Pl.kp(hp:Pl g w K X n Q xs k j B M T g' h w'){j2:Nat}{B2:Nat->QP.Bt}{M2:Nat->Nat->QP.Ms}{T2:Nat->Nat}{g2:Gh}{h2:Hd}{w2:World}(hn:PNet T2 g2 w2 X n Q B2 M2 h2)(hk:Kp T g' w' T2 g2 w2)(hr:QP.Rch n Q j2 B2 M2):Pl g w K X n Q xs k j2 B2 M2 T2 g2 h2 w2:=by
 have s1:=hp.below.size
 have s2:=hk.size
 refine⟨hn,hp.tp.kp hp.Kl.2 hp.TK hp.free hk hn.Ilt,(hk.fr K hp.Kl.2 hp.TK).1,⟨hp.Kl.1,by have:=hp.Kl.2;omega⟩,hp.below.trans ⟨hk.os,hk.tape,hk.output,hk.size,fun b hb=>(hk.fr b (by omega) (hp.T0 b hb)).2⟩,fun b hb=>(hk.fr b (by omega) (hp.T0 b hb)).1,fun b hb=>(hk.same b (by omega)).trans (hp.same b hb),hr⟩
theorem Pl.step(hp:Pl g w K X n Q xs k j B M T g' h w')(hm:Md n Q)(hQ:0<Q.length)(hj:j<=1000){c a b:Nat}(hc:c<8)(ha:a<1000)(hb:b<1000) :
 Calls Try.prog 29 #[.pointer (some ⟨X,0,none⟩),.int .i64 c,.int .i64 a,.int .i64 b] w' fun e w2=>∃B2 M2 T2 g2 h2,e=.returned (.bool true)/\Pl g w K X n Q xs k (j+1) B2 M2 T2 g2 h2 w2:=by
 have h9:=hm.k1.2
 refine(lU_ hp.net hm (hp.rch.inv (w2_ hm)) (by omega) (hp.rch.len (w2_ hm)) ?_ hc ha hb hQ).mono ?_
 .have:j*(n+2)<=1000*11:=Nat.mul_le_mul hj (by omega)
  omega
 .rintro e w2 ⟨T2,g2,h2,B2,M2,rfl,hn2,hk,hs⟩
  exact⟨B2,M2,T2,g2,h2,rfl,hp.kp hn2 hk (.step hp.rch hs)⟩
end
theorem oo_(xs:List Int)(k:Nat){m:Nat}(hm:0<m):∃c:Nat,nx xs k m=c/\c<m:=by
 have:=hk_ xs k (m:=m) (by omega)
 exact⟨(nx xs k m).toNat,by omega,by omega⟩
end
end Go.Proofs.Ytpfjlnmnolbiaaa
namespace Go.Proofs.Ytpfjlnmnolbiaaa
open Go Go.Proofs
section
variable{P:Program}{ops:Array Oper}{Q:Exit->Act->World->Prop}{S:World->Prop}{t:Nat}
theorem x0_{l r:List Oper}{i:Nat}{oi:Oper}{v:Value}{f:Nat}{listed:Array Bool}{a:Act}{w:World}(hi:l.drop i=oi::r)
 (hk:(Region.noSelect l.toArray&&Region.free .any l.toArray listed i&&(Region.ready .any l.toArray listed).contains i&&we_ l.toArray listed&&listed.size==l.toArray.size&&i != t)=true)
 (hQ:∀c a w,Q (.panic c) (a.put oi.dst v) w->Q (.panic c) a w) (hw:Region.wanted oi (yielded l.toArray a.tmps)=true) (hy:∀w,(execOp a.eval oi).run P w=.ok (.value v) w) (hS:listed.getD t true=false->S w)
 (h:zw_ P l.toArray Q S t f (listed.setIfInBounds i true) (a.put oi.dst v) w):zw_ P l.toArray Q S t (f+1) listed a w:=by
 simp only[zzg_,beq_iff_eq,bne_iff_ne]at hk
 exact zL_ hi hk.2 hk.1.1.1.1.1 hk.1.1.1.1.2 hk.1.1.1.2 hk.1.1.2 hk.1.2 hQ hw hy hS h
theorem pj_{l r:List Oper}{i:Nat}{oi:Oper}{v:Value}{f:Nat}{listed:Array Bool}{a:Act}{w:World}(hi:l.drop i=oi::r)
 (hk:(Region.noSelect l.toArray&&Region.free .any l.toArray listed i&&(Region.ready .any l.toArray listed).contains i&&we_ l.toArray listed&&listed.size==l.toArray.size&&i != t)=true) (hk2:decide (t<l.toArray.size)&&(ps_ l.toArray 4 [t]).contains i=true)
 (hQ:∀c a w,Q (.panic c) (a.put oi.dst v) w->Q (.panic c) a w) (hw:Region.wanted oi (yielded l.toArray a.tmps)=true) (hy:∀w,S w->(execOp a.eval oi).run P w=.ok (.value v) w) (hS:listed.getD t true=false->S w)
 (h:zw_ P l.toArray Q S t f (listed.setIfInBounds i true) (a.put oi.dst v) w):zw_ P l.toArray Q S t (f+1) listed a w:=by
 simp only[zzg_,beq_iff_eq,bne_iff_ne]at hk
 exact yk_ hi hk.2 hk.1.1.1.1.1 hk.1.1.1.1.2 hk.1.1.1.2 hk.1.1.2 hk2 hk.1.2 hQ hw hy hS h
theorem xA_{rs:List Nat}{f:Nat}{listed:Array Bool}{a:Act}{w:World}(hr:(Region.ready .any ops listed==rs&&!rs.isEmpty)=true)(h:AllG P ops Q S t f listed a w rs):zw_ P ops Q S t (f+1) listed a w:=by
 rw[zzg_]at hr
 exact xD_ (eq_of_beq hr.1) (by rintro rfl;simp at hr) h
end
end Go.Proofs.Ytpfjlnmnolbiaaa
