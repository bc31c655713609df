/- Texts put behind one another: N18, J3, Z5, N19, N20, N21, S1, S2, S3, S4, S5, S6, S7, S8, S9, S10, S11, S12, S13, S14, S15, S16, S17, N22, N23, R1, R2, Sh. -/
import Derived.Test.YtpfjlnmnolbiaaaZG
import Derived.Test.YtpfjlnmnolbiaaaZF
import Derived.Below
import Derived.Test.YtpfjlnmnolbiaaaZD
import Derived.ProofKit
import Derived.ChangeArms
import Derived.WideShapes
import Derived.Test.YtpfjlnmnolbiaaaZE
set_option linter.unusedVariables false
set_option linter.unusedSimpArgs false
namespace Go.Proofs.Ytpfjlnmnolbiaaa
open Go.RowKit Go.Proofs
theorem jZ_{l:List Int}{k j:Nat}(hm:k<l.length)(hj:3*j<=k):3*(j+1)<=nat1 l (nat1 l (nat1 l k))\/(nat1 l (nat1 l (nat1 l k))=l.length/\3*(j+1)<=nat1 l (nat1 l (nat1 l k))+2):=by
 have e:∀m,nat1 l m=if m<l.length then m+1 else m:=fun _=>rfl
 have e1:nat1 l k=k+1:=by rw[e,if_pos hm]
 rw[e1]
 by_cases h1:k+1<l.length
 .have e2:nat1 l (k+1)=k+2:=by rw[e,if_pos h1]
  rw[e2]
  by_cases h2:k+2<l.length
  .rw[e,if_pos h2];omega
  .rw[e,if_neg h2];omega
 .have e2:nat1 l (k+1)=k+1:=by rw[e,if_neg h1]
  rw[e2,e2];omega
set_option maxHeartbeats 8000000 in
set_option maxRecDepth 100000 in
theorem kk_{g:Gh}{w:World}(hlt:∀k,0<g.I k->k<w.heap.size){l:List Int}{lv:Value}(hlv:Rep g w (.list 1 (iv l)) lv)(hl:l.length<=400)(nn:Int):Calls Try.prog 9 #[lv,.int .i64 nn] w fun e w' =>
 ∃X n Q K j B M T g' h,e=.returned (.tuple #[.pointer (some ⟨X,0,none⟩),.bool true])/\Md n Q/\Sm n Q/\j<=134/\Pl g w K X n Q l l.length j B M T g' h w':=by
 have mx:=zD_
 obtain⟨LA,LC,rfl,hlc1,hlc2,_⟩:=ww_ hlv
 have hcot:=uj_ hlt nn
 have HLV:=Lib.hid hlv
 have HC:=Lib.hid hcot
 clear hcot
 go_enter Try.func9,Try.ntmps9
 go_wp2_with ((go_at_call 27
               refine HC.out.mono ?_
               rintro e w1 ⟨n,Q,QA,QC,g1,rfl,hk⟩
               have HK:=Lib.hid hk
               clear hk))
 obtain⟨w0,hw0⟩:∃w0,w0=w1.alloc (.cells #[.int .i64 n,.slice QA Q.length QC,.slice none 0 0,.slice none 0 0] 33):=⟨_,rfl⟩
 obtain⟨X,hX⟩:∃X,X=w1.heap.size:=⟨_,rfl⟩
 rw[<-hw0,<-hX]
 have hXl:X<w0.heap.size:=by rw[hw0,hX];simp
 have hXb:w0.heap[X]?=some (.cells #[.int .i64 n,.slice QA Q.length QC,.slice none 0 0,.slice none 0 0] 33 (0,0)):=by rw[hw0,hX];exact heap_alloc_new w1 _
 have hB0:Below w1.heap.size w1 w0:=by rw[hw0];exact yt_ w1 _
 have hmk:Mk w0 X n (.slice QA Q.length QC) 0 w0:=by
  refine⟨.slice none 0 0,.slice none 0 0,fun _=>0,⟨rfl,rfl,rfl,zzl_ _,fun _ _ _=>rfl,fun r hr=>?_,fun q hq=>by simp[mkL]at hq,fun i j r s k hi hj h1 _=>?_,by simp[mkL],fun r _ q hq=>by simp[mkL]at hq⟩,hXb⟩
  .simp[mkO]at hr
   rcases hr with rfl|rfl<;>exact World.ownsRow_nil ..
  .have:=zzd_ hi
   simp[mkO]at this
   rcases this with rfl|rfl<;>simp[Value.ownBlock]at h1
 have HMK:=Lib.hid hmk
 have h01:w0.heap.size=w1.heap.size+1:=by rw[hw0];simp
 have HB:=Lib.hid (And.intro hX (And.intro hB0 h01))
 clear hmk hX hB0 hw0 hXb h01
 go_loopg [7] n (fun kx s7 wr=>∃p:Nat,s7=.int .i64 p/\p+kx=n/\Mk w0 X n (.slice QA Q.length QC) p wr)
 case atStart=>exact⟨0,rfl,by omega,HMK.out⟩
 case round =>
  obtain⟨p,rfl,hp,hI⟩:=hrel
  obtain⟨bv,mv,rk,hBs,hXc⟩:=hI.ex
  have hn9:n<=9:=HK.out.1.k1.2
  have x0:wr.cell? ⟨X,0,none⟩=some (.int .i64 n):=by simp[World.cell?,hXc]
  have x2:wr.cell? ⟨X,2,none⟩=some bv:=by simp[World.cell?,hXc]
  have x3:wr.cell? ⟨X,3,none⟩=some mv:=by simp[World.cell?,hXc]
  have HP:=Lib.hid hp
  have HBs:=Lib.hid hBs
  have HXc:=Lib.hid hXc
  clear hI hBs hXc hp
  by_cases hm:p<n
  .have hpz:(p:Int)<(n:Int):=by omega
   go_wp2
   refine v5_ (fun wx=>wx.cell? ⟨X,0,none⟩=some (.int .i64 n)/\wx.cell? ⟨X,2,none⟩=some bv/\wx.cell? ⟨X,3,none⟩=some mv) 23 (by kernel_rfl) ?_
   have s0:wr.drew.cell? ⟨X,0,none⟩=some (.int .i64 n)/\wr.drew.cell? ⟨X,2,none⟩=some bv/\wr.drew.cell? ⟨X,3,none⟩=some mv:=⟨x0,x2,x3⟩
   have b0:=HBs.out.drew
   clear x0 x2 x3
   have x0:wr.drew.heap[X]?=some (.cells #[.int .i64 n,.slice QA Q.length QC,bv,mv] 33 (0,0)):=HXc.out
   have hSof:∀Y:World,Y.heap[X]?=some (.cells #[.int .i64 n,.slice QA Q.length QC,bv,mv] 33 (0,0))->Y.cell? ⟨X,0,none⟩=some (.int .i64 n)/\Y.cell? ⟨X,2,none⟩=some bv/\Y.cell? ⟨X,3,none⟩=some mv:=fun Y hY=>by simp[World.cell?,hY]
   have hp1:p+1<=1000:=by omega
   have hwp:IntKind.i64.wrap ((p:Int)+1)=(p:Int)+1:=by rw[yye_];omega
   generalize wr.drew=V0 at b0 x0 s0 ⊢
   have b:=b0
   have x:=x0
   have s:=s0
   clear b0 x0 s0
   refine x0_ (i:=0) (v:=?_) rfl (by kernel_rfl) (fun _ _ _ h=>h) (by kernel_rfl) ?_ (fun _=>s) ?_
   rotate_left
   ·(intro w9;go_simp;first|done|with_reducible rfl)
   try simp only[Act.put,zze_,zzi_,zzj_]
   refine x0_ (i:=1) (v:=?_) rfl (by kernel_rfl) (fun _ _ _ h=>h) (by kernel_rfl) ?_ (fun _=>s) ?_
   rotate_left
   ·(intro w9;go_simp;first|done|with_reducible rfl)
   try simp only[Act.put,zze_,zzi_,zzj_]
   refine x0_ (i:=2) (v:=?_) rfl (by kernel_rfl) (fun _ _ _ h=>h) (by kernel_rfl) ?_ (fun _=>s) ?_
   rotate_left
   ·(intro w9;go_simp;first|done|with_reducible rfl)
   try simp only[Act.put,zze_,zzi_,zzj_]
   refine x0_ (i:=3) (v:=?_) rfl (by kernel_rfl) (fun _ _ _ h=>h) (by kernel_rfl) ?_ (fun _=>s) ?_
   rotate_left
   ·(intro w9;go_simp;first|done|with_reducible rfl)
   try simp only[Act.put,zze_,zzi_,zzj_]
   refine x0_ (i:=4) (v:=?_) rfl (by kernel_rfl) (fun _ _ _ h=>h) (by kernel_rfl) ?_ (fun _=>s) ?_
   rotate_left
   ·(intro w9;go_simp;first|done|with_reducible rfl)
   try simp only[Act.put,zze_,zzi_,zzj_]
   refine pj_ (i:=5) (v:=?_) rfl (by kernel_rfl) (by kernel_rfl) (fun _ _ _ h=>h) (by kernel_rfl) ?_ (fun _=>s) ?_
   rotate_left
   ·(intro w9 hSw;(try dsimp only at hSw);go_simp;first|done|with_reducible rfl)
   try simp only[Act.put,zze_,zzi_,zzj_]
   refine x0_ (i:=9) (v:=?_) rfl (by kernel_rfl) (fun _ _ _ h=>h) (by kernel_rfl) ?_ (fun _=>s) ?_
   rotate_left
   ·(intro w9;go_simp;first|done|with_reducible rfl)
   try simp only[Act.put,zze_,zzi_,zzj_]
   refine x0_ (i:=10) (v:=?_) rfl (by kernel_rfl) (fun _ _ _ h=>h) (by kernel_rfl) ?_ (fun _=>s) ?_
   rotate_left
   ·(intro w9;go_simp;first|done|with_reducible rfl)
   try simp only[Act.put,zze_,zzi_,zzj_]
   refine x0_ (i:=11) (v:=?_) rfl (by kernel_rfl) (fun _ _ _ h=>h) (by kernel_rfl) ?_ (fun _=>s) ?_
   rotate_left
   ·(intro w9;go_simp;first|done|with_reducible rfl)
   try simp only[Act.put,zze_,zzi_,zzj_]
   refine pj_ (i:=12) (v:=?_) rfl (by kernel_rfl) (by kernel_rfl) (fun _ _ _ h=>h) (by kernel_rfl) ?_ (fun _=>s) ?_
   rotate_left
   ·(intro w9 hSw;(try dsimp only at hSw);go_simp;first|done|with_reducible rfl)
   try simp only[Act.put,zze_,zzi_,zzj_]
   refine x0_ (i:=13) (v:=?_) rfl (by kernel_rfl) (fun _ _ _ h=>h) (by kernel_rfl) ?_ (fun _=>s) ?_
   rotate_left
   ·(intro w9;go_simp;first|done|with_reducible rfl)
   try simp only[Act.put,zze_,zzi_,zzj_]
   refine x0_ (i:=14) (v:=?_) rfl (by kernel_rfl) (fun _ _ _ h=>h) (by kernel_rfl) ?_ (fun _=>s) ?_
   rotate_left
   ·(intro w9;go_simp;first|done|with_reducible rfl)
   try simp only[Act.put,zze_,zzi_,zzj_]
   refine x0_ (i:=15) (v:=?_) rfl (by kernel_rfl) (fun _ _ _ h=>h) (by kernel_rfl) ?_ (fun _=>s) ?_
   rotate_left
   ·(intro w9;go_simp;first|done|with_reducible rfl)
   try simp only[Act.put,zze_,zzi_,zzj_]
   refine x0_ (i:=16) (v:=?_) rfl (by kernel_rfl) (fun _ _ _ h=>h) (by kernel_rfl) ?_ (fun _=>s) ?_
   rotate_left
   ·(intro w9;go_simp;first|done|with_reducible rfl)
   try simp only[Act.put,zze_,zzi_,zzj_]
   refine pj_ (i:=17) (v:=?_) rfl (by kernel_rfl) (by kernel_rfl) (fun _ _ _ h=>h) (by kernel_rfl) ?_ (fun _=>s) ?_
   rotate_left
   ·(intro w9 hSw;(try dsimp only at hSw);go_simp;first|done|with_reducible rfl)
   try simp only[Act.put,zze_,zzi_,zzj_]
   repeat' first
    |(guard_target =~ AllG _ _ _ _ _ _ _ _ _ [];exact AllG.nil)
    |(guard_target =~ AllG _ _ _ _ _ _ _ _ _ _;refine uV_ rfl (fun K hK=>?_) ?_)
    | (guard_target =~ zw_ _ _ _ _ _ _ _ _ _
       refine x0_ (i:=21) (v:=?_) rfl (by decide +kernel) (fun _ _ _ h=>h) (by kernel_rfl) ?_ (fun _=>s) ?_
       rotate_left
       ·(intro w9;go_simp;first|done|with_reducible rfl)
       try simp only[Act.put,zze_,zzi_,zzj_]
       refine x0_ (i:=22) (v:=?_) rfl (by kernel_rfl) (fun _ _ _ h=>h) (by kernel_rfl) ?_ (fun _=>s) ?_
       rotate_left
       ·(intro w9;go_simp;first|done|with_reducible rfl)
       try simp only[Act.put,zze_,zzi_,zzj_]
       refine pk_ (by kernel_rfl) (by kernel_rfl) (by decide) ?_
       simp only[List.drop_succ_cons,List.drop_zero]
       obtain⟨V7,V8,⟨q2,f2⟩,e7,⟨q3,f3⟩,e8,hm8⟩:=b.st hXl x rfl ⟨_,by rw[zzq_,zzq_],by simp⟩
       have HM1:=Lib.hid hm8
       clear b x s hm8
       go_wp2
       go_roundg (gk-1)
       case measure=>have:=HP.out;omega
       case rel=>exact⟨p+1,rfl,by have:=HP.out;omega,HM1.out⟩)
    |(guard_target =~ zw_ _ _ _ _ _ _ _ _ _;refine xA_ (rs:=[6,18]) (by decide +kernel) ?_)
    |(guard_target =~ zw_ _ _ _ _ _ _ _ _ _;refine xA_ (rs:=[7,18]) (by decide +kernel) ?_)
    |(guard_target =~ zw_ _ _ _ _ _ _ _ _ _;refine xA_ (rs:=[8,18]) (by decide +kernel) ?_)
    |(guard_target =~ zw_ _ _ _ _ _ _ _ _ _;refine xA_ (rs:=[18]) (by decide +kernel) ?_)
    |(guard_target =~ zw_ _ _ _ _ _ _ _ _ _;refine xA_ (rs:=[19]) (by decide +kernel) ?_)
    |(guard_target =~ zw_ _ _ _ _ _ _ _ _ _;refine xA_ (rs:=[20]) (by decide +kernel) ?_)
    |(guard_target =~ zw_ _ _ _ _ _ _ _ _ _;refine xA_ (rs:=[8,19]) (by decide +kernel) ?_)
    |(guard_target =~ zw_ _ _ _ _ _ _ _ _ _;refine xA_ (rs:=[8]) (by decide +kernel) ?_)
    |(guard_target =~ zw_ _ _ _ _ _ _ _ _ _;refine xA_ (rs:=[7,19]) (by decide +kernel) ?_)
    |(guard_target =~ zw_ _ _ _ _ _ _ _ _ _;refine xA_ (rs:=[7]) (by decide +kernel) ?_)
    |(guard_target =~ zw_ _ _ _ _ _ _ _ _ _;refine xA_ (rs:=[6,19]) (by decide +kernel) ?_)
    |(guard_target =~ zw_ _ _ _ _ _ _ _ _ _;refine xA_ (rs:=[6]) (by decide +kernel) ?_)
    | (first
       | (obtain ⟨gb, cb, V, e, b', x'⟩ := b.ap39 x hXl rfl (k := kb) (by simp) hp1
          refine xG_ rfl _ _ 30 30 rfl _ _ rfl rfl e ?_
          clear e)
       | (obtain ⟨gm, cm, V, e, b', x'⟩ := b.ap42 x hXl rfl (k := ks) (kr := kr) (n := n) (by simp) hp1
          refine xG_ rfl _ _ 31 31 rfl _ _ rfl rfl e ?_
          clear e)
       | (go_simp
          first
          | (go_at_call 25
             refine New_calls.mono ?_
             rintro e V ⟨rfl,hg⟩
             have b':=b.grown hg
             have x':=(hg.block X (zzk_ hXl b.size) (by simp)).trans x
             clear hg)
          | (obtain ⟨V, kb, e, e1, b', x'⟩ := b.al39 x hXl
             rw[e,e1]
             clear e e1)
          | (obtain ⟨V, ks, e, e1, b', x'⟩ := b.al42 x hXl kr n
             rw[e,e1]
             clear e e1))
       | (refine nK_ rfl (by go_simp; rw [nQ_ hn9]; rfl) ?_
          obtain⟨V,kr,e,e1,b',x'⟩:=b.al41 x hXl n
          rw[e,e1]
          clear e e1)
       clear b x s
       have b:=b'
       have x:=x'
       clear b' x'
       have s:=hSof _ x
       refine hK.out _ _ (fun _=>s) ?_
       clear hK K
       try simp only[Act.put,zze_,zzi_,zzj_])
  .have hpz:¬(p:Int)<(n:Int):=by omega
   have hpe:p=n:=by have:=HP.out;omega
   subst hpe
   obtain⟨T,hd,hnet,hT0,hbel⟩:=i8_ (g1:=g1) (w1:=w1) (Q:=Q) ⟨bv,mv,rk,HBs.out,HXc.out⟩ HK.out.1 HB.out.1 HB.out.2.1 HB.out.2.2 HK.out.2.2.1 HK.out.2.2.2.2.2
   clear x2 x3
   obtain⟨W,hW⟩:∃W,wr.alloc (.cells #[.slice LA l.length LC,.int .i64 0] 62)=W:=⟨_,rfl⟩
   have hbW:Below wr.heap.size wr W:=by rw[<-hW];exact yt_ wr _
   have hKb:W.heap[wr.heap.size]?=some (.cells #[.slice LA l.length LC,.int .i64 0] 62 (0,0)):=by rw[<-hW];exact heap_alloc_new wr _
   have hWs:W.heap.size=wr.heap.size+1:=by rw[<-hW];simp
   obtain⟨K,hK⟩:∃K,wr.heap.size=K:=⟨_,rfl⟩
   rw[hK]at hKb hWs
   have hnW:=hnet.below hbW
   have hb2:=HK.out.2.2.2.1
   have hwb:Below w.heap.size w wr:=hb2.trans (Below.mono1 hbel hb2.size)
   have hKT:T K=0:=by
    by_cases h0:T K=0
    .exact h0
    .have:=(hnet.tz K h0).1;omega
   have hIk:∀b o,o<g.I b->o<g1.I b/\W.cell? ⟨b,o,none⟩=w.cell? ⟨b,o,none⟩:=fun b o ho=>by
    have hb:=hlt b (by omega)
    refine⟨by rw[HK.out.2.2.2.2.1 b hb];exact ho,yyb_ (a:=⟨b,o,none⟩) ((hbW.block b ?_).trans (hwb.block b hb))⟩
    have:=hwb.size
    show b<wr.heap.size
    omega
   have hpl:Pl g w K X p Q l 0 0 B0 M0 T g1 hd W:=by
    refine⟨hnW,⟨⟨.slice LA l.length LC,62,hKb,zr_ HLV.out rfl hIk⟩,hnW.Ilt,?_⟩,hKT,⟨by have:=hwb.size;omega,by omega⟩,hwb.trans (Below.mono1 hbW hwb.size),fun b hb=>hT0 b (zzk_ hb hb2.size),HK.out.2.2.2.2.1,.start⟩
    by_cases h0:0<g1.I K
    .have:=hnet.Ilt K h0;omega
    .omega
   have HPL:=Lib.hid hpl
   have HMD:=Lib.hid HK.out.1
   have HSM:=Lib.hid HK.out.2.1
   have hXK:wr.heap.size=K:=hK
   clear hnet hT0 hbel hbW hKb hnW hb2 hwb hKT hIk hpl hWs HBs HXc HB HMK HP HC HLV
   go_wp2
   clear hW hXK hK
   go_loopg [] l.length (fun kx wx=>∃k j B M T g' h,k+kx=l.length/\(3*j<=k\/(k=l.length/\3*j<=k+2))/\Pl g w K X p Q l k j B M T g' h wx)
   case atStart=>exact⟨0,0,B0,M0,T,g1,hd,by omega,.inl (by omega),HPL.out⟩
   case round =>
    obtain⟨k,j,B,M,T',g',h',hk,hc3,hI⟩:=hrel
    have HI:=Lib.hid hI
    have HK1:=Lib.hid hk
    by_cases hm:k<l.length
    .obtain⟨c,hc,hc8⟩:=oo_ l k (m:=8) (by omega)
     obtain⟨a,ha,ha2⟩:=oo_ l (nat1 l k) (m:=210) (by omega)
     obtain⟨b,hb,hb2⟩:=oo_ l (nat1 l (nat1 l k)) (m:=210) (by omega)
     have hc':nx l k 8=(c:Int):=hc
     have ha':nx l (nat1 l k) 210=(a:Int):=ha
     have hb':nx l (nat1 l (nat1 l k)) 210=(b:Int):=hb
     have hn1:nat1 l k=k+1:=by simp[nat1,hm]
     have hn2:=or_ (xs:=l) (k:=nat1 l k) (by omega)
     have hn3:=or_ (xs:=l) (k:=nat1 l (nat1 l k)) (by omega)
     have z0:k<=1000:=by omega
     have z1:nat1 l k<=1000:=by omega
     have z2:nat1 l (nat1 l k)<=1000:=by omega
     have z3:l.length<=1000:=by omega
     have Z:k+1<=nat1 l (nat1 l (nat1 l k))/\nat1 l (nat1 l (nat1 l k))<=l.length:=by omega
     have hd1:decide (k<l.length)=true:=by simp[hm]
     have HH:=Lib.hid Z
     have hj:j<=1000:=by omega
     have Z4:3*(j+1)<=nat1 l (nat1 l (nat1 l k))\/(nat1 l (nat1 l (nat1 l k))=l.length/\3*(j+1)<=nat1 l (nat1 l (nat1 l k))+2):=by
      exact jZ_ hm (by omega)
     have HZ4:=Lib.hid Z4
     clear hc3 Z4
     clear hI hk hc ha hb hn1 hn2 hn3 Z
     go_wp2_with (first
      | (go_at_call 28
         refine(HI.out.more z0 z3).mono ?_
         rintro e w2 ⟨rfl,hp⟩
         have HI:=Lib.hid hp
         clear hp)
      | (go_at_call 30
         refine(HI.out.next (by assumption) z3 (by omega) (by omega)).mono ?_
         rintro e w2 ⟨g2,rfl,hp⟩
         have HI:=Lib.hid hp
         clear hp)
      | (go_at_call 29
         (try rw[hc',ha',hb'])
         refine(HI.out.step HMD.out HSM.out.ne hj hc8 (by omega) (by omega)).mono ?_
         rintro e w2 ⟨B2,M2,T2,g2,h2,rfl,hp⟩
         have HI:=Lib.hid hp
         clear hp)
      | (go_at_call 13
         refine(HI.out.alone HMD.out).mono ?_
         rintro e w2 ⟨rfl,hp⟩
         have HI:=Lib.hid hp
         clear hp))
     all_goals go_wp2
     all_goals go_roundg (l.length-nat1 l (nat1 l (nat1 l k)))
     case measure=>have:=HH.out;have:=HK1.out;omega
     case rel=>exact⟨nat1 l (nat1 l (nat1 l k)),j+1,B2,M2,T2,g2,h2,by have:=HH.out;omega,HZ4.out,HI.out⟩
    .have hd1:decide (k<l.length)=false:=by simp;omega
     have z0:k<=1000:=by omega
     have z3:l.length<=1000:=by omega
     have hke:k=l.length:=by omega
     have HJ:=Lib.hid (And.intro hke hc3)
     clear hI hk hc3 hke
     go_wp2_with (go_at_call 28
                  refine(HI.out.more z0 z3).mono ?_
                  rintro e w2 ⟨rfl,hp⟩
                  have HI:=Lib.hid hp
                  clear hp)
     go_wp2
     go_ret2
     exact⟨X,p,Q,K,j,B,M,T',g',h',rfl,HMD.out,HSM.out,by have:=HJ.out;omega,by have:=HI.out;rwa [HJ.out.1]at this⟩
def e3:List Int:=[3,5,6]
def aW:Bl:=⟨1,3,0,0,0,⟨1,0⟩,false,[],[],false⟩
def b1W:Bl:=⟨1,0,0,0,0,⟨0,0⟩,false,[⟨1,0⟩],[],false⟩
def b2W:Bl:=⟨1,0,0,0,0,⟨0,0⟩,false,[⟨1,0⟩],[⟨1,2⟩],false⟩
theorem md3:Md 3 [3,5,6]:=by have:=vr_ (n:=3) (by omega) (by omega);rwa [ic_]at this
theorem ok3:okB 3 e3=true:=md3.ok
theorem bOk3(s:Int)(b:Bl):bOk 3 e3 s b=(vtr 3 s&&decide (0<=b.time)&&decide (b.time<=1073741824)&&aok e3 s b&&vok 3 b):=by unfold bOk;rw[ok3];rfl
theorem w1:vz_ 3 e3 0 3 noB (askO noB 0 (mbU 3 9))=okR aW [⟨1,0,1,0⟩,⟨1,1,1,0⟩]:=by
 have h1:bOk 3 e3 0 noB=true:=by rw[bOk3];decide +kernel
 have h2:mbU 3 9=[0,1]:=by decide +kernel
 unfold vz_
 rw[if_neg (by rw[h1];simp),if_neg (by decide),if_neg (by decide),if_neg (by decide),h2]
 rfl
theorem h1W:zB_ 3 e3 1 0 ⟨1,0,1,0⟩ noB=okR b1W [⟨2,0,0,0⟩]:=by
 have h1:bOk 3 e3 1 noB=true:=by rw[bOk3];decide +kernel
 unfold zB_
 rw[if_neg (by rw[h1];simp),if_neg (by decide),if_pos (by decide),if_neg (by decide),if_neg (by decide)]
 rfl
theorem h2W:zB_ 3 e3 1 2 ⟨1,0,1,2⟩ b1W=okR b2W [⟨3,2,0,0⟩]:=by
 have h1:bOk 3 e3 1 b1W=true:=by rw[bOk3];decide +kernel
 unfold zB_
 rw[if_neg (by rw[h1];simp),if_neg (by decide),if_pos (by decide),if_neg (by decide),if_neg (by decide)]
 rfl
theorem v1W:bOk 3 e3 0 aW=true:=by rw[bOk3];decide +kernel
theorem v2W:bOk 3 e3 1 b2W=true:=by rw[bOk3];decide +kernel
set_option maxHeartbeats 16000000 in
theorem mP_:PC Try.prog 8 [] (fun r=>r=.s (.bool true)):=by
 have cN:=iT_
 have cW:=nw_ noB 3 e3 0 3 (by decide) (by simp[Bl.sm,noB])
 rw[w1]at cW
 have cH1:=ry_ noB 3 e3 1 0 ⟨1,0,1,0⟩ (by decide) (by simp[noB]) (by simp[noB])
 rw[h1W]at cH1
 have cH2:=ry_ b1W 3 e3 1 2 ⟨1,0,1,2⟩ (by decide) (by simp[b1W]) (by simp[b1W])
 rw[h2W]at cH2
 have cV1:=xe_ aW 3 e3 0 (by decide) (by simp[Bl.sm,aW])
 rw[v1W]at cV1
 have cV2:=xe_ b2W 3 e3 1 (by decide) (by simp[Bl.sm,b2W])
 rw[v2W]at cV2
 have hmx:3<=maxLen/\3*8<=zf_:=by simp[maxLen,zf_]
 simp only[cP,e3,iv,List.map,Bl.v,Bl.cs,noB,aW,b1W,b2W,okR,vl,Vt.v,sl,Sg.v,List.map_nil,List.map_cons]at cN cW cH1 cH2 cV1 cV2
 refine zH_ c8 zD_ rfl ?_
 simp -implicitDefEqProofs [a8,F8]
 refine yK_ ?_
 simp -implicitDefEqProofs
 refine wj_ cN (by simp) (by simp) ?_
 simp -implicitDefEqProofs
 refine yK_ ?_
 simp -implicitDefEqProofs
 refine wj_ cW (by simp) (by simp) ?_
 simp -implicitDefEqProofs
 refine yK_ ?_
 simp -implicitDefEqProofs
 refine wj_ cN (by simp) (by simp) ?_
 simp -implicitDefEqProofs
 refine yK_ ?_
 simp -implicitDefEqProofs
 refine wj_ cH1 (by simp) (by simp) ?_
 simp -implicitDefEqProofs
 refine z5_ ?_
 simp -implicitDefEqProofs
 refine zu_ cH2 (by simp) (by simp) ?_
 rintro _ rfl
 simp -implicitDefEqProofs
 refine z5_ ?_
 simp -implicitDefEqProofs
 refine zu_ cV1 (by simp) (by simp) ?_
 rintro _ rfl
 simp -implicitDefEqProofs
 refine z5_ ?_
 simp -implicitDefEqProofs
 refine zu_ cV2 (by simp) (by simp) ?_
 rintro _ rfl
 simp -implicitDefEqProofs
theorem jU_{P:Program}{f:FuncId}{args:List V}{Q:V->Prop}(him:∀x∈args,immA x=true)
 (hw:∀(g:Gh) (w:World) (vs:Array Value),args.length=vs.size->(∀(i:Nat) (x:V) (v:Value),args[i]?=some x->vs[i]?=some v->Rep g w x v)->(∀k,0<g.I k->k<w.heap.size) ->
  Calls P f vs w fun e' w'=>∃(v:Value) (r:V) (I':Nat->Nat),e'=.returned v/\Q r/\immT r=true/\okV r=true/\(∀b,b<w.heap.size->I' b=g.I b)/\(∀b,0<I' b->b<w'.heap.size)/\Rep ⟨I',g.φ⟩ w' r v/\Below w.heap.size w w'):PC P f args Q:=by
 intro g w vs hb
 have hl:args.length=vs.size:=by have:=hb.sz;simp[Frn]at this;exact this.symm
 have hrep:∀(i:Nat) (x:V) (v:Value),args[i]?=some x->vs[i]?=some v->Rep g w x v:=by
  intro i x v hx hv
  refine hb.rep (.l (.var i)) x v ⟨hx,?_⟩
  have hi:=(zzc_.1 hx).1
  have hi':i<vs.size:=by omega
  rw[Array.getElem?_eq_getElem hi']at hv
  cases hv
  simp[z3_,Frn,Act.tv,hi,hl ▸ hi]
 refine(hw g w vs hl hrep hb.Ilt).mono ?_
 rintro e' w' ⟨v,r,I',rfl,hQ,hi,hok,h1,h2,hr,hbel⟩
 obtain⟨q1,q2⟩:=nk_ (g:=⟨I',g.φ⟩) (w:=w') hi hr h2
 refine⟨v,r,[],⟨I',g.φ⟩,rfl,⟨rfl,hQ⟩,hok,q1,⟨hbel.os,hbel.tape,hbel.output,hbel.size,fun k hk' _=>⟨hbel.block k hk',h1 k hk'⟩,fun k ho'=>absurd ho' (q2 k),fun b hb'=>by simp at hb'⟩⟩
theorem ud_{g:Gh}{w:World}(hlt:∀k,0<g.I k->k<w.heap.size):Calls Try.prog 8 #[] w fun e w'=>e=.returned (.bool true)/\Below w.heap.size w w':=by
 refine(wq_ mP_ (g:=g) (w:=w) (vals:=#[]) rfl (by intro x hx;simp at hx) (by intro i x v hx;simp at hx) hlt).mono ?_
 rintro e w' ⟨v,r,g',rfl,rfl,hr,hb,_⟩
 have:=hr.of_s rfl
 subst this
 exact⟨rfl,hb⟩
theorem ri_{g:Gh}{w:World}(hlt:∀k,0<g.I k->k<w.heap.size){l:List Int}{lv:Value}(hlv:Rep g w (.list 1 (iv l)) lv):Calls Try.prog 7 #[lv] w fun e w'=>e=.returned (.bool (decide (l.length<=400)))/\Below w.heap.size w w':=by
 refine(wq_ (mW_ l) (g:=g) (w:=w) (vals:=#[lv]) rfl ?_ ?_ hlt).mono ?_
 .intro x hx
  simp at hx
  subst hx
  rfl
 .intro i x v hx hv
  match i,hx,hv with
  |0,hx,hv=>cases hx;cases hv;exact hlv
 .rintro e w' ⟨v,r,g',rfl,rfl,hr,hb,_⟩
  have:=hr.of_s rfl
  subst this
  exact⟨rfl,hb⟩
theorem qY_{g:Gh}{w w':World}{l:List Int}{lv:Value}(hlt:∀k,0<g.I k->k<w.heap.size)(hlv:Rep g w (.list 1 (iv l)) lv)(hb:Below w.heap.size w w'):Rep g w' (.list 1 (iv l)) lv :=
 zr_ hlv rfl fun b o ho=>⟨ho,yyb_ (a:=⟨b,o,none⟩) (hb.block b (hlt b (by omega)))⟩
section
section
variable{n:Nat}{Q:List Nat}{Tm:Nat}{B:Nat->QP.Bt}{M:Nat->Nat->QP.Ms}
end
end
theorem tU_{g:Gh}{w:World}{z:Nat}{xs:List V}{v:Value}(h:Rep g w (.list z xs) v):∃A c,v=.slice A xs.length c:=by
 cases h with
 |list vals hc hm hA hz hi hcell hr=>exact⟨_,_,rfl⟩
end Go.Proofs.Ytpfjlnmnolbiaaa
namespace Go.Proofs.Ytpfjlnmnolbiaaa.QP
def PI(l:List Dn):Prop:=∃a b,l=a++.inq::b/\.yes∉b
theorem PI.nil:¬PI []:=by
 rintro⟨a,b,h,_⟩
 cases a<;>simp at h
theorem PI.cons{x:Dn}{l:List Dn}(h:PI l):PI (x::l):=by
 obtain⟨a,b,rfl,hb⟩:=h
 exact⟨x::a,b,rfl,hb⟩
theorem PI.tl{x:Dn}{l:List Dn}(h:PI (x::l)):PI l\/(x=.inq/\.yes∉l):=by
 obtain⟨a,b,e,hb⟩:=h
 cases a with
 |nil=>simp at e;exact .inr ⟨e.1,e.2 ▸ hb⟩
 |cons y a=>simp at e;exact .inl ⟨a,b,e.2,hb⟩
theorem PI.app{x:Dn}{l:List Dn}(h:PI l)(hx:x≠.yes):PI (l++[x]):=by
 obtain⟨a,b,rfl,hb⟩:=h
 refine⟨a,b++[x],by simp,?_⟩
 simp[hb]
 exact fun e=>hx e.symm
theorem PI.inq(l:List Dn):PI (l++[.inq]):=⟨l,[],rfl,by simp⟩
theorem PI.unapp{x:Dn}{l:List Dn}(h:PI (l++[x])):x≠.yes/\(x=.inq\/PI l):=by
 obtain⟨a,b,e,hb⟩:=h
 rcases List.eq_nil_or_concat b with rfl|⟨b',y,rfl⟩
 .have:a++[Dn.inq]=l++[x]:=e.symm
  have:=(List.append_inj' this rfl).2
  simp at this
  exact⟨by rw[<-this];simp,.inl this.symm⟩
 .have h1:(a++Dn.inq::b')++[y]=l++[x]:=by rw[e];simp
  obtain⟨h2,h3⟩:=List.append_inj' h1 rfl
  simp at h3
  subst h3
  simp at hb
  exact⟨fun e=>hb.2 e.symm,.inr ⟨a,b',h2.symm,hb.1⟩⟩
def Fst(b:Bt)(i:Nat):Prop:=∃q r g t,b.queue=q::r/\q.s=i/\b.given=g::t/\q.lt g=true
def AK(b:Bt):Prop:=b.asked=true↔∃i,Fst b i
structure LP(i:Nat)(a b:Bt)(v:Nat)(U:List Up)(D:List Dn):Prop where
 told:hasS b.queue i=true->a.fail.testBit v=true\/.fal∈D\/Fst b i
 yl:.yld∈U->a.fail.testBit v=true/\b.asked=true
 inq:b.asked=true->hasS b.given i=true->PI D\/a.inqd.testBit v=true\/(∃x∈U,x≠.ask)\/a.using'=true
 ia:hasS b.given i=true->(Rof a v=.h\/.yes∈D)->PI D->b.asked=true
 ib:a.inqd.testBit v=true->b.asked=true
 st:∀x∈b.given++b.queue,x.s=i->.rel∉U->x=a.stamp
structure LInv(n:Nat)(B:Nat->Bt)(M:Nat->Nat->Ms):Prop where
 lp:∀i v,i<n->v<n->LP i (B i) (B v) v (upM (M i v)) (dnM (M v i))
 ak:∀v,v<n->AK (B v)
 nf:∀i,i<n->(B i).inqd≠0->(B i).fail=0
 sa:∀i v,i<n->v<n->∀m∈M i v,m.1=.ask->m.2=(B i).stamp
theorem LP.voter{i v:Nat}{a b b':Bt}{U:List Up}{D:List Dn}(h:LP i a b v U D)(h1:b'.given=b.given)(h2:b'.queue=b.queue)(h3:b'.asked=b.asked):LP i a b' v U D:=by
 have hf:∀k,Fst b' k↔Fst b k:=fun k=>by unfold Fst;rw[h1,h2]
 exact⟨fun e=>by rw[h2]at e;rw[hf];exact h.told e,fun e=>by rw[h3];exact h.yl e,fun e1 e2=>h.inq (h3 ▸ e1) (h1 ▸ e2),fun e1 e2 e3=>by rw[h3];exact h.ia (h1 ▸ e1) e2 e3,fun e=>by rw[h3];exact h.ib e,fun x hx=>h.st x (by rw[<-h1,<-h2];exact hx)⟩
theorem LP.asker{i v:Nat}{a a' b:Bt}{U:List Up}{D:List Dn}(h:LP i a b v U D)(h1:a'.fail=a.fail)(h2:a'.inqd=a.inqd)(h3:a'.using'=a.using')(h4:a'.qu=a.qu)(h5:a'.votes=a.votes)(h6:a'.stamp=a.stamp):LP i a' b v U D:=by
 have hr:Rof a' v=Rof a v:=by unfold Rof;rw[h4,h5]
 exact⟨fun e=>by rw[h1];exact h.told e,fun e=>by rw[h1];exact h.yl e,fun e1 e2=>by rw[h2,h3];exact h.inq e1 e2,fun e1 e2 e3=>h.ia e1 (by rw[<-hr];exact e2) e3,fun e=>h.ib (h2 ▸ e),fun x hx e1 e2=>by rw[h6];exact h.st x hx e1 e2⟩
theorem AK.same{b b':Bt}(h:AK b)(h1:b'.given=b.given)(h2:b'.queue=b.queue)(h3:b'.asked=b.asked):AK b':=by
 unfold AK Fst at *
 rw[h1,h2,h3]
 exact h
section
variable{n:Nat}{Q:List Nat}{T:Nat}{B:Nat->Bt}{M:Nat->Nat->Ms}
theorem q_V{b:Bt}{i T:Nat}(hv:VOk n T b)(h:hasS b.queue i=true):Vof b i=.q:=by
 have:hasS b.given i=false:=by
  cases e:hasS b.given i with
  |false=>rfl
  | true =>
    obtain⟨x,hx,hxs⟩:=zy_.1 e
    obtain⟨y,hy,hys⟩:=zy_.1 h
    have hd:=hv.ds
    unfold Ds at hd
    exact absurd (hxs.trans hys.symm) ((List.pairwise_append.1 hd).2.2 x hx y hy)
 simp[Vof,this,h]
theorem g_V{b:Bt}{i:Nat}(h:hasS b.given i=true):Vof b i=.g:=by simp[Vof,h]
theorem uA_{j:Nat}{s:Nat}{k:Kd}{u0:Up}(st:Sp)(hk:toUp k=some u0){a v:Nat}(hv:v<n):upM (put M j ((mem n s).map fun x=>(k,x)) st a v)=if a=j/\s.testBit v=true then upM (M a v)++[u0] else upM (M a v):=by
 unfold put
 by_cases ha:a=j
 .subst ha
  rw[if_pos rfl,vB_,xx_ hv]
  cases hs:s.testBit v<;>simp[upM,hk]
 .rw[if_neg ha,if_neg (fun h=>ha h.1)]
theorem uB_{j:Nat}{s:Nat}{k:Kd}(st:Sp)(hk:toDn k=none){a v:Nat}(hv:v<n):dnM (put M j ((mem n s).map fun x=>(k,x)) st a v)=dnM (M a v):=by
 unfold put
 split
 .rw[u9_,xx_ hv]
  split<;>simp[dnM,hk]
 .rfl
theorem LInv.A{j:Nat}{b:Bt}{M':Nat->Nat->Ms}(h:LInv n B M)(hj:j<n)(hg:b.given=(B j).given)(hq:b.queue=(B j).queue)(ha:b.asked=(B j).asked)
 (hU:∀a v,a<n->v<n->a≠j->upM (M' a v)=upM (M a v)) (hD:∀a v,a<n->v<n->v≠j->dnM (M' a v)=dnM (M a v))
 (hl:∀v,v<n->LP j b (B v) v (upM (M' j v)) (dnM (M' v j))) (hnf:b.inqd≠0->b.fail=0) (hsa:∀i v,i<n->v<n->∀m∈M' i v,m.1=.ask->m.2=(upd1 B j b i).stamp) :
 LInv n (upd1 B j b) M':=by
 have hb:∀v,(upd1 B j b v).given=(B v).given/\(upd1 B j b v).queue=(B v).queue/\(upd1 B j b v).asked=(B v).asked:=fun v=>by
  unfold upd1
  split
  .next e=>subst e;exact⟨hg,hq,ha⟩
  .exact⟨rfl,rfl,rfl⟩
 refine⟨fun i v hi hv=>?_,fun v hv=>(h.ak v hv).same (hb v).1 (hb v).2.1 (hb v).2.2,fun i hi=>?_,hsa⟩
 .by_cases e:i=j
  .subst e
   have:upd1 B i b i=b:=by simp[upd1]
   rw[this]
   exact(hl v hv).voter (hb v).1 (hb v).2.1 (hb v).2.2
  .have:upd1 B j b i=B i:=by simp[upd1,e]
   rw[this,hU i v hi hv e,hD v i hv hi e]
   exact(h.lp i v hi hv).voter (hb v).1 (hb v).2.1 (hb v).2.2
 .unfold upd1
  split
  .exact hnf
  .exact h.nf i hi
end
end Go.Proofs.Ytpfjlnmnolbiaaa.QP
namespace Go.Proofs.Ytpfjlnmnolbiaaa.QP
section
variable{n:Nat}{Q:List Nat}{T:Nat}{B:Nat->Bt}{M:Nat->Nat->Ms}
theorem ly_{l:Ms}{m:Kd×Sp}(hm:m∈l)(hk:m.1=.ask):.ask∈upM l:=List.mem_filterMap.2 ⟨m,hm,by rw[hk];rfl⟩
theorem rx_{V:Va}{U:List Up}{D:List Dn}(h:Shape .o V U D):(V=.n/\U=[]\/V=.g/\U=[.rel])/\OI D:=by
 cases h with
 |n0 h=>exact⟨.inl ⟨rfl,rfl⟩,h⟩
 |gr h=>exact⟨.inr ⟨rfl,rfl⟩,h⟩
theorem tv_{V:Va}{U:List Up}{D:List Dn}(h:Shape .h V U D):(V=.g/\U=[])/\OI D:=by
 cases h with
 |gh h=>exact⟨⟨rfl,rfl⟩,h⟩
theorem OI.yes{D:List Dn}(h:OI D):.yes∉D:=fun e=>by have:=h _ e;cases this
theorem xC_{s:Nat}(h:∀v,s.testBit v=true->False):s=0:=eq_of_bits fun v=>by
 cases e:s.testBit v with
 |false=>simp
 |true=>exact(h v e).elim
theorem kd_{i:Nat}{b:Bt}(h:AOk Q i b)(h0:b.qu=0):b.votes=0/\b.inqd=0:=by
 have hv:∀v,b.votes.testBit v=true->False:=fun v e=>by have:=h.vq v e;rw[h0]at this;simp at this
 exact⟨xC_ hv,xC_ fun v e=>hv v (h.iv v e)⟩
theorem LInv.want{j q:Nat}(hl:LInv n B M)(h:NInv n Q T B M)(hj:j<n)(h0:(B j).qu=0):LInv n (upd1 B j (wantB n (B j) j q).1) (put M j (wantB n (B j) j q).2 (wantB n (B j) j q).1.stamp):=by
 have hao:=h.ao j hj
 obtain⟨hv0,hi0⟩:=kd_ hao h0
 have hsh:∀v,v<n->Shape .o (Vof (B v) j) (upM (M j v)) (dnM (M v j)):=fun v hv=>by
  have:=h.sh j v hj hv
  have e1:Rof (B j) v=.o:=by simp[Rof,h0]
  rwa [e1]at this
 refine hl.A hj rfl rfl rfl (fun a v ha hv hne=>?_) (fun a v ha hv hne=>?_) (fun v hv=>?_) (fun e=>absurd hi0 e) fun i v hi hv m hm hk=>?_
 .exact(uA_ _ rfl hv).trans (if_neg fun e=>hne e.1)
 .exact uB_ _ rfl hv
 .obtain⟨hc,hoi⟩:=rx_ (hsh v hv)
  have eU:upM (put M j (wantB n (B j) j q).2 (wantB n (B j) j q).1.stamp j v)=if j=j/\q.testBit v=true then upM (M j v)++[.ask] else upM (M j v):=uA_ _ rfl hv
  have eD:dnM (put M j (wantB n (B j) j q).2 (wantB n (B j) j q).1.stamp v j)=dnM (M v j):=uB_ _ rfl hj
  rw[eU,eD]
  have hV:∀ {p:Prop},hasS (B v).queue j=true->p:=fun e=>by
   have:=q_V (h.vo v hv) e
   rcases hc with ⟨c,_⟩|⟨c,_⟩<;>rw[this]at c<;>cases c
  have hG:hasS (B v).given j=true->upM (M j v)=[.rel]:=fun e=>by
   have:=g_V e
   rcases hc with ⟨c,_⟩|⟨_,c⟩
   .rw[this]at c;cases c
   .exact c
  refine⟨fun e=>hV e,fun e=>?_,fun _ e=>?_,fun e e2 _=>?_,fun e=>?_,fun x hx hxs hr=>?_⟩
  .exfalso
   rcases hc with ⟨_,c⟩|⟨_,c⟩<;>rw[c]at e<;>split at e<;>simp at e
  .refine .inr (.inr (.inl ⟨.rel,?_,by simp⟩))
   rw[hG e]
   split<;>simp
  .exfalso
   rcases e2 with e2|e2
   .have:(wantB n (B j) j q).1.votes=0:=hv0
    unfold Rof at e2
    rw[this]at e2
    split at e2<;>simp at e2
   .exact hoi.yes e2
  .have:(wantB n (B j) j q).1.inqd=0:=hi0
   rw[this]at e
   simp at e
  .exfalso
   rcases zzw_.1 hx with hx|hx
   .apply hr
    rw[hG (zy_.2 ⟨x,hx,hxs⟩)]
    split<;>simp
   .exact hV (zy_.2 ⟨x,hx,hxs⟩)
 .by_cases e:i=j
  .subst e
   have e1:upd1 B i (wantB n (B i) i q).1 i=(wantB n (B i) i q).1:=by simp[upd1]
   rw[e1]
   unfold put at hm
   rw[if_pos rfl]at hm
   rcases zzw_.1 hm with hm|hm
   .exfalso
    have:=ly_ hm hk
    rcases(rx_ (hsh v hv)).1 with ⟨_,c⟩|⟨_,c⟩<;>rw[c]at this<;>simp at this
   .have hgm:got (wantB n (B i) i q).2 (wantB n (B i) i q).1.stamp v=if q.testBit v then [(.ask,if Kd.ask=.ask then (wantB n (B i) i q).1.stamp else ⟨0,0⟩)] else []:=xx_ hv
    rw[hgm]at hm
    split at hm
    .simp at hm;rw[hm]
    .simp at hm
  .have e1:upd1 B j (wantB n (B j) j q).1 i=B i:=by simp[upd1,e]
   rw[e1]
   unfold put at hm
   rw[if_neg e]at hm
   exact hl.sa i v hi hv m hm hk
theorem LInv.done{j:Nat}(hl:LInv n B M)(h:NInv n Q T B M)(hj:j<n)(hu:(B j).using'=true):LInv n (upd1 B j (doneB n (B j)).1) (put M j (doneB n (B j)).2 ⟨0,0⟩):=by
 have hao:=h.ao j hj
 have hi0:=hao.ui hu
 obtain⟨_,hvq⟩:=hao.us.1 hu
 have hsh:∀v,v<n->OI (dnM (M v j))/\((B j).qu.testBit v=true/\Vof (B v) j=.g/\upM (M j v)=[]\/(B j).qu.testBit v=false/\(Vof (B v) j=.n/\upM (M j v)=[]\/Vof (B v) j=.g/\upM (M j v)=[.rel])):=fun v hv=>by
  have hs:=h.sh j v hj hv
  cases e:(B j).qu.testBit v with
  | true =>
    have e1:Rof (B j) v=.h:=by simp[Rof,hvq,e]
    rw[e1]at hs
    obtain⟨⟨c1,c2⟩,c3⟩:=tv_ hs
    exact⟨c3,.inl ⟨rfl,c1,c2⟩⟩
  | false =>
    have e1:Rof (B j) v=.o:=by simp[Rof,e]
    rw[e1]at hs
    obtain⟨c1,c3⟩:=rx_ hs
    exact⟨c3,.inr ⟨rfl,c1⟩⟩
 refine hl.A hj rfl rfl rfl (fun a v ha hv hne=>?_) (fun a v ha hv hne=>?_) (fun v hv=>?_) (fun e=>absurd hi0 e) fun i v hi hv m hm hk=>?_
 .exact(uA_ _ rfl hv).trans (if_neg fun e=>hne e.1)
 .exact uB_ _ rfl hv
 .obtain⟨hoi,hc⟩:=hsh v hv
  have eU:upM (put M j (doneB n (B j)).2 ⟨0,0⟩ j v)=if j=j/\(B j).qu.testBit v=true then upM (M j v)++[.rel] else upM (M j v):=uA_ _ rfl hv
  have eD:dnM (put M j (doneB n (B j)).2 ⟨0,0⟩ v j)=dnM (M v j):=uB_ _ rfl hj
  rw[eU,eD]
  have hV:∀ {p:Prop},hasS (B v).queue j=true->p:=fun e=>by
   have:=q_V (h.vo v hv) e
   rcases hc with ⟨_,c,_⟩|⟨_,⟨c,_⟩|⟨c,_⟩⟩<;>rw[this]at c<;>cases c
  have hG:hasS (B v).given j=true->.rel∈(if j=j/\(B j).qu.testBit v=true then upM (M j v)++[.rel] else upM (M j v)):=fun e=>by
   have:=g_V e
   rcases hc with ⟨c,_,c2⟩|⟨_,⟨c,_⟩|⟨_,c2⟩⟩
   .rw[if_pos ⟨rfl,c⟩];simp
   .rw[this]at c;cases c
   .rw[c2];split<;>simp
  refine⟨fun e=>hV e,fun e=>?_,fun _ e=>?_,fun e e2 _=>?_,fun e=>?_,fun x hx hxs hr=>?_⟩
  .exfalso
   rcases hc with ⟨c,_,c2⟩|⟨c,⟨_,c2⟩|⟨_,c2⟩⟩<;>rw[c2,c]at e<;>simp at e
  .exact .inr (.inr (.inl ⟨.rel,hG e,by simp⟩))
  .exfalso
   rcases e2 with e2|e2
   .have:(doneB n (B j)).1.qu=0:=rfl
    unfold Rof at e2
    rw[this]at e2
    simp at e2
   .exact hoi.yes e2
  .have:(doneB n (B j)).1.inqd=0:=hi0
   rw[this]at e
   simp at e
  .exfalso
   rcases zzw_.1 hx with hx|hx
   .exact hr (hG (zy_.2 ⟨x,hx,hxs⟩))
   .exact hV (zy_.2 ⟨x,hx,hxs⟩)
 .by_cases e:i=j
  .subst e
   exfalso
   unfold put at hm
   rw[if_pos rfl]at hm
   rcases zzw_.1 hm with hm|hm
   .have:=ly_ hm hk
    rcases(hsh v hv).2 with ⟨c,_,c2⟩|⟨c,⟨_,c2⟩|⟨_,c2⟩⟩<;>rw[c2]at this<;>simp at this
   .have hgm:got (doneB n (B i)).2 ⟨0,0⟩ v=if (B i).qu.testBit v then [(.rel,if Kd.rel=.ask then ⟨0,0⟩ else ⟨0,0⟩)] else []:=xx_ hv
    rw[hgm]at hm
    split at hm
    .simp at hm;rw[hm]at hk;cases hk
    .simp at hm
  .have e1:upd1 B j (doneB n (B j)).1 i=B i:=by simp[upd1,e]
   rw[e1]
   unfold put at hm
   rw[if_neg e]at hm
   exact hl.sa i v hi hv m hm hk
end
end Go.Proofs.Ytpfjlnmnolbiaaa.QP
namespace Go.Proofs.Ytpfjlnmnolbiaaa.QP
section
variable{n:Nat}{Q:List Nat}{T:Nat}{B:Nat->Bt}{M:Nat->Nat->Ms}
theorem o7_{i j:Nat}{m:Kd×Sp}{rest:Ms}{x:Dn}(hM:M i j=m::rest)(hk:toDn m.1=some x):dnM (M i j)=x::dnM (pop M i j i j):=by
 rw[yp_ hM,hM]
 simp[dnM,hk]
theorem wa_{i j a v:Nat}{m:Kd×Sp}(h:m∈pop M i j a v):m∈M a v:=by
 unfold pop at h
 split at h
 .exact List.mem_of_mem_tail h
 .exact h
theorem sb_{j i:Nat}{b:Bt}(h:AOk Q j b)(hq:b.qu.testBit i=true)(hv:b.votes.testBit i=false):b.using'=false:=by
 cases e:b.using' with
 |false=>rfl
 | true =>
   have:=(h.us.1 e).2
   rw[<-this,hv]at hq
   cases hq
theorem LInv.yes{i j:Nat}{s:Sp}{rest:Ms}(hl:LInv n B M)(h:NInv n Q T B M)(hi:i<n)(hj:j<n)(hM:M i j=(.yes,s)::rest):LInv n (upd1 B j (yesA (B j) i)) (pop M i j):=by
 have hao:=h.ao j hj
 have old:=h.sh j i hj hi
 have ed:=o7_ hM (x:=.yes) rfl
 rw[ed]at old
 obtain⟨hR,hs⟩:=old.yes
 obtain⟨hq,hv⟩:=jc_ hR
 obtain⟨⟨hV,hU0⟩,hoi⟩:=tv_ hs
 have hnu:=sb_ hao hq hv
 have hfb:∀v,(yesA (B j) i).fail.testBit v=((B j).fail.testBit v&&!(decide (i=v))):=fun v=>by
  have:(yesA (B j) i).fail=wo (B j).fail (2^i):=by unfold yesA;split<;>rfl
  rw[this,wo_bit,pow_bit]
 have hvb:∀v,i≠v->(yesA (B j) i).votes.testBit v=(B j).votes.testBit v:=fun v hne=>by
  have:(yesA (B j) i).votes=(B j).votes|||2^i:=by unfold yesA;split<;>rfl
  rw[this,Nat.testBit_or,pow_bit,decide_eq_false hne,Bool.or_false]
 have hqe:(yesA (B j) i).qu=(B j).qu:=by unfold yesA;split<;>rfl
 have hst:(yesA (B j) i).stamp=(B j).stamp:=by unfold yesA;split<;>rfl
 have hin:(yesA (B j) i).using'=true/\(yesA (B j) i).inqd=0\/(yesA (B j) i).inqd=(B j).inqd:=by
  unfold yesA
  split
  .exact .inl ⟨rfl,rfl⟩
  .exact .inr rfl
 have hib:∀v,(yesA (B j) i).inqd.testBit v=true->(B j).inqd.testBit v=true:=fun v e=>by
  rcases hin with ⟨_,e0⟩|e0
  .rw[e0]at e;simp at e
  .rwa [e0]at e
 have hU:∀a v,upM (pop M i j a v)=upM (M a v):=fun a v=>vA_ hM rfl a v
 refine hl.A hj (by unfold yesA;split<;>rfl) (by unfold yesA;split<;>rfl) (by unfold yesA;split<;>rfl) (fun a v _ _ _=>hU a v) (fun a v _ _ hne=>by rw[yH_ (fun e=>hne e.2)]) (fun v hvn=>?_) (fun e=>?_) fun a v ha hvn m hm hk=>?_
 .have hp:=hl.lp j v hj hvn
  rw[hU]
  by_cases hvi:v=i
  .subst hvi
   rw[ed]at hp
   rw[hU0]at hp ⊢
   refine⟨fun e=>?_,fun e=>by simp at e,fun e1 e2=>?_,fun e1 _ e3=>hp.ia e1 (.inr (by simp)) e3.cons,fun e=>hp.ib (hib _ e),fun x hx hxs _=>by rw[hst];exact hp.st x hx hxs (by simp)⟩
   .have:=q_V (h.vo v hvn) e
    rw[hV]at this;cases this
   .rcases hp.inq e1 e2 with e|e|⟨x,e,_⟩|e
    .rcases e.tl with e|⟨e,_⟩
     .exact .inl e
     .cases e
    .have:=hao.iv _ e;rw[hv]at this;cases this
    .simp at e
    .rw[hnu]at e;cases e
  .have hne:i≠v:=fun e=>hvi e.symm
   have eD:dnM (pop M i j v j)=dnM (M v j):=by rw[yH_ (fun e=>hvi e.1)]
   have hf:(yesA (B j) i).fail.testBit v=(B j).fail.testBit v:=by rw[hfb,decide_eq_false hne];simp
   have hr:Rof (yesA (B j) i) v=Rof (B j) v:=by unfold Rof;rw[hqe,hvb v hne]
   rw[eD]
   refine⟨fun e=>by rw[hf];exact hp.told e,fun e=>by rw[hf];exact hp.yl e,fun e1 e2=>?_,fun e1 e2 e3=>hp.ia e1 (by rw[<-hr];exact e2) e3,fun e=>hp.ib (hib _ e),fun x hx hxs hrl=>by rw[hst];exact hp.st x hx hxs hrl⟩
   rcases hp.inq e1 e2 with e|e|e|e
   .exact .inl e
   .rcases hin with ⟨u,_⟩|e0
    .exact .inr (.inr (.inr u))
    .rw[e0];exact .inr (.inl e)
   .exact .inr (.inr (.inl e))
   .rw[hnu]at e;cases e
 .rcases hin with ⟨_,e0⟩|e0
  .exact absurd e0 e
  .have h0:=hl.nf j hj (by rw[<-e0];exact e)
   refine xC_ fun v hb=>?_
   rw[hfb,h0]at hb
   simp at hb
 ·have:(upd1 B j (yesA (B j) i) a).stamp=(B a).stamp:=by
   unfold upd1
   split
   .next e=>subst e;exact hst
   .rfl
  rw[this]
  exact hl.sa a v ha hvn m (wa_ hm) hk
end
end Go.Proofs.Ytpfjlnmnolbiaaa.QP
namespace Go.Proofs.Ytpfjlnmnolbiaaa.QP
section
variable{n:Nat}{Q:List Nat}{T:Nat}{B:Nat->Bt}{M:Nat->Nat->Ms}
theorem oV_{i j:Nat}{s:Nat}{b:Bt}(hl:LInv n B M)(hst:b.stamp=(B j).stamp):∀a v,a<n->v<n->∀m∈put (pop M i j) j ((mem n s).map fun v=>(Kd.yld,v)) ⟨0,0⟩ a v,m.1=.ask->m.2=(upd1 B j b a).stamp:=by
 intro a v ha hv m hm hk
 have e1:(upd1 B j b a).stamp=(B a).stamp:=by
  unfold upd1
  split
  .next e=>subst e;exact hst
  .rfl
 rw[e1]
 unfold put at hm
 split at hm
 .rcases zzw_.1 hm with hm|hm
  .exact hl.sa a v ha hv m (wa_ hm) hk
  .rw[xx_ hv]at hm
   split at hm
   .simp at hm;rw[hm]at hk;cases hk
   .simp at hm
 .exact hl.sa a v ha hv m (wa_ hm) hk
theorem jg_{s:Nat}{a j v:Nat}{U:List Up}(h:.yld∈(if a=j/\s.testBit v=true then U++[Up.yld] else U)):.yld∈U\/s.testBit v=true:=by
 split at h
 .next e=>exact .inr e.2
 .exact .inl h
theorem pE_{s:Nat}{a j v:Nat}{U:List Up}{x:Up}(h:x∈U):x∈(if a=j/\s.testBit v=true then U++[Up.yld] else U):=by
 split
 .simp[h]
 .exact h
theorem l8_{s:Nat}{a j v:Nat}{U:List Up}(h:.rel∉(if a=j/\s.testBit v=true then U++[Up.yld] else U)):.rel∉U:=fun e=>h (pE_ e)
theorem LInv.fail{i j:Nat}{s:Sp}{rest:Ms}(hl:LInv n B M)(h:NInv n Q T B M)(hi:i<n)(hj:j<n)(hM:M i j=(.fal,s)::rest):LInv n (upd1 B j (failA n (B j) i).1) (put (pop M i j) j (failA n (B j) i).2 ⟨0,0⟩):=by
 have hao:=h.ao j hj
 have old:=h.sh j i hj hi
 have ed:=o7_ hM (x:=.fal) rfl
 rw[ed]at old
 obtain⟨hR,_⟩:=old.fail
 obtain⟨hq,hv⟩:=jc_ hR
 have hnu:=sb_ hao hq hv
 have hfb:∀v,(failA n (B j) i).1.fail.testBit v=(((B j).fail.testBit v||decide (i=v))||(B j).inqd.testBit v):=fun v=>by
  show (((B j).fail|||2^i)|||(B j).inqd).testBit v=_
  rw[Nat.testBit_or,Nat.testBit_or,pow_bit]
 have hvb:∀v,(failA n (B j) i).1.votes.testBit v=true->(B j).votes.testBit v=true:=fun v e=>by
  have:(failA n (B j) i).1.votes=wo (B j).votes (B j).inqd:=rfl
  rw[this,wo_bit]at e
  simp at e
  exact e.1
 have hi0:(failA n (B j) i).1.inqd=0:=by
  show wo (B j).inqd (B j).inqd=0
  refine xC_ fun v e=>?_
  rw[wo_bit]at e
  simp at e
 have eU:∀a v,v<n->upM (put (pop M i j) j (failA n (B j) i).2 ⟨0,0⟩ a v)=if a=j/\(B j).inqd.testBit v=true then upM (M a v)++[.yld] else upM (M a v):=fun a v hv=>by
  have:=uA_ (M:=pop M i j) (j:=j) (s:=(B j).inqd) (k:=.yld) (u0:=.yld) ⟨0,0⟩ rfl (a:=a) hv
  rw[vA_ hM rfl]at this
  exact this
 have eD:∀a v,v<n->dnM (put (pop M i j) j (failA n (B j) i).2 ⟨0,0⟩ a v)=dnM (pop M i j a v):=fun a v hv=>uB_ (M:=pop M i j) (j:=j) (s:=(B j).inqd) (k:=.yld) ⟨0,0⟩ rfl hv
 refine hl.A hj rfl rfl rfl (fun a v _ hvn hne=>by rw[eU a v hvn,if_neg (fun e=>hne e.1)]) (fun a v _ hvn hne=>by rw[eD a v hvn,yH_ (fun e=>hne e.2)]) (fun v hvn=>?_) (fun e=>absurd hi0 e) (oV_ hl rfl)
 have hp:=hl.lp j v hj hvn
 rw[eU j v hvn,eD v j hj]
 have hD:.fal∈dnM (M v j)->(failA n (B j) i).1.fail.testBit v=true\/.fal∈dnM (pop M i j v j):=fun e=>by
  by_cases hvi:v=i
  .exact .inl (by rw[hfb,hvi];simp)
  .rw[yH_ (fun e=>hvi e.1)];exact .inr e
 have hPI:PI (dnM (M v j))->PI (dnM (pop M i j v j)):=fun e=>by
  by_cases hvi:v=i
  .subst hvi
   rw[ed]at e
   rcases e.tl with e|⟨e,_⟩
   .exact e
   .cases e
  .rw[yH_ (fun e=>hvi e.1)];exact e
 have hPI2:PI (dnM (pop M i j v j))->PI (dnM (M v j)):=fun e=>by
  by_cases hvi:v=i
  .subst hvi;rw[ed];exact e.cons
  .rwa [yH_ (fun e=>hvi e.1)]at e
 have hY:.yes∈dnM (pop M i j v j)->.yes∈dnM (M v j):=fun e=>by
  by_cases hvi:v=i
  .subst hvi;rw[ed];simp[e]
  .rwa [yH_ (fun e=>hvi e.1)]at e
 refine⟨fun e=>?_,fun e=>?_,fun e1 e2=>?_,fun e1 e2 e3=>?_,fun e=>?_,fun x hx hxs hr=>hp.st x hx hxs (l8_ hr)⟩
 .rcases hp.told e with e|e|e
  .exact .inl (by rw[hfb,e];simp)
  .rcases hD e with e|e
   .exact .inl e
   .exact .inr (.inl e)
  .exact .inr (.inr e)
 .rcases jg_ e with e|e
  .have:=hp.yl e
   exact⟨by rw[hfb,this.1];simp,this.2⟩
  .exact⟨by rw[hfb,e];simp,hp.ib e⟩
 .rcases hp.inq e1 e2 with e|e|⟨x,e,hx⟩|e
  .exact .inl (hPI e)
  .exact .inr (.inr (.inl ⟨.yld,by rw[if_pos ⟨rfl,e⟩];simp,by simp⟩))
  .exact .inr (.inr (.inl ⟨x,pE_ e,hx⟩))
  .rw[hnu]at e;cases e
 .refine hp.ia e1 ?_ (hPI2 e3)
  rcases e2 with e2|e2
  .left
   unfold Rof at e2 ⊢
   have eq:(failA n (B j) i).1.qu=(B j).qu:=rfl
   rw[eq]at e2
   cases q1:(B j).qu.testBit v with
   |false=>rw[q1]at e2;simp at e2
   | true =>
     rw[q1]at e2
     cases q2:(failA n (B j) i).1.votes.testBit v with
     |false=>rw[q2]at e2;simp at e2
     |true=>rw[hvb v q2];rfl
  .exact .inr (hY e2)
 .rw[hi0]at e;simp at e
end
end Go.Proofs.Ytpfjlnmnolbiaaa.QP
namespace Go.Proofs.Ytpfjlnmnolbiaaa.QP
section
variable{n:Nat}{Q:List Nat}{T:Nat}{B:Nat->Bt}{M:Nat->Nat->Ms}
theorem LInv.inq{i j:Nat}{s:Sp}{rest:Ms}(hl:LInv n B M)(h:NInv n Q T B M)(hi:i<n)(hj:j<n)(hM:M i j=(.inq,s)::rest):LInv n (upd1 B j (inqA n (B j) i).1) (put (pop M i j) j (inqA n (B j) i).2 ⟨0,0⟩):=by
 have hao:=h.ao j hj
 have old:=h.sh j i hj hi
 have ed:=o7_ hM (x:=.inq) rfl
 rw[ed]at old
 have hU:∀a v,upM (pop M i j a v)=upM (M a v):=fun a v=>vA_ hM rfl a v
 have hDne:∀a v,v≠j->dnM (pop M i j a v)=dnM (M a v):=fun a v hne=>by rw[yH_ (fun e=>hne e.2)]
 have hDv:∀v,v≠i->dnM (pop M i j v j)=dnM (M v j):=fun v hne=>by rw[yH_ (fun e=>hne e.1)]
 have hfal:∀v,.fal∈dnM (M v j)->.fal∈dnM (pop M i j v j):=fun v e=>by
  by_cases hvi:v=i
  .subst hvi;rw[ed]at e;simpa using e
  .rwa [hDv v hvi]
 have hyes:∀v,.yes∈dnM (pop M i j v j)->.yes∈dnM (M v j):=fun v e=>by
  by_cases hvi:v=i
  .subst hvi;rw[ed];simp[e]
  .rwa [hDv v hvi]at e
 have hPI2:∀v,PI (dnM (pop M i j v j))->PI (dnM (M v j)):=fun v e=>by
  by_cases hvi:v=i
  .subst hvi;rw[ed];exact e.cons
  .rwa [hDv v hvi]at e
 have hPI:∀v,PI (dnM (M v j))->PI (dnM (pop M i j v j))\/(v=i/\.yes∉dnM (pop M i j i j)):=fun v e=>by
  by_cases hvi:v=i
  .subst hvi
   rw[ed]at e
   rcases e.tl with e|⟨_,e⟩
   .exact .inl e
   .exact .inr ⟨rfl,e⟩
  .rw[hDv v hvi];exact .inl e
 -- the asker holds the vote: the inquiry is about it
 have hcur:(B j).votes.testBit i=true->hasS (B i).given j=true/\(B i).asked=true/\OI (dnM (pop M i j i j))/\upM (M j i)=[]:=fun hvb=>by
  have hR:Rof (B j) i=.h:=by unfold Rof;rw[hao.vq i hvb,hvb];rfl
  have old2:=old
  rw[hR]at old2
  obtain⟨⟨hV,hU0⟩,hoi⟩:=tv_ old2
  have hg:hasS (B i).given j=true:=by
   cases e:hasS (B i).given j with
   |true=>rfl
   | false =>
     exfalso
     unfold Vof at hV
     rw[e]at hV
     cases e2:hasS (B i).queue j<;>rw[e2]at hV<;>simp at hV
  have hoi':OI (dnM (pop M i j i j)):=fun x hx=>hoi x (by simp[hx])
  refine⟨hg,(hl.lp j i hj hi).ia hg (.inl hR) ?_,hoi',hU0⟩
  rw[ed]
  exact⟨[],_,rfl,hoi'.yes⟩
 unfold inqA
 split
 .next hc =>
  rw[vL_]
  refine hl.A hj rfl rfl rfl (fun a v _ _ _=>hU a v) (fun a v _ _ hne=>hDne a v hne) (fun v hvn=>?_) (fun e=>hl.nf j hj e) fun a v ha hvn m hm hk=>by
   have e1:upd1 B j (B j) a=B a:=by
    unfold upd1
    split
    .next e=>rw[e]
    .rfl
   rw[e1]
   exact hl.sa a v ha hvn m (wa_ hm) hk
  have hp:=hl.lp j v hj hvn
  rw[hU]
  refine⟨fun e=>?_,hp.yl,fun e1 e2=>?_,fun e1 e2 e3=>hp.ia e1 (e2.imp id (hyes v)) (hPI2 v e3),hp.ib,hp.st⟩
  .rcases hp.told e with e|e|e
   .exact .inl e
   .exact .inr (.inl (hfal v e))
   .exact .inr (.inr e)
  .rcases hp.inq e1 e2 with e|e|e|e
   .rcases hPI v e with e|⟨rfl,hny⟩
    .exact .inl e
    .rcases hc with hc|hc
     .have hV:=g_V e2
      rw[hV]at old
      have hnh:Rof (B j) v≠.h:=fun q=>by
       unfold Rof at q
       rw[hc]at q
       split at q<;>simp at q
      generalize hdd:(Dn.inq::dnM (pop M v j v j))=D at old
      generalize hrr:Rof (B j) v=R at old hnh
      generalize hUU:upM (M j v)=U at old ⊢
      cases old with
      | gy ha hb =>
        exfalso
        rename_i a b
        have:Dn.yes∈Dn.inq::dnM (pop M v j v j):=by rw[hdd];simp
        simp at this
        exact hny this
      |gh _=>exact absurd rfl hnh
      |gb _=>exact .inr (.inr (.inl ⟨.yld,by simp_all,by simp⟩))
      |gr _=>exact .inr (.inr (.inl ⟨.rel,by simp_all,by simp⟩))
      |ga _=>exact .inr (.inr (.inl ⟨.rel,by simp_all,by simp⟩))
     .exact .inr (.inr (.inr hc))
   .exact .inr (.inl e)
   .exact .inr (.inr (.inl e))
   .exact .inr (.inr (.inr e))
 .next hc =>
  have hvb:(B j).votes.testBit i=true:=by
   cases e:(B j).votes.testBit i with
   |true=>rfl
   |false=>exact absurd (.inl e) hc
  have hnu:(B j).using'=false:=by
   cases e:(B j).using' with
   |false=>rfl
   |true=>exact absurd (.inr e) hc
  obtain⟨hg,hask,hoi,hU0⟩:=hcur hvb
  split
  .next hf0 =>
   rw[vL_]
   have hib:∀v,((B j).inqd|||2^i).testBit v=((B j).inqd.testBit v||decide (i=v)):=fun v=>by rw[Nat.testBit_or,pow_bit]
   refine hl.A hj rfl rfl rfl (fun a v _ _ _=>hU a v) (fun a v _ _ hne=>hDne a v hne) (fun v hvn=>?_) (fun _=>hf0) fun a v ha hvn m hm hk=>?_
   .have hp:=hl.lp j v hj hvn
    rw[hU]
    refine⟨fun e=>?_,hp.yl,fun e1 e2=>?_,fun e1 e2 e3=>hp.ia e1 (e2.imp id (hyes v)) (hPI2 v e3),fun e=>?_,hp.st⟩
    .rcases hp.told e with e|e|e
     .exact .inl e
     .exact .inr (.inl (hfal v e))
     .exact .inr (.inr e)
    .rcases hp.inq e1 e2 with e|e|e|e
     .rcases hPI v e with e|⟨rfl,_⟩
      .exact .inl e
      .exact .inr (.inl (by rw[hib];simp))
     .exact .inr (.inl (by rw[hib,e];rfl))
     .exact .inr (.inr (.inl e))
     .exact .inr (.inr (.inr e))
    .rw[hib]at e
     rw[zzy_,zzp_]at e
     rcases e with e|rfl
     .exact hp.ib e
     .exact hask
   ·have e1:(upd1 B j { B j with inqd:=(B j).inqd|||2^i } a).stamp=(B a).stamp:=by
     unfold upd1
     split
     .next e=>subst e;rfl
     .rfl
    rw[e1]
    exact hl.sa a v ha hvn m (wa_ hm) hk
  .next hf0 =>
   have hin0:(B j).inqd=0:=by
    by_cases e:(B j).inqd=0
    .exact e
    .exact absurd (hl.nf j hj e) hf0
   have hi0:(give n (B j) (2^i)).1.inqd=0:=by
    show wo (B j).inqd (2^i)=0
    rw[hin0]
    exact xC_ fun v e=>by rw[wo_bit]at e;simp at e
   have hfb:∀v,(give n (B j) (2^i)).1.fail.testBit v=((B j).fail.testBit v||decide (i=v)):=fun v=>by
    show ((B j).fail|||2^i).testBit v=_
    rw[Nat.testBit_or,pow_bit]
   have hvbb:∀v,(give n (B j) (2^i)).1.votes.testBit v=((B j).votes.testBit v&&!decide (i=v)):=fun v=>by
    show (wo (B j).votes (2^i)).testBit v=_
    rw[wo_bit,pow_bit]
   have eU:∀a v,v<n->upM (put (pop M i j) j (give n (B j) (2^i)).2 ⟨0,0⟩ a v)=if a=j/\(2^i).testBit v=true then upM (M a v)++[.yld] else upM (M a v):=fun a v hv=>by
    have:=uA_ (M:=pop M i j) (j:=j) (s:=2^i) (k:=.yld) (u0:=.yld) ⟨0,0⟩ rfl (a:=a) hv
    rw[hU]at this
    exact this
   have eD:∀a v,v<n->dnM (put (pop M i j) j (give n (B j) (2^i)).2 ⟨0,0⟩ a v)=dnM (pop M i j a v):=fun a v hv=>uB_ (M:=pop M i j) (j:=j) (s:=2^i) (k:=.yld) ⟨0,0⟩ rfl hv
   refine hl.A hj rfl rfl rfl (fun a v _ hvn hne=>by rw[eU a v hvn,if_neg (fun e=>hne e.1)]) (fun a v _ hvn hne=>by rw[eD a v hvn,hDne a v hne]) (fun v hvn=>?_) (fun e=>absurd hi0 e) (oV_ hl rfl)
   have hp:=hl.lp j v hj hvn
   rw[eU j v hvn,eD v j hj]
   refine⟨fun e=>?_,fun e=>?_,fun e1 e2=>?_,fun e1 e2 e3=>?_,fun e=>?_,fun x hx hxs hr=>hp.st x hx hxs (l8_ hr)⟩
   .rcases hp.told e with e|e|e
    .exact .inl (by rw[hfb,e];rfl)
    .exact .inr (.inl (hfal v e))
    .exact .inr (.inr e)
   .rcases jg_ e with e|e
    .have:=hp.yl e
     exact⟨by rw[hfb,this.1];rfl,this.2⟩
    .rw[pow_bit,zzp_]at e
     subst e
     exact⟨by rw[hfb];simp,hask⟩
   .rcases hp.inq e1 e2 with e|e|⟨x,e,hx⟩|e
    .rcases hPI v e with e|⟨rfl,_⟩
     .exact .inl e
     .exact .inr (.inr (.inl ⟨.yld,by rw[if_pos ⟨rfl,by rw[pow_bit];simp⟩];simp,by simp⟩))
    .rw[hin0]at e;simp at e
    .exact .inr (.inr (.inl ⟨x,pE_ e,hx⟩))
    .rw[hnu]at e;cases e
   .refine hp.ia e1 ?_ (hPI2 v e3)
    rcases e2 with e2|e2
    .left
     unfold Rof at e2 ⊢
     have eq:(give n (B j) (2^i)).1.qu=(B j).qu:=rfl
     rw[eq,hvbb]at e2
     cases q1:(B j).qu.testBit v with
     |false=>rw[q1]at e2;simp at e2
     | true =>
       rw[q1]at e2
       cases q2:(B j).votes.testBit v with
       |false=>rw[q2]at e2;simp at e2
       |true=>rfl
    .exact .inr (hyes v e2)
   .rw[hi0]at e;simp at e
end
end Go.Proofs.Ytpfjlnmnolbiaaa.QP
namespace Go.Proofs.Ytpfjlnmnolbiaaa.QP
section
variable{n:Nat}{Q:List Nat}{T:Nat}{B:Nat->Bt}{M:Nat->Nat->Ms}
theorem PI.apps{l:List Dn}(h:PI l):∀ {r:List Dn},.yes∉r->PI (l++r):=by
 intro r
 obtain⟨a,b,rfl,hb⟩:=h
 intro hr
 exact⟨a,b++r,by simp,by simp[hb,hr]⟩
theorem l9_{i j:Nat}{m:Kd×Sp}{rest:Ms}{x:Up}(hM:M i j=m::rest)(hk:toUp m.1=some x):upM (M i j)=x::upM (pop M i j i j):=by
 rw[yp_ hM,hM]
 simp[upM,hk]
theorem LInv.V{i j:Nat}{m:Kd×Sp}{rest:Ms}{u0:Up}{b:Bt}{out:Out}(hl:LInv n B M)(hj:j<n)(hM:M i j=m::rest)(hkd:toDn m.1=none)
 (hb:b.qu=(B j).qu/\b.votes=(B j).votes/\b.fail=(B j).fail/\b.inqd=(B j).inqd/\b.stamp=(B j).stamp/\b.using'=(B j).using') (ho:∀o∈out,toUp o.1=none)
 (hlp:∀a,a<n->LP a (B a) b j (upM (pop M i j a j)) (dnM (M j a)++dnM (got out ⟨0,0⟩ a))) (hak:AK b):LInv n (upd1 B j b) (put (pop M i j) j out ⟨0,0⟩):=by
 have hA:∀a v U D (b':Bt),LP a (B a) b' v U D->LP a (upd1 B j b a) b' v U D:=fun a v U D b' hp=>by
  unfold upd1
  split
  .next e=>subst e;exact hp.asker hb.2.2.1 hb.2.2.2.1 hb.2.2.2.2.2 hb.1 hb.2.1 hb.2.2.2.2.1
  .exact hp
 have hgu:∀a,upM (got out ⟨0,0⟩ a)=[]:=by
  intro a
  unfold upM
  rw[List.filterMap_eq_nil_iff]
  intro x hx
  unfold got at hx
  obtain⟨o,ho',rfl⟩:=List.mem_map.1 hx
  exact ho o (List.mem_filter.1 ho').1
 have eU:∀a v,upM (put (pop M i j) j out ⟨0,0⟩ a v)=upM (pop M i j a v):=fun a v=>by
  unfold put
  split
  .rw[vB_,hgu];simp
  .rfl
 have eD:∀a v,dnM (put (pop M i j) j out ⟨0,0⟩ a v)=if a=j then dnM (M a v)++dnM (got out ⟨0,0⟩ v) else dnM (M a v):=fun a v=>by
  unfold put
  split
  .rw[u9_,tm_ hM hkd]
  .rw[tm_ hM hkd]
 have est:∀a,(upd1 B j b a).stamp=(B a).stamp:=fun a=>by
  unfold upd1
  split
  .next e=>subst e;exact hb.2.2.2.2.1
  .rfl
 refine⟨fun a v ha hv=>?_,fun v hv=>?_,fun a ha=>?_,fun a v ha hv m' hm hk=>?_⟩
 .refine hA a v _ _ _ ?_
  rw[eU,eD]
  by_cases hvj:v=j
  .subst hvj
   have:upd1 B v b v=b:=by simp[upd1]
   rw[if_pos rfl,this]
   exact hlp a ha
  .have:upd1 B j b v=B v:=by simp[upd1,hvj]
   rw[if_neg hvj,this,yH_ (fun e=>hvj e.2)]
   exact hl.lp a v ha hv
 .unfold upd1
  split
  .exact hak
  .exact hl.ak v hv
 .unfold upd1
  split
  .next e=>subst e;rw[hb.2.2.2.1,hb.2.2.1];exact hl.nf a ha
  .exact hl.nf a ha
 .rw[est]
  unfold put at hm
  split at hm
  .rcases zzw_.1 hm with hm|hm
   .exact hl.sa a v ha hv m' (wa_ hm) hk
   .unfold got at hm
    obtain⟨o,ho',rfl⟩:=List.mem_map.1 hm
    have:=ho o (List.mem_filter.1 ho').1
    have hk:o.1=.ask:=hk
    rw[hk]at this
    cases this
  .exact hl.sa a v ha hv m' (wa_ hm) hk
theorem va_(out:Out)(a:Nat):dnM (got out ⟨0,0⟩ a)=(out.filter fun o=>o.2==a).filterMap fun o=>toDn o.1:=by
 unfold dnM got
 rw[List.filterMap_map]
 rfl
theorem oO_{s:Sp}{l:List Sp}(h:isFst s l=true):ins s l=s::l:=by
 cases l with
 |nil=>rfl
 | cons x r =>
   have h:s.lt x=true:=h
   unfold ins
   have:x.lt s=false:=by
    cases e:x.lt s with
    |false=>rfl
    |true=>have:=Sp.trans h e;rw[Sp.irr]at this;cases this
   rw[this]
   rfl
theorem mr_{s:Sp}{l:List Sp}(h:isFst s l=false)(hs:∀x∈l,x.s≠s.s):∃x r,l=x::r/\ins s l=x::ins s r:=by
 cases l with
 |nil=>cases h
 | cons x r =>
   have h:s.lt x=false:=h
   have:=Sp.tot h (fun e=>hs x (by simp) e.symm)
   exact⟨x,r,rfl,by show (if x.lt s then x::ins s r else s::x::r)=_;rw[this];rfl⟩
theorem LInv.ask{i j:Nat}{s:Sp}{rest:Ms}(hl:LInv n B M)(h:NInv n Q T B M)(hi:i<n)(hj:j<n)(hM:M i j=(.ask,s)::rest):LInv n (upd1 B j (askV (B j) s).1) (put (pop M i j) j (askV (B j) s).2 ⟨0,0⟩):=by
 obtain⟨⟨hs,_,hnx⟩,_⟩:=h.ask hi hj hM
 have hvo:=h.vo j hj
 have hst:s=(B i).stamp:=hl.sa i j hi hj (.ask,s) (by rw[hM];simp) rfl
 have old:=h.sh i j hi hj
 have eu:=l9_ hM (x:=.ask) rfl
 rw[eu]at old
 obtain⟨hVn,hRw,hU0,_⟩:=old.ask
 have hgi:hasS (B j).given i=false:=(jb_ hVn).1
 have hqi:hasS (B j).queue i=false:=(jb_ hVn).2
 have hUne:∀a,a≠i->upM (pop M i j a j)=upM (M a j):=fun a ha=>by rw[yH_ (fun e=>ha e.1)]
 have hUsub:∀a x,x∈upM (pop M i j a j)->x∈upM (M a j):=fun a x hx=>by
  by_cases e:a=i
  .subst e;rw[hU0]at hx;simp at hx
  .rwa [hUne a e]at hx
 have hst2:∀a (x:Sp),x∈(B j).given++(B j).queue->x.s=a->a<n->.rel∉upM (pop M i j a j)->x=(B a).stamp:=fun a x hx hxa ha hr=>by
  have hai:a≠i:=fun e=>hnx x hx (hxa.trans e)
  rw[hUne a hai]at hr
  exact(hl.lp a j ha hj).st x hx hxa hr
 generalize hr:askV (B j) s=R
 unfold askV at hr
 split at hr
 .next hg =>
  subst hr
  have hq:=hvo.gq hg
  have hask:(B j).asked=false:=by
   cases e:(B j).asked with
   |false=>rfl
   | true =>
     obtain⟨_,q,r,g,t,_,_,h3,_⟩:=(hl.ak j hj).1 e
     rw[hg]at h3;cases h3
  simp only
  refine hl.V (u0:=.ask) hj hM rfl ⟨rfl,rfl,rfl,rfl,rfl,rfl⟩ (by intro o ho;simp at ho;rw[ho];rfl) (fun a ha=>?_) ⟨fun e=>(by rw[hask]at e;cases e),fun ⟨_,q,r,g,t,h1,_⟩=>(by rw[hq]at h1;cases h1)⟩
  have hp:=hl.lp a j ha hj
  refine⟨fun e=>(by rw[hq]at e;simp[hasS]at e),fun e=>?_,fun e=>(by rw[hask]at e;cases e),fun e _ e3=>?_,fun e=>hp.ib e,fun x hx hxs hr=>?_⟩
  .have:=(hp.yl (hUsub a _ e)).2
   rw[hask]at this;cases this
  .exfalso
   have hai:s.s=a:=by simpa[hasS] using e
   have e5:dnM (got [(.yes,s.s)] ⟨0,0⟩ a)=[.yes]:=by rw[va_];simp[hai,toDn]
   rw[e5]at e3
   exact e3.unapp.1 rfl
  .rw[hq]at hx
   simp at hx
   subst hx
   rw[<-hxs,hs]
   exact hst
 .next g t hg =>
  have hgs:g.s≠i:=hnx g (by rw[hg];simp)
  have hqn:∀x∈(B j).queue,x.s≠s.s:=fun x hx=>by rw[hs];exact hnx x (by simp[hx])
  split at hr
  .next hc =>
   subst hr
   rw[zzg_]at hc
   obtain⟨hf,hlt⟩:=hc
   have hins:=oO_ hf
   have hout:∀o∈falFst g (B j).queue++(if (B j).asked=true then [] else [(Kd.inq,g.s)]),toUp o.1=none/\o.1≠.yes:=by
    intro o ho
    rcases zzw_.1 ho with ho|ho
    .unfold falFst at ho
     split at ho
     .simp at ho
     .split at ho
      .simp at ho;rw[ho];exact⟨rfl,by simp⟩
      .simp at ho
    .split at ho
     .simp at ho
     .simp at ho;rw[ho];exact⟨rfl,by simp⟩
   have hny:∀a,.yes∉dnM (got (falFst g (B j).queue++(if (B j).asked=true then [] else [(Kd.inq,g.s)])) ⟨0,0⟩ a):=fun a e=>by
    rw[va_]at e
    obtain⟨o,ho,e⟩:=List.mem_filterMap.1 e
    have:=(hout o (List.mem_filter.1 ho).1).2
    obtain⟨k,x⟩:=o
    cases k<;>simp[toDn]at e this
   refine hl.V (u0:=.ask) hj hM rfl ⟨rfl,rfl,rfl,rfl,rfl,rfl⟩ (fun o ho=>(hout o ho).1) (fun a ha=>?_) ⟨fun _=>⟨s.s,s,(B j).queue,g,t,hins,rfl,hg,hlt⟩,fun _=>rfl⟩
   have hp:=hl.lp a j ha hj
   refine⟨fun e=>?_,fun e=>⟨(hp.yl (hUsub a _ e)).1,rfl⟩,fun _ e2=>?_,fun _ _ _=>rfl,fun _=>rfl,fun x hx hxs hr=>?_⟩
   .have e:hasS (ins s (B j).queue) a=true:=e
    rw[wy_,zzy_,zzp_]at e
    rcases e with e|e
    .exact .inr (.inr ⟨s,(B j).queue,g,t,hins,e,hg,hlt⟩)
    .rcases hp.told e with e|e|⟨q,r,g',t',h1,h2,h3,h4⟩
     .exact .inl e
     .exact .inr (.inl (zzw_.2 (.inl e)))
     .rw[hg]at h3
      cases h3
      refine .inr (.inl (zzw_.2 (.inr ?_)))
      rw[va_,h1]
      simp only[falFst,h4,if_true]
      simp[h2,toDn]
   ·have hag:g.s=a:=by
     have e2:hasS (B j).given a=true:=e2
     rw[hg]at e2
     have:=wz_ hvo hg
     subst this
     simpa[hasS] using e2
    have hai:a≠i:=fun e=>hgs (hag.trans e)
    rw[hUne a hai]
    cases ha2:(B j).asked with
    | true =>
      rcases hp.inq ha2 e2 with e|e|e|e
      .exact .inl (e.apps (by have:=hny a;rwa [ha2]at this))
      .exact .inr (.inl e)
      .exact .inr (.inr (.inl e))
      .exact .inr (.inr (.inr e))
    | false =>
      left
      have:dnM (got (falFst g (B j).queue++(if false=true then [] else [(Kd.inq,g.s)])) ⟨0,0⟩ a)=dnM (got (falFst g (B j).queue) ⟨0,0⟩ a)++[.inq]:=by
       rw[va_,va_]
       simp[List.filter_append,hag,toDn]
      rw[this,<-List.append_assoc]
      exact PI.inq _
   .have hx:x∈(B j).given++ins s (B j).queue:=hx
    rw[hins]at hx
    rcases zzw_.1 hx with hx|hx
    .exact hst2 a x (by simp[hx]) hxs ha hr
    .rcases List.mem_cons.1 hx with rfl|hx
     .rw[<-hxs,hs];exact hst
     .exact hst2 a x (by simp[hx]) hxs ha hr
  .next hc =>
   subst hr
   have hFi:∀k,Fst { B j with time:=max (B j).time s.t,queue:=ins s (B j).queue } k↔Fst (B j) k:=by
    intro k
    cases hf:isFst s (B j).queue with
    | true =>
      have hlt:s.lt g=false:=by
       cases e:s.lt g with
       |false=>rfl
       |true=>rw[hf,e]at hc;exact absurd rfl hc
      constructor
      .rintro⟨q,r,g',t',h1,_,h3,h4⟩
       exfalso
       have h1:ins s (B j).queue=q::r:=h1
       have h3:(B j).given=g'::t':=h3
       rw[oO_ hf]at h1
       rw[hg]at h3
       cases h1
       cases h3
       rw[hlt]at h4;cases h4
      .rintro⟨q,r,g',t',h1,_,h3,h4⟩
       exfalso
       rw[hg]at h3
       cases h3
       rw[h1]at hf
       have:=Sp.trans (show s.lt q=true from hf) h4
       rw[hlt]at this;cases this
    | false =>
      obtain⟨x,r,e1,e2⟩:=mr_ hf hqn
      constructor
      .rintro⟨q,r',g',t',h1,h2,h3,h4⟩
       have h1:ins s (B j).queue=q::r':=h1
       rw[e2]at h1
       cases h1
       exact⟨_,r,g',t',e1,h2,h3,h4⟩
      .rintro⟨q,r',g',t',h1,h2,h3,h4⟩
       rw[e1]at h1
       cases h1
       exact⟨_,_,g',t',e2,h2,h3,h4⟩
   have hak:AK { B j with time:=max (B j).time s.t,queue:=ins s (B j).queue }:=by
    have:=hl.ak j hj
    unfold AK at this ⊢
    simp only[hFi]
    exact this
   refine hl.V (u0:=.ask) hj hM rfl ⟨rfl,rfl,rfl,rfl,rfl,rfl⟩ (by intro o ho;simp at ho;rw[ho];rfl) (fun a ha=>?_) hak
   have hp:=hl.lp a j ha hj
   have eD:a≠i->dnM (got [(Kd.fal,s.s)] ⟨0,0⟩ a)=[]:=fun hai=>by
    rw[va_]
    have:(s.s==a)=false:=by rw[hs];simpa using fun e:i=a=>hai e.symm
    simp[this]
   refine⟨fun e=>?_,fun e=>hp.yl (hUsub a _ e),fun e1 e2=>?_,fun e1 e2 e3=>?_,hp.ib,fun x hx hxs hr=>?_⟩
   .have e:hasS (ins s (B j).queue) a=true:=e
    rw[wy_,zzy_,zzp_]at e
    rcases e with e|e
    .refine .inr (.inl (zzw_.2 (.inr ?_)))
     rw[va_]
     simp[e,toDn]
    .rcases hp.told e with e|e|e
     .exact .inl e
     .exact .inr (.inl (zzw_.2 (.inl e)))
     .exact .inr (.inr ((hFi a).2 e))
   .have e2:hasS (B j).given a=true:=e2
    have hai:a≠i:=fun e=>by rw[e,hgi]at e2;cases e2
    rw[hUne a hai,eD hai,List.append_nil]
    exact hp.inq e1 e2
   .have e1:hasS (B j).given a=true:=e1
    have hai:a≠i:=fun e=>by rw[e,hgi]at e1;cases e1
    rw[eD hai,List.append_nil]at e2 e3
    exact hp.ia e1 e2 e3
   .have hx:x∈(B j).given++ins s (B j).queue:=hx
    rcases zzw_.1 hx with hx|hx
    .exact hst2 a x (by simp[hx]) hxs ha hr
    .rcases yF_.1 hx with rfl|hx
     .rw[<-hxs,hs];exact hst
     .exact hst2 a x (by simp[hx]) hxs ha hr
end
end Go.Proofs.Ytpfjlnmnolbiaaa.QP
namespace Go.Proofs.Ytpfjlnmnolbiaaa.QP
section
variable{n:Nat}{Q:List Nat}{T:Nat}{B:Nat->Bt}{M:Nat->Nat->Ms}
theorem LInv.back{i j:Nat}{k:Kd}{s:Sp}{rest:Ms}{again:Bool}(hl:LInv n B M)(h:NInv n Q T B M)(hi:i<n)(hj:j<n)(hM:M i j=(k,s)::rest)(hk:(k=.yld/\again=true)\/(k=.rel/\again=false)){g:Sp}(hg:(B j).given=[g])(hgs:g.s=i) :
 LInv n (upd1 B j (backV (B j) g again).1) (put (pop M i j) j (backV (B j) g again).2 ⟨0,0⟩):=by
 have hvo:=h.vo j hj
 have hgi:hasS (B j).given i=true:=by rw[hg];simp[hasS,hgs]
 have hVi:Vof (B j) i=.g:=g_V hgi
 have hqi:hasS (B j).queue i=false:=by
  cases e:hasS (B j).queue i with
  |false=>rfl
  |true=>have:=q_V hvo e;rw[hVi]at this;cases this
 have hgo:∀a,hasS (B j).given a=true->a=i:=fun a e=>by
  rw[hg]at e
  simp[hasS]at e
  rw[<-e,hgs]
 have old:=h.sh i j hi hj
 obtain⟨u0,hu0,hkd,hne0⟩:∃u0,toUp k=some u0/\toDn k=none/\u0≠.ask:=by
  rcases hk with ⟨rfl,_⟩|⟨rfl,_⟩
  .exact⟨.yld,rfl,rfl,by simp⟩
  .exact⟨.rel,rfl,rfl,by simp⟩
 have eu:=l9_ hM hu0
 have hUi:.yld∉upM (pop M i j i j)/\.rel∉upM (pop M i j i j)/\Rof (B i) j≠.h:=by
  rw[eu,hVi]at old
  generalize dnM (M j i)=D at old
  generalize upM (pop M i j i j)=U at old
  generalize hrr:Rof (B i) j=R at old
  rcases hk with ⟨rfl,_⟩|⟨rfl,_⟩
  .cases hu0
   cases old
   simp
  .cases hu0
   cases old<;>simp
 have hUne:∀a,a≠i->upM (pop M i j a j)=upM (M a j):=fun a ha=>by rw[yH_ (fun e=>ha e.1)]
 have hib:∀a,a<n->(B a).inqd.testBit j=true->False:=fun a ha e=>by
  have hao:=h.ao a ha
  have hv:=hao.iv j e
  have hR:Rof (B a) j=.h:=by unfold Rof;rw[hao.vq j hv,hv];rfl
  have hs:=h.sh a j ha hj
  rw[hR]at hs
  obtain⟨⟨hV,_⟩,_⟩:=tv_ hs
  have hga:hasS (B j).given a=true:=by
   cases e:hasS (B j).given a with
   |true=>rfl
   | false =>
     exfalso
     unfold Vof at hV
     rw[e]at hV
     cases e2:hasS (B j).queue a<;>rw[e2]at hV<;>simp at hV
  have:=hgo a hga
  subst this
  exact hUi.2.2 hR
 have hyl:∀a,a<n->.yld∈upM (pop M i j a j)->False:=fun a ha e=>by
  by_cases hai:a=i
  .subst hai;exact hUi.1 e
  .rw[hUne a hai]at e
   have hs:=h.sh a j ha hj
   have hV:Vof (B j) a=.g:=by
    generalize upM (M a j)=U at hs e
    generalize Vof (B j) a=V at hs ⊢
    generalize Rof (B a) j=R at hs
    generalize dnM (M j a)=D at hs
    cases hs<;>simp at e ⊢
   have hga:hasS (B j).given a=true:=by
    cases e:hasS (B j).given a with
    |true=>rfl
    | false =>
      exfalso
      unfold Vof at hV
      rw[e]at hV
      cases e2:hasS (B j).queue a<;>rw[e2]at hV<;>simp at hV
   exact hai (hgo a hga)
 have hds:=hvo.ds
 rw[hg]at hds
 obtain⟨d1,d2⟩:=List.pairwise_cons.1 hds
 -- the list that remains
 obtain⟨L,hL⟩:∃L,(if again=true then ins g (B j).queue else (B j).queue)=L:=⟨_,rfl⟩
 have hLa:Asc L:=by
  rw[<-hL]
  split
  .exact u4_ hvo.asc fun x hx=>(d1 x (by simpa using hx)).symm
  .exact hvo.asc
 have hLd:Ds L:=by
  rw[<-hL]
  split
  .exact qb_ d2 fun x hx=>(d1 x (by simpa using hx)).symm
  .exact d2
 have hLm:∀x∈L,(x=g/\again=true)\/x∈(B j).queue:=fun x hx=>by
  rw[<-hL]at hx
  split at hx
  .next e =>
   rcases yF_.1 hx with h|h
   .exact .inl ⟨h,e⟩
   .exact .inr h
  .exact .inr hx
 have hLst:∀a,a<n->∀x∈L,x.s=a->.rel∉upM (pop M i j a j)->x=(B a).stamp:=fun a ha x hx hxa hr=>by
  rcases hLm x hx with ⟨rfl,hag⟩|hxq
  .have hai:a=i:=hxa.symm.trans hgs
   subst hai
   refine(hl.lp a j ha hj).st x (by simp[hg]) hxa ?_
   rw[eu]
   rcases hk with ⟨rfl,_⟩|⟨_,e⟩
   .cases hu0;simp;exact hr
   .rw[hag]at e;cases e
  ·have hai:a≠i:=fun e=>by
    have:hasS (B j).queue i=true:=zy_.2 ⟨x,hxq,hxa.trans e⟩
    rw[hqi]at this;cases this
   rw[hUne a hai]at hr
   exact(hl.lp a j ha hj).st x (by simp[hxq]) hxa hr
 -- who stands at the head and goes j7_ of g, stands at the head now
 have hLF:∀a,Fst (B j) a->∃x r,L=x::r/\x.s=a:=by
  rintro a ⟨q,r,g',t',h1,h2,h3,h4⟩
  rw[hg]at h3
  cases h3
  rw[<-hL,h1]
  split
  .refine⟨q,ins g r,?_,h2⟩
   show (if q.lt g then q::ins g r else g::q::r)=_
   rw[h4];rfl
  .exact⟨q,r,rfl,h2⟩
 have told:∀a,a<n->∀ {x r},L=x::r->hasS r a=true->(B a).fail.testBit j=true\/.fal∈dnM (M j a):=fun a ha x r hx e=>by
  obtain⟨y,hy,hya⟩:=zy_.1 e
  have hyL:y∈L:=by rw[hx];simp[hy]
  rcases hLm y hyL with ⟨rfl,hag⟩|hyq
  .left
   have hai:a=i:=hya.symm.trans hgs
   subst hai
   refine((hl.lp a j ha hj).yl ?_).1
   rw[eu]
   rcases hk with ⟨rfl,_⟩|⟨_,e⟩
   .cases hu0;simp
   .rw[hag]at e;cases e
  .rcases(hl.lp a j ha hj).told (zy_.2 ⟨y,hyq,hya⟩) with e|e|e
   .exact .inl e
   .exact .inr e
   .exfalso
    obtain⟨x',r',e1,e2⟩:=hLF a e
    rw[hx]at e1
    cases e1
    rw[hx]at hLd
    exact(List.pairwise_cons.1 hLd).1 y hy (e2.trans hya.symm)
 unfold backV
 rw[hL]
 cases hLc:L with
 | nil =>
   simp only
   refine hl.V (u0:=u0) hj hM hkd ⟨rfl,rfl,rfl,rfl,rfl,rfl⟩ (by intro o ho;simp at ho) (fun a ha=>?_) ⟨fun e=>(by cases e),fun ⟨_,q,r,g,t,h1,_⟩=>(by cases h1)⟩
   exact⟨fun e=>(by simp[hasS]at e),fun e=>(hyl a ha e).elim,fun e=>(by cases e),fun e=>(by simp[hasS]at e),fun e=>(hib a ha e).elim,fun x hx=>(by simp at hx)⟩
 | cons x r =>
   simp only
   refine hl.V (u0:=u0) hj hM hkd ⟨rfl,rfl,rfl,rfl,rfl,rfl⟩ (by intro o ho;simp at ho;rw[ho];rfl) (fun a ha=>?_) ⟨fun e=>(by cases e),fun ⟨_,q,r',g',t,h1,_,h3,h4⟩=>?_⟩
   .refine⟨fun e=>?_,fun e=>(hyl a ha e).elim,fun e=>(by cases e),fun e _ e3=>?_,fun e=>(hib a ha e).elim,fun y hy hya hr=>hLst a ha y (by rw[hLc];simpa using hy) hya hr⟩
    .rcases told a ha hLc e with e|e
     .exact .inl e
     .exact .inr (.inl (zzw_.2 (.inl e)))
    .exfalso
     have hxa:x.s=a:=by simpa[hasS] using e
     have e5:dnM (got [(Kd.yes,x.s)] ⟨0,0⟩ a)=[.yes]:=by rw[va_];simp[hxa,toDn]
     rw[e5]at e3
     exact e3.unapp.1 rfl
   .exfalso
    have h1:r=q::r':=h1
    have h3:[x]=g'::t:=h3
    cases h3
    rw[hLc,h1]at hLa
    have:=(List.pairwise_cons.1 hLa).1 q (by simp)
    have:=Sp.trans this h4
    rw[Sp.irr]at this
    cases this
theorem LInv.hear{i j:Nat}{m:Kd×Sp}{rest:Ms}(hl:LInv n B M)(h:NInv n Q T B M)(hi:i<n)(hj:j<n)(hM:M i j=m::rest):LInv n (upd1 B j (hearQ n (B j) i m).1) (put (pop M i j) j (hearQ n (B j) i m).2 ⟨0,0⟩):=by
 obtain⟨k,s⟩:=m
 cases k with
 |ask=>exact hl.ask h hi hj hM
 | yes =>
   show LInv n (upd1 B j (yesA (B j) i)) (put (pop M i j) j [] ⟨0,0⟩)
   rw[vL_]
   exact hl.yes h hi hj hM
 |fal=>exact hl.fail h hi hj hM
 |inq=>exact hl.inq h hi hj hM
 | yld =>
   obtain⟨g,h1,h2,_⟩:=h.back (again:=true) hi hj hM (.inl ⟨rfl,rfl⟩)
   have e:hearQ n (B j) i (.yld,s)=backV (B j) g true:=by unfold hearQ;simp only[h1]
   rw[e];exact hl.back h hi hj hM (.inl ⟨rfl,rfl⟩) h1 h2
 | rel =>
   obtain⟨g,h1,h2,_⟩:=h.back (again:=false) hi hj hM (.inr ⟨rfl,rfl⟩)
   have e:hearQ n (B j) i (.rel,s)=backV (B j) g false:=by unfold hearQ;simp only[h1]
   rw[e];exact hl.back h hi hj hM (.inr ⟨rfl,rfl⟩) h1 h2
theorem LInv.stp{B':Nat->Bt}{M':Nat->Nat->Ms}(hl:LInv n B M)(h:NInv n Q T B M)(hs:Stp n Q B M B' M'):LInv n B' M':=by
 cases hs with
 |idle=>exact hl
 |want hj h0 _=>exact hl.want h hj h0
 |done hj hu=>exact hl.done h hj hu
 |hear hi hj hM=>exact hl.hear h hi hj hM
theorem LInv.start:LInv n (fun _=>⟨0,0,0,0,0,⟨0,0⟩,false,false,[],[]⟩) (fun _ _=>[]) :=
 ⟨fun i v _ _=>⟨fun e=>(by simp[hasS]at e),fun e=>(by simp[upM]at e),fun e=>(by cases e),fun e=>(by simp[hasS]at e),fun e=>(by simp at e),fun x hx=>(by simp at hx)⟩,fun v _=>⟨fun e=>(by cases e),fun ⟨_,q,r,g,t,h1,_⟩=>(by cases h1)⟩,fun i _ e=>absurd rfl e,fun i v _ _ m hm=>(by simp at hm)⟩
end
theorem Rch.linv{n:Nat}{Q:List Nat}(h0:∀q∈Q,q≠0):∀ {k:Nat} {B:Nat->Bt} {M:Nat->Nat->Ms},Rch n Q k B M->LInv n B M:=by
 intro k B M h
 induction h with
 |start=>exact LInv.start
 |step h hs ih=>exact ih.stp (h.inv h0) hs
end Go.Proofs.Ytpfjlnmnolbiaaa.QP
namespace Go.Proofs.Ytpfjlnmnolbiaaa.QP
theorem maxi(f:Nat->Sp)(P:Nat->Prop):∀m,(∃i,i<m/\P i)->∃i,i<m/\P i/\∀k,k<m->P k->(f i).lt (f k)=false
 |0,⟨i,hi,_⟩=>absurd hi (by omega)
 | m + 1, ⟨i, hi, hp⟩ => by
   by_cases hex:∃i,i<m/\P i
   .obtain⟨a,ha,hpa,hmax⟩:=maxi f P m hex
    by_cases hm:P m/\(f a).lt (f m)=true
    .refine⟨m,by omega,hm.1,fun k hk hpk=>?_⟩
     cases e:(f m).lt (f k) with
     |false=>rfl
     | true =>
       exfalso
       have h1:=Sp.trans hm.2 e
       rcases Nat.lt_succ_iff_lt_or_eq.1 hk with h|h
       .rw[hmax k h hpk]at h1;cases h1
       .rw[h,Sp.irr]at e;cases e
    .refine⟨a,by omega,hpa,fun k hk hpk=>?_⟩
     rcases Nat.lt_succ_iff_lt_or_eq.1 hk with h|h
     .exact hmax k h hpk
     .subst h
      cases e:(f a).lt (f k) with
      |false=>rfl
      |true=>exact absurd ⟨hpk,e⟩ hm
   ·have him:i=m:=by
     rcases Nat.lt_succ_iff_lt_or_eq.1 hi with h|h
     .exact absurd ⟨i,h,hp⟩ hex
     .exact h
    subst him
    refine⟨i,by omega,hp,fun k hk hpk=>?_⟩
    rcases Nat.lt_succ_iff_lt_or_eq.1 hk with h|h
    .exact absurd ⟨k,h,hpk⟩ hex
    .rw[h,Sp.irr]
theorem i9_(f:Nat->Sp)(P:Nat->Prop):∀m,(∃i,i<m/\P i)->∃i,i<m/\P i/\∀k,k<m->P k->(f k).lt (f i)=false
 |0,⟨i,hi,_⟩=>absurd hi (by omega)
 | m + 1, ⟨i, hi, hp⟩ => by
   by_cases hex:∃i,i<m/\P i
   .obtain⟨a,ha,hpa,hmax⟩:=i9_ f P m hex
    by_cases hm:P m/\(f m).lt (f a)=true
    .refine⟨m,by omega,hm.1,fun k hk hpk=>?_⟩
     cases e:(f k).lt (f m) with
     |false=>rfl
     | true =>
       exfalso
       have h1:=Sp.trans e hm.2
       rcases Nat.lt_succ_iff_lt_or_eq.1 hk with h|h
       .rw[hmax k h hpk]at h1;cases h1
       .rw[h,Sp.irr]at e;cases e
    .refine⟨a,by omega,hpa,fun k hk hpk=>?_⟩
     rcases Nat.lt_succ_iff_lt_or_eq.1 hk with h|h
     .exact hmax k h hpk
     .subst h
      cases e:(f k).lt (f a) with
      |false=>rfl
      |true=>exact absurd ⟨hpk,e⟩ hm
   ·have him:i=m:=by
     rcases Nat.lt_succ_iff_lt_or_eq.1 hi with h|h
     .exact absurd ⟨i,h,hp⟩ hex
     .exact h
    subst him
    refine⟨i,by omega,hp,fun k hk hpk=>?_⟩
    rcases Nat.lt_succ_iff_lt_or_eq.1 hk with h|h
    .exact absurd ⟨k,h,hpk⟩ hex
    .rw[h,Sp.irr]
section
variable{n:Nat}{Q:List Nat}{T:Nat}{B:Nat->Bt}{M:Nat->Nat->Ms}
theorem vp_(h:NInv n Q T B M)(hM:∀a b,a<n->b<n->M a b=[]){i v:Nat}(hi:i<n)(hv:v<n):(Rof (B i) v=.o/\Vof (B v) i=.n)\/(Rof (B i) v=.w/\Vof (B v) i=.q)\/(Rof (B i) v=.h/\Vof (B v) i=.g):=by
 have hs:=h.sh i v hi hv
 rw[hM i v hi hv,hM v i hv hi]at hs
 have e1:upM []=[]:=rfl
 have e2:dnM []=[]:=rfl
 rw[e1,e2]at hs
 generalize Rof (B i) v=R at hs
 generalize Vof (B v) i=V at hs
 generalize hd:([]:List Dn)=D at hs
 cases hs with
 |n0 _=>exact .inl ⟨rfl,rfl⟩
 |q _=>exact .inr (.inl ⟨rfl,rfl⟩)
 |gy _ _=>simp at hd
 |gh _=>exact .inr (.inr ⟨rfl,rfl⟩)
theorem hr_{b:Bt}{a:Nat}(h:Vof b a=.q):hasS b.queue a=true:=by
 unfold Vof at h
 cases e1:hasS b.given a
 .cases e2:hasS b.queue a
  .rw[e1,e2]at h;simp at h
  .rfl
 .rw[e1]at h;simp at h
theorem rF_(h:NInv n Q T B M)(hQ:∀q∈Q,q<2^n)(hM:∀a b,a<n->b<n->M a b=[])(hu:∀i,i<n->(B i).using'=false){i:Nat}(hi:i<n)(hq:(B i).qu≠0):∃v,v<n/\hasS (B v).queue i=true:=by
 have hao:=h.ao i hi
 have hne:(B i).votes≠(B i).qu:=fun e=>by
  have:=hao.us.2 ⟨hq,e⟩
  rw[hu i hi]at this;cases this
 have:∃v,(B i).qu.testBit v=true/\(B i).votes.testBit v=false:=by
  apply Classical.byContradiction
  intro hno
  apply hne
  refine eq_of_bits fun v=>?_
  cases e1:(B i).votes.testBit v with
  |true=>exact(hao.vq v e1).symm
  | false =>
    cases e2:(B i).qu.testBit v with
    |false=>rfl
    |true=>exact absurd ⟨v,e2,e1⟩ hno
 obtain⟨v,hqv,hvv⟩:=this
 have hvn:v<n:=by
  have hlt:=hQ _ (hao.qu.resolve_left hq)
  rcases yym_ v n with h|h
  .exact h
  .have:=Nat.testBit_lt_two_pow (zzk_ hlt (yyf_ (by omega) h))
   rw[this]at hqv;cases hqv
 have hR:Rof (B i) v=.w:=by unfold Rof;rw[hqv,hvv];rfl
 rcases vp_ h hM hi hvn with ⟨e,_⟩|⟨_,e⟩|⟨e,_⟩
 .rw[hR]at e;cases e
 .exact⟨v,hvn,hr_ e⟩
 .rw[hR]at e;cases e
theorem j7_(hl:LInv n B M)(h:NInv n Q T B M)(hM:∀a b,a<n->b<n->M a b=[])(hu:∀i,i<n->(B i).using'=false){v i:Nat}(hv:v<n)(hF:Fst (B v) i) :
 ∃k,k<n/\i<n/\(B k).qu≠0/\(B k).fail=0/\(B i).stamp.lt (B k).stamp=true:=by
 have hask:=(hl.ak v hv).2 ⟨i,hF⟩
 obtain⟨q,r,g,t,h1,h2,h3,h4⟩:=hF
 have hvo:=h.vo v hv
 have hk:g.s<n:=(hvo.rng g (by rw[h3];simp)).1
 have hi:i<n:=by rw[<-h2];exact(hvo.rng q (by rw[h1];simp)).1
 have hg:hasS (B v).given g.s=true:=by rw[h3];simp[hasS]
 have hqi:hasS (B v).queue i=true:=by rw[h1];simp[hasS,h2]
 have hp:=hl.lp g.s v hk hv
 have hin:(B g.s).inqd≠0:=by
  rcases hp.inq hask hg with e|e|⟨x,e,_⟩|e
  .rw[hM v g.s hv hk]at e;exact absurd e PI.nil
  .intro e0;rw[e0]at e;simp at e
  .rw[hM g.s v hk hv]at e;simp[upM]at e
  .rw[hu g.s hk]at e;cases e
 have hqk:(B g.s).qu≠0:=by
  rcases vp_ h hM hk hv with ⟨_,e⟩|⟨_,e⟩|⟨e,_⟩
  .rw[g_V hg]at e;cases e
  .rw[g_V hg]at e;cases e
  .intro e0
   unfold Rof at e
   rw[e0]at e
   simp at e
 have hnr:∀a,a<n->.rel∉upM (M a v):=fun a ha=>by rw[hM a v ha hv];simp[upM]
 have e1:q=(B i).stamp:=(hl.lp i v hi hv).st q (by rw[h1];simp) h2 (hnr i hi)
 have e2:g=(B g.s).stamp:=hp.st g (by rw[h3];simp) rfl (hnr _ hk)
 refine⟨g.s,hk,hi,hqk,hl.nf _ hk hin,?_⟩
 rw[<-e1,<-e2]
 exact h4
theorem h2_(hl:LInv n B M)(h:NInv n Q T B M)(hQ:∀q∈Q,q<2^n)(hM:∀a b,a<n->b<n->M a b=[])(hu:∀i,i<n->(B i).using'=false):∀i,i<n->(B i).qu=0:=by
 have noA:¬ ∃i,i<n/\((B i).qu≠0/\(B i).fail=0):=by
  intro hex
  obtain⟨i,hi,⟨hq,hf⟩,hmax⟩:=maxi (fun i=>(B i).stamp) (fun i=>(B i).qu≠0/\(B i).fail=0) n hex
  obtain⟨v,hv,hqv⟩:=rF_ h hQ hM hu hi hq
  have hF:Fst (B v) i:=by
   rcases(hl.lp i v hi hv).told hqv with e|e|e
   .rw[hf]at e;simp at e
   .rw[hM v i hv hi]at e;simp[dnM]at e
   .exact e
  obtain⟨k,hk,_,hqk,hfk,hlt⟩:=j7_ hl h hM hu hv hF
  have:=hmax k hk ⟨hqk,hfk⟩
  rw[hlt]at this;cases this
 apply Classical.byContradiction
 intro hno
 have hex:∃i,i<n/\(B i).qu≠0:=by
  apply Classical.byContradiction
  intro h2
  apply hno
  intro i hi
  apply Classical.byContradiction
  intro h3
  exact h2 ⟨i,hi,h3⟩
 obtain⟨i,hi,hq,hmin⟩:=i9_ (fun i=>(B i).stamp) (fun i=>(B i).qu≠0) n hex
 obtain⟨v,hv,hqv⟩:=rF_ h hQ hM hu hi hq
 have hvo:=h.vo v hv
 have hnr:∀a,a<n->.rel∉upM (M a v):=fun a ha=>by rw[hM a v ha hv];simp[upM]
 obtain⟨x,hx,hxs⟩:=zy_.1 hqv
 have ex:x=(B i).stamp:=(hl.lp i v hi hv).st x (by simp[hx]) hxs (hnr i hi)
 obtain⟨g,t,hg⟩:∃g t,(B v).given=g::t:=by
  cases e:(B v).given with
  |nil=>have:=hvo.gq e;rw[this]at hx;simp at hx
  |cons g t=>exact⟨g,t,rfl⟩
 have open':∀y,y∈(B v).given++(B v).queue->y.s<n/\(B y.s).qu≠0/\y=(B y.s).stamp:=fun y hy=>by
  have hyn:=(hvo.rng y hy).1
  refine⟨hyn,fun e0=>?_,(hl.lp y.s v hyn hv).st y hy rfl (hnr _ hyn)⟩
  have hR:Rof (B y.s) v=.o:=by simp[Rof,e0]
  rcases vp_ h hM hyn hv with ⟨_,e⟩|⟨e,_⟩|⟨e,_⟩
  .rcases zzw_.1 hy with hy|hy
   .rw[g_V (zy_.2 ⟨y,hy,rfl⟩)]at e;cases e
   .rw[q_V hvo (zy_.2 ⟨y,hy,rfl⟩)]at e;cases e
  .rw[hR]at e;cases e
  .rw[hR]at e;cases e
 have hle:∀y,y∈(B v).given++(B v).queue->y.lt x=false:=fun y hy=>by
  obtain⟨h1,h2,h3⟩:=open' y hy
  have:=hmin y.s h1 h2
  rw[h3,ex]
  exact this
 have hF:Fst (B v) i:=by
  cases hqq:(B v).queue with
  |nil=>rw[hqq]at hx;simp at hx
  | cons q r =>
    have hqx:q=x:=by
     rw[hqq]at hx
     rcases List.mem_cons.1 hx with e|e
     .exact e.symm
     .have ha:=hvo.asc
      rw[hqq]at ha
      have:=(List.pairwise_cons.1 ha).1 x e
      rw[hle q (by simp[hqq])]at this;cases this
    subst hqx
    refine⟨q,r,g,t,hqq,hxs,hg,?_⟩
    refine Sp.tot (hle g (by simp[hg])) fun e=>?_
    have hd:=hvo.ds
    unfold Ds at hd
    exact(List.pairwise_append.1 hd).2.2 g (by simp[hg]) q (by simp[hqq]) e
 obtain⟨k,hk,_,hqk,hfk,_⟩:=j7_ hl h hM hu hv hF
 exact noA ⟨k,hk,hqk,hfk⟩
theorem kc_(h:NInv n Q T B M)(hM:∀a b,a<n->b<n->M a b=[])(hz:∀i,i<n->(B i).qu=0){v:Nat}(hv:v<n):(B v).given=[]/\(B v).queue=[]:=by
 have hvo:=h.vo v hv
 have key:∀y,y∈(B v).given++(B v).queue->False:=fun y hy=>by
  have hyn:=(hvo.rng y hy).1
  have hR:Rof (B y.s) v=.o:=by simp[Rof,hz _ hyn]
  rcases vp_ h hM hyn hv with ⟨_,e⟩|⟨e,_⟩|⟨e,_⟩
  .rcases zzw_.1 hy with hy|hy
   .rw[g_V (zy_.2 ⟨y,hy,rfl⟩)]at e;cases e
   .rw[q_V hvo (zy_.2 ⟨y,hy,rfl⟩)]at e;cases e
  .rw[hR]at e;cases e
  .rw[hR]at e;cases e
 constructor
 .cases e:(B v).given with
  |nil=>rfl
  |cons g t=>exact(key g (by simp[e])).elim
 .cases e:(B v).queue with
  |nil=>rfl
  |cons g t=>exact(key g (by simp[e])).elim
end
end Go.Proofs.Ytpfjlnmnolbiaaa.QP
namespace Go.Proofs.Ytpfjlnmnolbiaaa.QP
def sumN:Nat->(Nat->Nat)->Nat
 |0,_=>0
 |n+1,f=>sumN n f+f n
theorem zN_{n:Nat}{f g:Nat->Nat}(h:∀v,v<n->f v=g v):sumN n f=sumN n g:=by
 induction n with
 |zero=>rfl
 |succ n ih=>simp only[sumN];rw[ih fun v hv=>h v (by omega),h n (by omega)]
theorem sP_{n:Nat}{f g:Nat->Nat}(h:∀v,v<n->f v<=g v):sumN n f<=sumN n g:=by
 induction n with
 |zero=>exact zzl_ _
 |succ n ih=>simp only[sumN];exact Nat.add_le_add (ih fun v hv=>h v (by omega)) (h n (by omega))
theorem vn_{n:Nat}{f g:Nat->Nat}:sumN n (fun v=>f v+g v)=sumN n f+sumN n g:=by
 induction n with
 |zero=>rfl
 |succ n ih=>simp only[sumN];rw[ih];omega
theorem xE_{n:Nat}:sumN n (fun _=>0)=0:=by
 induction n with
 |zero=>rfl
 |succ n ih=>simp only[sumN];rw[ih]
theorem uo_{n c:Nat}:sumN n (fun _=>c)=n*c:=by
 induction n with
 |zero=>simp[sumN]
 |succ n ih=>simp only[sumN];rw[ih,Nat.succ_mul]
theorem xo_{n j:Nat}{f g:Nat->Nat}(hj:j<n)(h:∀v,v<n->v≠j->f v=g v):sumN n f+g j=sumN n g+f j:=by
 induction n with
 |zero=>omega
 | succ n ih =>
   simp only[sumN]
   by_cases e:j=n
   .subst e
    rw[zN_ (fun v hv=>h v (by omega) (by omega))]
    omega
   .have:=ih (by omega) fun v hv hne=>h v (by omega) hne
    rw[h n (by omega) (by omega)]
    omega
theorem rM_{n j c:Nat}(hj:j<n):sumN n (fun v=>if v=j then c else 0)=c:=by
 have:=xo_ (f:=fun v=>if v=j then c else 0) (g:=fun _=>0) hj fun v _ hne=>if_neg hne
 rw[xE_]at this
 simp only[if_true]at this
 omega
def kw:Kd->Nat
 |.ask=>2
 |.inq=>2
 |_=>1
def wl(l:Ms):Nat:=(l.map fun m=>kw m.1).sum
theorem jm_(l m:Ms):wl (l++m)=wl l+wl m:=by simp[wl]
theorem lH_(x:Kd×Sp)(m:Ms):wl (x::m)=kw x.1+wl m:=by simp[wl]
def ow(o:Out):Nat:=(o.map fun m=>kw m.1).sum
theorem mu_(o:Kd×Nat)(out:Out)(st:Sp)(v:Nat):wl (got (o::out) st v)=(if v=o.2 then kw o.1 else 0)+wl (got out st v):=by
 unfold got
 by_cases e:v=o.2
 .subst e
  simp[wl]
 .have:(o.2==v)=false:=by simp;exact fun h=>e h.symm
  rw[List.filter_cons,this,if_neg e]
  simp
theorem kJ_(n:Nat)(out:Out)(st:Sp):sumN n (fun v=>wl (got out st v))<=ow out:=by
 induction out with
 | nil =>
   have:sumN n (fun v=>wl (got [] st v))=0:=by
    exact(zN_ (g:=fun _=>0) fun v _=>rfl).trans xE_
   rw[this];exact zzn_ _
 | cons o out ih =>
   rw[zN_ fun v _=>mu_ o out st v,vn_]
   have h1:sumN n (fun v=>if v=o.2 then kw o.1 else 0)<=kw o.1:=by
    by_cases e:o.2<n
    .rw[rM_ e];exact zzl_ _
    .rw[zN_ (g:=fun _=>0) fun v hv=>if_neg (by omega),xE_];exact zzn_ _
   have h2:ow (o::out)=kw o.1+ow out:=by simp[ow]
   omega
def S1(n:Nat)(M:Nat->Nat->Ms):Nat:=sumN n fun a=>sumN n fun b=>wl (M a b)
theorem ny_{n j:Nat}{M:Nat->Nat->Ms}{out:Out}{st:Sp}(hj:j<n):S1 n (put M j out st)<=S1 n M+ow out:=by
 have h:=xo_ (n:=n) (j:=j) (f:=fun a=>sumN n fun b=>wl (put M j out st a b)) (g:=fun a=>sumN n fun b=>wl (M a b)) hj fun v _ hne=>zN_ fun b _=>by
  unfold put;rw[if_neg hne]
 have e:(sumN n fun b=>wl (put M j out st j b))=(sumN n fun b=>wl (M j b))+sumN n fun b=>wl (got out st b):=by
  rw[<-vn_]
  refine zN_ fun b _=>?_
  unfold put;rw[if_pos rfl,jm_]
 have h2:=kJ_ n out st
 unfold S1
 simp only[e]at h
 omega
theorem lE_{n i j:Nat}{M:Nat->Nat->Ms}{m:Kd×Sp}{rest:Ms}(hi:i<n)(hj:j<n)(hM:M i j=m::rest):S1 n (pop M i j)+kw m.1=S1 n M:=by
 have h:=xo_ (n:=n) (j:=i) (f:=fun a=>sumN n fun b=>wl (pop M i j a b)) (g:=fun a=>sumN n fun b=>wl (M a b)) hi fun v _ hne=>zN_ fun b _=>by
  unfold pop;rw[if_neg fun e=>hne e.1]
 have h2:=xo_ (n:=n) (j:=j) (f:=fun b=>wl (pop M i j i b)) (g:=fun b=>wl (M i b)) hj fun v _ hne=>by
  show wl (pop M i j i v)=wl (M i v)
  unfold pop;rw[if_neg fun e=>hne e.2]
 have e:wl (M i j)=kw m.1+wl (pop M i j i j):=by
  unfold pop;rw[if_pos ⟨rfl,rfl⟩,hM,lH_];rfl
 unfold S1
 omega
def loc(n:Nat)(b:Bt):Nat:=(if b.given≠[]/\b.asked=false then 2 else 0)+(mem n b.inqd).length+(if b.qu=0 then 0 else (mem n b.qu).length+1)
def S2(n:Nat)(B:Nat->Bt):Nat:=sumN n fun a=>loc n (B a)
theorem nx_{n j:Nat}{B:Nat->Bt}{b:Bt}(hj:j<n):S2 n (upd1 B j b)+loc n (B j)=S2 n B+loc n b:=by
 have h:=xo_ (n:=n) (j:=j) (f:=fun a=>loc n (upd1 B j b a)) (g:=fun a=>loc n (B a)) hj fun v _ hne=>by
  show loc n (upd1 B j b v)=loc n (B v)
  unfold upd1;rw[if_neg hne]
 have e:upd1 B j b j=b:=by simp[upd1]
 unfold S2
 simp only[e]at h
 exact h
end Go.Proofs.Ytpfjlnmnolbiaaa.QP
namespace Go.Proofs.Ytpfjlnmnolbiaaa.QP
def asks(p:Sp->Bool):Ms->Nat
 |[]=>0
 |m::r=>(if m.1=.ask/\p m.2=true then 1 else 0)+asks p r
theorem qz_(p:Sp->Bool):∀a b:Ms,asks p (a++b)=asks p a+asks p b
 |[],b=>by simp[asks]
 |m::a,b=>by simp only[List.cons_append,asks,qz_ p a b];omega
theorem sG_{p:Sp->Bool}:∀ {l:Ms},(∀m∈l,m.1≠.ask)->asks p l=0
 |[],_=>rfl
 | m :: r, h => by
   simp only[asks]
   rw[if_neg fun e=>h m (by simp) e.1,sG_ fun x hx=>h x (by simp[hx])]
theorem no_{p q:Sp->Bool}(h:∀x,p x=true->q x=true):∀l:Ms,asks p l<=asks q l
 |[]=>zzl_ _
 | m :: r => by
   simp only[asks]
   have:=no_ h r
   split
   .next e=>rw[if_pos ⟨e.1,h _ e.2⟩];omega
   .omega
def nA(n:Nat)(M:Nat->Nat->Ms)(v:Nat)(p:Sp->Bool):Nat:=sumN n fun a=>asks p (M a v)
theorem mc_{n v:Nat}{M:Nat->Nat->Ms}{p q:Sp->Bool}(h:∀x,p x=true->q x=true):nA n M v p<=nA n M v q:=sP_ fun a _=>no_ h (M a v)
theorem i0_{n i j:Nat}{M:Nat->Nat->Ms}{m:Kd×Sp}{rest:Ms}{p:Sp->Bool}(hi:i<n)(hM:M i j=m::rest):nA n (pop M i j) j p+(if m.1=.ask/\p m.2=true then 1 else 0)=nA n M j p:=by
 have h:=xo_ (n:=n) (j:=i) (f:=fun a=>asks p (pop M i j a j)) (g:=fun a=>asks p (M a j)) hi fun v _ hne=>by
  show asks p (pop M i j v j)=asks p (M v j)
  unfold pop;rw[if_neg fun e=>hne e.1]
 have e:asks p (M i j)=(if m.1=.ask/\p m.2=true then 1 else 0)+asks p (pop M i j i j):=by
  have e0:pop M i j i j=rest:=by unfold pop;rw[if_pos ⟨rfl,rfl⟩,hM];rfl
  rw[e0,hM];rfl
 unfold nA
 omega
theorem os_{n i j v:Nat}{M:Nat->Nat->Ms}{p:Sp->Bool}(hv:v≠j):nA n (pop M i j) v p=nA n M v p:=zN_ fun a _=>by
 unfold pop;rw[if_neg fun e=>hv e.2]
theorem q7_{n j v:Nat}{M:Nat->Nat->Ms}{out:Out}{st:Sp}{p:Sp->Bool}(h:∀o∈out,o.1≠.ask):nA n (put M j out st) v p=nA n M v p:=zN_ fun a _=>by
 unfold put
 split
 .rw[qz_,sG_ (l:=got out st v) fun m hm=>?_]
  .rfl
  .unfold got at hm
   obtain⟨o,ho,rfl⟩:=List.mem_map.1 hm
   exact h o (List.mem_filter.1 ho).1
 .rfl
def cnt(p:Sp->Bool)(l:List Sp):Nat:=(l.filter p).length
theorem rr_(p:Sp->Bool)(s:Sp):∀l:List Sp,cnt p (ins s l)=cnt p l+if p s=true then 1 else 0
 | [] => by
   unfold cnt ins
   cases e:p s<;>simp[e]
 | x :: r => by
   unfold ins
   split
   .have:=rr_ p s r
    unfold cnt at *
    rw[List.filter_cons,List.filter_cons]
    cases p x<;>simp[this]<;>omega
   .unfold cnt
    cases e:p s<;>simp[List.filter_cons,e]
theorem lu_(p:Sp->Bool)(l:List Sp):cnt p l<=l.length:=List.length_filter_le ..
theorem rk_(s:Sp):∀l:List Sp,(ins s l).length=l.length+1
 |[]=>rfl
 | x :: r => by
   unfold ins
   split
   .simp[rk_ s r]
   .rfl
def tri:Nat->Nat
 |0=>0
 |k+1=>tri k+(k+1)
def pot(n:Nat)(M:Nat->Nat->Ms)(v:Nat)(b:Bt):Nat :=
 match b.given with
 |[]=>tri (nA n M v (fun _=>true)+b.queue.length)
 |g::_=>tri (nA n M v (fun _=>true)+b.queue.length)+(nA n M v (fun x=>x.lt g)+cnt (fun x=>x.lt g) b.queue)
def S3(n:Nat)(B:Nat->Bt)(M:Nat->Nat->Ms):Nat:=sumN n fun v=>pot n M v (B v)
def mu(n:Nat)(B:Nat->Bt)(M:Nat->Nat->Ms):Nat:=3*S3 n B M+S1 n M+S2 n B
theorem vQ_{n v:Nat}{M M':Nat->Nat->Ms}{b b':Bt}(hA:∀p,nA n M' v p=nA n M v p)(hg:b'.given=b.given)(hq:b'.queue=b.queue):pot n M' v b'=pot n M v b:=by
 unfold pot
 rw[hg,hq]
 cases b.given with
 |nil=>simp only[hA]
 |cons g t=>simp only[hA]
theorem lD_{n j:Nat}{B:Nat->Bt}{M M':Nat->Nat->Ms}{b:Bt}(hj:j<n)(hA:∀v,v≠j->∀p,nA n M' v p=nA n M v p):S3 n (upd1 B j b) M'+pot n M j (B j)=S3 n B M+pot n M' j b:=by
 have h:=xo_ (n:=n) (j:=j) (f:=fun v=>pot n M' v (upd1 B j b v)) (g:=fun v=>pot n M v (B v)) hj fun v _ hne=>by
  have e:upd1 B j b v=B v:=by unfold upd1;rw[if_neg hne]
  show pot n M' v (upd1 B j b v)=pot n M v (B v)
  rw[e]
  exact vQ_ (hA v hne) rfl rfl
 have e:upd1 B j b j=b:=by simp[upd1]
 simp only[e]at h
 exact h
end Go.Proofs.Ytpfjlnmnolbiaaa.QP
namespace Go.Proofs.Ytpfjlnmnolbiaaa.QP
section
variable{n:Nat}{Q:List Nat}{T:Nat}{B:Nat->Bt}{M:Nat->Nat->Ms}
theorem wW_{i j:Nat}{m:Kd×Sp}{rest:Ms}{out:Out}{b:Bt}(hi:i<n)(hj:j<n)(hM:M i j=m::rest)(ho:∀o∈out,o.1≠.ask)
 (hp:3*pot n (put (pop M i j) j out ⟨0,0⟩) j b+ow out+loc n b+1<=3*pot n M j (B j)+kw m.1+loc n (B j)):mu n (upd1 B j b) (put (pop M i j) j out ⟨0,0⟩)+1<=mu n B M:=by
 have h1:=ny_ (n:=n) (j:=j) (M:=pop M i j) (out:=out) (st:=⟨0,0⟩) hj
 have h2:=lE_ hi hj hM
 have h3:=nx_ (n:=n) (B:=B) (b:=b) hj
 have h4:=lD_ (n:=n) (B:=B) (M:=M) (M':=put (pop M i j) j out ⟨0,0⟩) (b:=b) hj fun v hv p=>(q7_ ho).trans (os_ hv)
 unfold mu
 omega
theorem t9_{i j:Nat}{m:Kd×Sp}{rest:Ms}{out:Out}(hi:i<n)(hM:M i j=m::rest)(ho:∀o∈out,o.1≠.ask)(p:Sp->Bool) :
 nA n (put (pop M i j) j out ⟨0,0⟩) j p+(if m.1=.ask/\p m.2=true then 1 else 0)=nA n M j p:=by
 rw[q7_ ho]
 exact i0_ hi hM
theorem vq_{i j:Nat}{m:Kd×Sp}{rest:Ms}{out:Out}(hi:i<n)(hM:M i j=m::rest)(ho:∀o∈out,o.1≠.ask)(hk:m.1≠.ask)(p:Sp->Bool) :
 nA n (put (pop M i j) j out ⟨0,0⟩) j p=nA n M j p:=by
 have:=t9_ (n:=n) hi hM ho p
 rw[if_neg fun e=>hk e.1]at this
 exact this
theorem mu_A{i j:Nat}{m:Kd×Sp}{rest:Ms}{out:Out}{b:Bt}(hi:i<n)(hj:j<n)(hM:M i j=m::rest)(hk:m.1≠.ask)(ho:∀o∈out,o.1≠.ask)(hg:b.given=(B j).given)(hq:b.queue=(B j).queue)
 (hp:ow out+loc n b+1<=kw m.1+loc n (B j)):mu n (upd1 B j b) (put (pop M i j) j out ⟨0,0⟩)+1<=mu n B M:=by
 refine wW_ hi hj hM ho ?_
 rw[vQ_ (vq_ hi hM ho hk) hg hq]
 omega
theorem vW_(l:List Nat)(k:Kd):ow (l.map fun v=>(k,v))=l.length*kw k:=by
 induction l with
 |nil=>simp[ow]
 | cons x l ih =>
   unfold ow at *
   simp only[List.map_cons,List.sum_cons,List.length_cons]
   rw[ih,Nat.succ_mul]
   omega
theorem ox_{a b:Nat}(h:∀v,a.testBit v=true->b.testBit v=true):(mem n a).length<=(mem n b).length:=by
 unfold mem
 induction n with
 |zero=>simp
 | succ n ih =>
   rw[yyv_,List.filter_append,List.filter_append,zzr_,zzr_]
   have:([n].filter fun v=>a.testBit v).length<=([n].filter fun v=>b.testBit v).length:=by
    cases e:a.testBit n with
    |false=>simp[e]
    |true=>simp[e,h n e]
   omega
theorem oy_(a i:Nat):(mem n (a|||2^i)).length<=(mem n a).length+1:=by
 unfold mem
 suffices h:((List.range n).filter fun v=>(a|||2^i).testBit v).length<=((List.range n).filter fun v=>a.testBit v).length+if i<n then 1 else 0 by
  split at h<;>omega
 induction n with
 |zero=>simp
 | succ n ih =>
   rw[yyv_,List.filter_append,List.filter_append,zzr_,zzr_]
   have:([n].filter fun v=>(a|||2^i).testBit v).length<=([n].filter fun v=>a.testBit v).length+if i=n then 1 else 0:=by
    by_cases e:i=n
    .subst e
     rw[if_pos rfl]
     refine yyd_ (List.length_filter_le ..) (Nat.le_add_left 1 _)
    .rw[if_neg e]
     have:(a|||2^i).testBit n=a.testBit n:=by
      rw[Nat.testBit_or,Nat.testBit_two_pow,decide_eq_false e,Bool.or_false]
     rw[List.filter_cons,List.filter_cons,this]
     exact Nat.le_add_right ..
   repeat' split at ih
   repeat' split at this
   repeat' split
   all_goals omega
theorem oz_(i:Nat):(mem n (2^i)).length<=1:=by
 have:=oy_ (n:=n) 0 i
 have e:(mem n 0).length=0:=by simp[mem]
 rw[Nat.zero_or,e]at this
 exact this
theorem i3_{i j:Nat}{s:Sp}{rest:Ms}(hi:i<n)(hj:j<n)(hM:M i j=(.yes,s)::rest):mu n (upd1 B j (yesA (B j) i)) (put (pop M i j) j [] ⟨0,0⟩)+1<=mu n B M:=by
 refine mu_A hi hj hM (by simp) (by simp) ?_ ?_ ?_
 .unfold yesA;split<;>rfl
 .unfold yesA;split<;>rfl
 ·have e:loc n (yesA (B j) i)≤loc n (B j):=by
   unfold yesA loc
   split
   .have h0:(mem n 0).length=0:=by simp[mem]
    simp only[h0]
    omega
   .exact zzl_ _
  have:ow []=0:=rfl
  have:kw Kd.yes=1:=rfl
  simp only
  omega
theorem vt_{b:Bt}{set:Nat}:loc n (give n b set).1+(mem n b.inqd).length=loc n b+(mem n (wo b.inqd set)).length:=by
 unfold give loc
 simp only
 omega
theorem i6_{i j:Nat}{s:Sp}{rest:Ms}(hi:i<n)(hj:j<n)(hM:M i j=(.fal,s)::rest):mu n (upd1 B j (failA n (B j) i).1) (put (pop M i j) j (failA n (B j) i).2 ⟨0,0⟩)+1<=mu n B M:=by
 refine mu_A hi hj hM (by simp) ?_ rfl rfl ?_
 .intro o ho
  obtain⟨v,_,rfl⟩:=List.mem_map.1 ho
  simp
 .have h1:=vt_ (n:=n) (b:={ B j with fail:=(B j).fail|||2^i }) (set:=(B j).inqd)
  have h2:wo (B j).inqd (B j).inqd=0:=by simp[wo]
  have h3:(mem n 0).length=0:=by simp[mem]
  have h4:ow (failA n (B j) i).2=(mem n (B j).inqd).length*1:=vW_ _ _
  have h5:loc n { B j with fail:=(B j).fail|||2^i }=loc n (B j):=rfl
  have h6:kw Kd.fal=1:=rfl
  have h7:(failA n (B j) i).1=(give n { B j with fail:=(B j).fail|||2^i } (B j).inqd).1:=rfl
  simp only[h2,h3,h5]at h1
  rw[h7,h4]
  simp only
  omega
theorem i5_{i j:Nat}{s:Sp}{rest:Ms}(hi:i<n)(hj:j<n)(hM:M i j=(.inq,s)::rest):mu n (upd1 B j (inqA n (B j) i).1) (put (pop M i j) j (inqA n (B j) i).2 ⟨0,0⟩)+1<=mu n B M:=by
 have h6:kw Kd.inq=2:=rfl
 unfold inqA
 split
 .refine mu_A hi hj hM (by simp) (by simp) rfl rfl ?_
  have:ow []=0:=rfl
  simp only
  omega
 split
 .refine mu_A hi hj hM (by simp) (by simp) rfl rfl ?_
  have h0:ow []=0:=rfl
  have h1:=oy_ (n:=n) (B j).inqd i
  unfold loc
  simp only
  omega
 .refine mu_A hi hj hM (by simp) ?_ rfl rfl ?_
  .intro o ho
   obtain⟨v,_,rfl⟩:=List.mem_map.1 ho
   simp
  .have h1:=vt_ (n:=n) (b:=B j) (set:=2^i)
   have h2:=ox_ (n:=n) (a:=wo (B j).inqd (2^i)) (b:=(B j).inqd) fun v e=>by
    rw[wo_bit]at e
    exact(zzg_ .. ▸ e).1
   have h4:ow (give n (B j) (2^i)).2=(mem n (2^i)).length*1:=vW_ _ _
   have h5:=oz_ (n:=n) i
   simp only
   omega
theorem mu_done{j:Nat}(hj:j<n)(hu:(B j).qu≠0):mu n (upd1 B j (doneB n (B j)).1) (put M j (doneB n (B j)).2 ⟨0,0⟩)+1<=mu n B M:=by
 have ho:∀o∈(doneB n (B j)).2,o.1≠.ask:=by
  intro o ho
  obtain⟨v,_,rfl⟩:=List.mem_map.1 ho
  simp
 have h1:=ny_ (n:=n) (j:=j) (M:=M) (out:=(doneB n (B j)).2) (st:=⟨0,0⟩) hj
 have h3:=nx_ (n:=n) (B:=B) (b:=(doneB n (B j)).1) hj
 have h4:=lD_ (n:=n) (B:=B) (M:=M) (M':=put M j (doneB n (B j)).2 ⟨0,0⟩) (b:=(doneB n (B j)).1) hj fun v hv p=>q7_ ho
 have h7:pot n (put M j (doneB n (B j)).2 ⟨0,0⟩) j (doneB n (B j)).1=pot n M j (B j):=vQ_ (fun p=>q7_ ho) rfl rfl
 have h5:ow (doneB n (B j)).2=(mem n (B j).qu).length*1:=vW_ _ _
 have h6:loc n (doneB n (B j)).1+((mem n (B j).qu).length+1)=loc n (B j):=by
  unfold loc doneB
  simp only[if_neg hu,if_true]
  omega
 unfold mu
 omega
end
end Go.Proofs.Ytpfjlnmnolbiaaa.QP
namespace Go.Proofs.Ytpfjlnmnolbiaaa.QP
section
variable{n:Nat}{Q:List Nat}{T:Nat}{B:Nat->Bt}{M:Nat->Nat->Ms}
theorem ra_{v:Nat}{b:Bt}(h:b.given=[]):pot n M v b=tri (nA n M v (fun _=>true)+b.queue.length):=by unfold pot;rw[h]
theorem yM_{v:Nat}{b:Bt}{g:Sp}{t:List Sp}(h:b.given=g::t):pot n M v b=tri (nA n M v (fun _=>true)+b.queue.length)+(nA n M v (fun x=>x.lt g)+cnt (fun x=>x.lt g) b.queue):=by unfold pot;rw[h]
theorem wb_{b b':Bt}(h1:b'.inqd=b.inqd)(h2:b'.qu=b.qu):loc n b'<=loc n b+2:=by
 unfold loc
 rw[h1,h2]
 split<;>split<;>omega
theorem oE_{b b':Bt}(h1:b'.inqd=b.inqd)(h2:b'.qu=b.qu)(h3:b'.asked=true)(h4:b.given≠[]):loc n b'+(if b.asked=true then 0 else 2)=loc n b:=by
 unfold loc
 rw[h1,h2,h3]
 cases e:b.asked<;>simp[h4]
 omega
theorem mk_{b b':Bt}(h1:b'.inqd=b.inqd)(h2:b'.qu=b.qu)(h3:b'.asked=b.asked)(h4:b'.given=b.given):loc n b'=loc n b:=by
 unfold loc
 rw[h1,h2,h3,h4]
theorem qA_{b:Bt}{s:Sp}(hg:b.given=[]):∃b',askV b s=(b',[(.yes,s.s)])/\b'.given=[s]/\b'.queue=b.queue/\b'.inqd=b.inqd/\b'.qu=b.qu:=by
 unfold askV
 rw[hg]
 exact⟨_,rfl,rfl,rfl,rfl,rfl⟩
theorem sH_{b:Bt}{s g:Sp}{t:List Sp}(hg:b.given=g::t):∃b' out,askV b s=(b',out)/\b'.given=g::t/\b'.queue=ins s b.queue/\b'.inqd=b.inqd/\b'.qu=b.qu /\
 ((b'.asked=true/\out=falFst g b.queue++(if b.asked then [] else [(Kd.inq,g.s)]))\/(b'.asked=b.asked/\out=[(.fal,s.s)])):=by
 unfold askV
 rw[hg]
 simp only
 split
 .exact⟨_,_,rfl,rfl,rfl,rfl,rfl,.inl ⟨rfl,rfl⟩⟩
 .exact⟨_,_,rfl,rfl,rfl,rfl,rfl,.inr ⟨rfl,rfl⟩⟩
theorem i7_{i j:Nat}{s:Sp}{rest:Ms}(h:NInv n Q T B M)(hi:i<n)(hj:j<n)(hM:M i j=(.ask,s)::rest):mu n (upd1 B j (askV (B j) s).1) (put (pop M i j) j (askV (B j) s).2 ⟨0,0⟩)+1<=mu n B M:=by
 have hk:kw (Kd.ask,s).1=2:=rfl
 cases hg:(B j).given with
 | nil =>
   have hq:=(h.vo j hj).gq hg
   obtain⟨b',e,e1,e2,e3,e4⟩:=qA_ (s:=s) hg
   rw[e]
   have ho:∀o∈[(Kd.yes,s.s)],o.1≠.ask:=by simp
   have h1:=t9_ hi hM ho fun _=>true
   refine wW_ hi hj hM ho ?_
   show 3*pot n (put (pop M i j) j [(Kd.yes,s.s)] ⟨0,0⟩) j b'+ow [(Kd.yes,s.s)]+loc n b'+1<=_
   rw[ra_ hg,yM_ e1,e2,hq]
   have h2:=mc_ (n:=n) (v:=j) (M:=put (pop M i j) j [(Kd.yes,s.s)] ⟨0,0⟩) (p:=fun x=>x.lt s) (q:=fun _=>true) fun _ _=>rfl
   rw[if_pos ⟨rfl,rfl⟩]at h1
   rw[<-h1,hk]
   have h3:=wb_ (n:=n) e3 e4
   have h4:ow [(Kd.yes,s.s)]=1:=rfl
   have h5:cnt (fun x=>x.lt s) []=0:=rfl
   simp only[List.length_nil,Nat.add_zero,tri,h5,h4]
   omega
 | cons g t =>
   obtain⟨b',out,e,e1,e2,e3,e4,e5⟩:=sH_ (s:=s) hg
   rw[e]
   have ho:∀o∈out,o.1≠.ask:=by
    intro o ho
    rcases e5 with ⟨_,rfl⟩|⟨_,rfl⟩
    .rcases zzw_.1 ho with ho|ho
     .unfold falFst at ho
      split at ho
      .simp at ho
      .split at ho
       .simp at ho;rw[ho];simp
       .simp at ho
     .split at ho
      .simp at ho
      .simp at ho;rw[ho];simp
    .simp at ho;rw[ho];simp
   have key:pot n (put (pop M i j) j out ⟨0,0⟩) j b'=pot n M j (B j):=by
    rw[yM_ e1,yM_ hg,e2,rk_]
    have h1:=t9_ hi hM ho fun _=>true
    have h2:=t9_ hi hM ho fun x=>x.lt g
    have h3:=rr_ (fun x=>x.lt g) s (B j).queue
    rw[if_pos ⟨rfl,rfl⟩]at h1
    have h4:tri (nA n (put (pop M i j) j out ⟨0,0⟩) j (fun _=>true)+((B j).queue.length+1))=tri (nA n M j (fun _=>true)+(B j).queue.length):=by
     congr 1;omega
    rw[h4]
    by_cases hs:s.lt g=true
    .rw[if_pos ⟨rfl,hs⟩]at h2
     rw[if_pos hs]at h3
     omega
    .rw[if_neg fun e=>hs e.2]at h2
     rw[if_neg hs]at h3
     omega
   refine wW_ hi hj hM ho ?_
   show 3*pot n (put (pop M i j) j out ⟨0,0⟩) j b'+ow out+loc n b'+1<=_
   rw[key,hk]
   rcases e5 with ⟨e6,rfl⟩|⟨e6,rfl⟩
   ·have h4:ow (falFst g (B j).queue)≤1:=by
     unfold falFst
     split
     .exact zzn_ _
     .split
      .exact zzl_ _
      .exact zzn_ _
    have h5:ow (falFst g (B j).queue++(if (B j).asked=true then [] else [(Kd.inq,g.s)]))=ow (falFst g (B j).queue)+if (B j).asked=true then 0 else 2:=by
     unfold ow
     rw[List.map_append,List.sum_append]
     split<;>rfl
    have h6:=oE_ (n:=n) e3 e4 e6 (by rw[hg];simp)
    rw[h5]
    omega
   .have h4:ow [(Kd.fal,s.s)]=1:=rfl
    have h5:=mk_ (n:=n) e3 e4 e6 (e1.trans hg.symm)
    rw[h4,h5]
    omega
end
end Go.Proofs.Ytpfjlnmnolbiaaa.QP
namespace Go.Proofs.Ytpfjlnmnolbiaaa.QP
section
variable{n:Nat}{Q:List Nat}{T:Nat}{B:Nat->Bt}{M:Nat->Nat->Ms}
theorem qr_{p q:Sp->Bool}(h:∀x,p x=true->q x=true):∀l:List Sp,cnt p l<=cnt q l
 |[]=>zzl_ _
 | x :: r => by
   have:=qr_ h r
   unfold cnt at *
   cases e:p x with
   | false =>
     rw[List.filter_cons_of_neg (by rw[e];simp),List.filter_cons]
     split
     .exact Nat.le_succ_of_le this
     .exact this
   | true =>
     rw[List.filter_cons_of_pos e,List.filter_cons_of_pos (h x e)]
     exact Nat.succ_le_succ this
theorem sF_{b:Bt}{g:Sp}{again:Bool}(h:(if again then ins g b.queue else b.queue)=[]):∃b',backV b g again=(b',[])/\b'.given=[]/\b'.queue=[]/\b'.inqd=b.inqd/\b'.qu=b.qu:=by
 unfold backV
 rw[h]
 exact⟨_,rfl,rfl,rfl,rfl,rfl⟩
theorem v3_{b:Bt}{g x:Sp}{r:List Sp}{again:Bool}(h:(if again then ins g b.queue else b.queue)=x::r):∃b',backV b g again=(b',[(.yes,x.s)])/\b'.given=[x]/\b'.queue=r/\b'.inqd=b.inqd/\b'.qu=b.qu:=by
 unfold backV
 rw[h]
 exact⟨_,rfl,rfl,rfl,rfl,rfl⟩
theorem kA_{b b':Bt}(h1:b'.inqd=b.inqd)(h2:b'.qu=b.qu)(h3:b'.given=[]):loc n b'<=loc n b:=by
 unfold loc
 rw[h1,h2,h3,if_neg (by simp)]
 omega
theorem i4_{i j:Nat}{s:Sp}{rest:Ms}{g:Sp}(hi:i<n)(hj:j<n)(hM:M i j=(.rel,s)::rest)(hg:(B j).given=[g]):mu n (upd1 B j (backV (B j) g false).1) (put (pop M i j) j (backV (B j) g false).2 ⟨0,0⟩)+1<=mu n B M:=by
 have hk:kw (Kd.rel,s).1=1:=rfl
 cases hq:(B j).queue with
 | nil =>
   obtain⟨b',e,e1,e2,e3,e4⟩:=sF_ (b:=B j) (g:=g) (again:=false) (by simpa using hq)
   rw[e]
   have ho:∀o∈([]:Out),o.1≠.ask:=by simp
   have hA:=vq_ hi hM ho (by simp)
   refine wW_ hi hj hM ho ?_
   show 3*pot n (put (pop M i j) j [] ⟨0,0⟩) j b'+ow []+loc n b'+1<=_
   rw[ra_ e1,yM_ hg,e2,hq,hk,hA]
   have h4:ow []=0:=rfl
   have h5:=kA_ (n:=n) e3 e4 e1
   rw[h4]
   omega
 | cons x r =>
   obtain⟨b',e,e1,e2,e3,e4⟩:=v3_ (b:=B j) (g:=g) (again:=false) (by simpa using hq)
   rw[e]
   have ho:∀o∈[(Kd.yes,x.s)],o.1≠.ask:=by simp
   have hA:=vq_ hi hM ho (by simp)
   refine wW_ hi hj hM ho ?_
   show 3*pot n (put (pop M i j) j [(Kd.yes,x.s)] ⟨0,0⟩) j b'+ow [(Kd.yes,x.s)]+loc n b'+1<=_
   rw[yM_ e1,yM_ hg,e2,hq,hk,hA,hA]
   have h2:=mc_ (n:=n) (v:=j) (M:=M) (p:=fun y=>y.lt x) (q:=fun _=>true) fun _ _=>rfl
   have h3:=lu_ (fun y=>y.lt x) r
   have h4:ow [(Kd.yes,x.s)]=1:=rfl
   have h5:tri (nA n M j (fun _=>true)+(x::r).length)=tri (nA n M j (fun _=>true)+r.length)+(nA n M j (fun _=>true)+r.length+1):=rfl
   rw[h4,h5]
   have h6:=wb_ (n:=n) e3 e4
   omega
theorem i2_{i j:Nat}{s:Sp}{rest:Ms}{g:Sp}(hl:LInv n B M)(hi:i<n)(hj:j<n)(hM:M i j=(.yld,s)::rest)(hg:(B j).given=[g]):mu n (upd1 B j (backV (B j) g true).1) (put (pop M i j) j (backV (B j) g true).2 ⟨0,0⟩)+1<=mu n B M:=by
 have hk:kw (Kd.yld,s).1=1:=rfl
 have ha:=((hl.lp i j hi hj).yl (by rw[hM];simp[upM,toUp])).2
 obtain⟨_,q,r,g',t,hq,_,hg',hlt⟩:=(hl.ak j hj).1 ha
 rw[hg]at hg'
 cases hg'
 have hins:ins g (q::r)=q::ins g r:=by
  show (if q.lt g then q::ins g r else g::q::r)=_
  rw[hlt];rfl
 have hgq:g.lt q=false:=by
  cases e:g.lt q with
  |false=>rfl
  |true=>have:=Sp.trans hlt e;rw[Sp.irr]at this;cases this
 obtain⟨b',e,e1,e2,e3,e4⟩:=v3_ (b:=B j) (g:=g) (again:=true) (by rw[if_pos rfl,hq];exact hins)
 rw[e]
 have ho:∀o∈[(Kd.yes,q.s)],o.1≠.ask:=by simp
 have hA:=vq_ hi hM ho (by simp)
 refine wW_ hi hj hM ho ?_
 show 3*pot n (put (pop M i j) j [(Kd.yes,q.s)] ⟨0,0⟩) j b'+ow [(Kd.yes,q.s)]+loc n b'+1<=_
 rw[yM_ e1,yM_ hg,e2,hq,hk,hA,hA]
 have h2:=mc_ (n:=n) (v:=j) (M:=M) (p:=fun y=>y.lt q) (q:=fun y=>y.lt g) fun _ e=>Sp.trans e hlt
 have h3:=qr_ (p:=fun y=>y.lt q) (q:=fun y=>y.lt g) (fun _ e=>Sp.trans e hlt) r
 have h4:ow [(Kd.yes,q.s)]=1:=rfl
 have h5:=rr_ (fun y=>y.lt q) g r
 rw[if_neg (by rw[hgq];simp)]at h5
 have h7:cnt (fun y=>y.lt g) (q::r)=cnt (fun y=>y.lt g) r+1:=by
  simp[cnt,hlt]
 have h6:=wb_ (n:=n) e3 e4
 rw[h4,h5,h7,rk_]
 simp only[List.length_cons]
 omega
theorem mu_heard{i j:Nat}{m:Kd×Sp}{rest:Ms}(hl:LInv n B M)(h:NInv n Q T B M)(hi:i<n)(hj:j<n)(hM:M i j=m::rest):mu n (upd1 B j (hearQ n (B j) i m).1) (put (pop M i j) j (hearQ n (B j) i m).2 ⟨0,0⟩)+1<=mu n B M:=by
 obtain⟨k,s⟩:=m
 cases k with
 |ask=>exact i7_ h hi hj hM
 |yes=>exact i3_ hi hj hM
 |fal=>exact i6_ hi hj hM
 |inq=>exact i5_ hi hj hM
 | yld =>
   obtain⟨g,h1,h2,_⟩:=h.back (again:=true) hi hj hM (.inl ⟨rfl,rfl⟩)
   have e:hearQ n (B j) i (.yld,s)=backV (B j) g true:=by unfold hearQ;simp only[h1]
   rw[e];exact i2_ hl hi hj hM h1
 | rel =>
   obtain⟨g,h1,h2,_⟩:=h.back (again:=false) hi hj hM (.inr ⟨rfl,rfl⟩)
   have e:hearQ n (B j) i (.rel,s)=backV (B j) g false:=by unfold hearQ;simp only[h1]
   rw[e];exact i4_ hi hj hM h1
end
end Go.Proofs.Ytpfjlnmnolbiaaa.QP
namespace Go.Proofs.Ytpfjlnmnolbiaaa.QP
section
variable{n:Nat}{Q:List Nat}{T:Nat}{B:Nat->Bt}{M:Nat->Nat->Ms}
theorem lL_{j:Nat}{M':Nat->Nat->Ms}{out:Out}{st:Sp}{b:Bt}{k c:Nat}(hj:j<n)(h1:S1 n M'+k<=S1 n M)(h:ow out+loc n b<=k+loc n (B j)+c):S1 n (put M' j out st)+S2 n (upd1 B j b)<=S1 n M+S2 n B+c:=by
 have h2:=ny_ (n:=n) (j:=j) (M:=M') (out:=out) (st:=st) hj
 have h3:=nx_ (n:=n) (B:=B) (b:=b) hj
 omega
theorem jp_{j q:Nat}(hj:j<n)(h0:(B j).qu=0)(hq:(mem n q).length<=4):S1 n (put M j (wantB n (B j) j q).2 (wantB n (B j) j q).1.stamp)+S2 n (upd1 B j (wantB n (B j) j q).1)<=S1 n M+S2 n B+13:=by
 refine lL_ (k:=0) hj (zzl_ _) ?_
 have h1:ow (wantB n (B j) j q).2=(mem n q).length*2:=vW_ _ _
 have h2:loc n (wantB n (B j) j q).1<=loc n (B j)+((mem n q).length+1):=by
  unfold loc wantB
  simp only[h0,if_true]
  split<;>split<;>omega
 omega
theorem jr_{j:Nat}(hj:j<n)(hu:(B j).qu≠0):S1 n (put M j (doneB n (B j)).2 ⟨0,0⟩)+S2 n (upd1 B j (doneB n (B j)).1)<=S1 n M+S2 n B+13:=by
 refine lL_ (k:=0) hj (zzl_ _) ?_
 have h5:ow (doneB n (B j)).2=(mem n (B j).qu).length*1:=vW_ _ _
 have h6:loc n (doneB n (B j)).1+((mem n (B j).qu).length+1)=loc n (B j):=by
  unfold loc doneB
  simp only[if_neg hu,if_true]
  omega
 omega
theorem q3_:ow []=0:=rfl
theorem im_{b:Bt}{s:Sp}:ow (askV b s).2+loc n (askV b s).1<=kw Kd.ask+loc n b+13:=by
 have hk:kw Kd.ask=2:=rfl
 cases hg:b.given with
 | nil =>
   obtain⟨b',e,e1,e2,e3,e4⟩:=qA_ (s:=s) hg
   rw[e]
   have h3:=wb_ (n:=n) e3 e4
   have h4:ow [(Kd.yes,s.s)]=1:=rfl
   simp only[h4]
   omega
 | cons g t =>
   obtain⟨b',out,e,e1,e2,e3,e4,e5⟩:=sH_ (s:=s) hg
   rw[e]
   have h3:=wb_ (n:=n) e3 e4
   have h4:ow out<=3:=by
    rcases e5 with ⟨_,rfl⟩|⟨_,rfl⟩
    ·have h4:ow (falFst g b.queue)≤1:=by
      unfold falFst
      split
      .exact zzn_ _
      .split
       .exact zzl_ _
       .exact zzn_ _
     have h5:ow (falFst g b.queue++(if b.asked=true then [] else [(Kd.inq,g.s)]))=ow (falFst g b.queue)+if b.asked=true then 0 else 2:=by
      unfold ow
      rw[List.map_append,List.sum_append]
      split<;>rfl
     rw[h5]
     split<;>omega
    .exact(by decide:1<=3)
   simp only
   omega
theorem oS_{b:Bt}{g:Sp}{again:Bool}:ow (backV b g again).2+loc n (backV b g again).1<=1+loc n b+13:=by
 cases h:(if again then ins g b.queue else b.queue) with
 | nil =>
   obtain⟨b',e,e1,e2,e3,e4⟩:=sF_ h
   rw[e]
   have h3:=wb_ (n:=n) e3 e4
   simp only[q3_]
   omega
 | cons x r =>
   obtain⟨b',e,e1,e2,e3,e4⟩:=v3_ h
   rw[e]
   have h3:=wb_ (n:=n) e3 e4
   have h4:ow [(Kd.yes,x.s)]=1:=rfl
   simp only[h4]
   omega
theorem ij_{b:Bt}{i:Nat}:loc n (yesA b i)<=loc n b:=by
 unfold yesA loc
 split
 .have h0:(mem n 0).length=0:=by simp[mem]
  simp only[h0]
  omega
 .exact zzl_ _
theorem kF_{b:Bt}{set:Nat}(h2:(mem n (wo b.inqd set)).length+(mem n set).length<=(mem n b.inqd).length+1):ow (give n b set).2+loc n (give n b set).1<=loc n b+1:=by
 have h1:=vt_ (n:=n) (b:=b) (set:=set)
 have h4:ow (give n b set).2=(mem n set).length*1:=vW_ _ _
 omega
theorem il_{b:Bt}{i:Nat}:ow (failA n b i).2+loc n (failA n b i).1<=loc n b+1:=by
 have h:=kF_ (n:=n) (b:={ b with fail:=b.fail|||2^i }) (set:=b.inqd) (by
  have h2:wo b.inqd b.inqd=0:=by simp[wo]
  have h3:(mem n 0).length=0:=by simp[mem]
  simp only[h2,h3]
  omega)
 exact h
theorem ik_{b:Bt}{i:Nat}:ow (inqA n b i).2+loc n (inqA n b i).1<=loc n b+1:=by
 unfold inqA
 split
 .simp only[q3_];omega
 split
 .have h1:=oy_ (n:=n) b.inqd i
  simp only[q3_]
  unfold loc
  simp only
  omega
 .have h1:=vt_ (n:=n) (b:=b) (set:=2^i)
  have h2:=ox_ (n:=n) (a:=wo b.inqd (2^i)) (b:=b.inqd) fun v e=>by
   rw[wo_bit]at e
   exact(zzg_ .. ▸ e).1
  have h4:ow (give n b (2^i)).2=(mem n (2^i)).length*1:=vW_ _ _
  have h5:=oz_ (n:=n) i
  omega
theorem lM_{i j:Nat}{m:Kd×Sp}{rest:Ms}(h:NInv n Q T B M)(hi:i<n)(hj:j<n)(hM:M i j=m::rest):S1 n (put (pop M i j) j (hearQ n (B j) i m).2 ⟨0,0⟩)+S2 n (upd1 B j (hearQ n (B j) i m).1)<=S1 n M+S2 n B+13:=by
 refine lL_ hj (Nat.le_of_eq (lE_ hi hj hM)) ?_
 obtain⟨k,s⟩:=m
 cases k with
 |ask=>exact im_
 | yes =>
   have:=ij_ (n:=n) (b:=B j) (i:=i)
   show ow []+loc n (yesA (B j) i)<=_
   rw[q3_];omega
 | fal =>
   have:=il_ (n:=n) (b:=B j) (i:=i)
   show ow (failA n (B j) i).2+loc n (failA n (B j) i).1<=_
   omega
 | inq =>
   have:=ik_ (n:=n) (b:=B j) (i:=i)
   show ow (inqA n (B j) i).2+loc n (inqA n (B j) i).1<=_
   omega
 | yld =>
   obtain⟨g,h1,h2,_⟩:=h.back (again:=true) hi hj hM (.inl ⟨rfl,rfl⟩)
   have e:hearQ n (B j) i (.yld,s)=backV (B j) g true:=by unfold hearQ;simp only[h1]
   rw[e];exact oS_
 | rel =>
   obtain⟨g,h1,h2,_⟩:=h.back (again:=false) hi hj hM (.inr ⟨rfl,rfl⟩)
   have e:hearQ n (B j) i (.rel,s)=backV (B j) g false:=by unfold hearQ;simp only[h1]
   rw[e];exact oS_
theorem sum0{n:Nat}{f:Nat->Nat}(h:∀v,v<n->f v=0):sumN n f=0:=(zN_ h).trans xE_
end
theorem Rch.w{n:Nat}{Q:List Nat}(h0:∀q∈Q,q≠0)(hq:∀q∈Q,(mem n q).length<=4):∀ {k:Nat} {B:Nat->Bt} {M:Nat->Nat->Ms},Rch n Q k B M->S1 n M+S2 n B<=13*k:=by
 intro k B M h
 induction h with
 | start =>
   have h1:S1 n (fun _ _=>[])=0:=sum0 fun _ _=>sum0 fun _ _=>rfl
   have h2:S2 n (fun _=>⟨0,0,0,0,0,⟨0,0⟩,false,false,[],[]⟩)=0:=sum0 fun _ _=>by simp[loc,mem]
   omega
 | step h hs ih =>
   have hn:=h.inv h0
   cases hs with
   |idle=>omega
   |want hj h1 h2=>exact yyd_ (jp_ hj h1 (hq _ h2)) (by omega)
   |done hj hu=>exact yyd_ (jr_ hj ((hn.ao _ hj).us.1 hu).1) (by omega)
   |hear hi hj hM=>exact yyd_ (lM_ hn hi hj hM) (by omega)
end Go.Proofs.Ytpfjlnmnolbiaaa.QP
namespace Go.Proofs.Ytpfjlnmnolbiaaa.QP
def upA:List Up->Nat
 |[]=>0
 |.ask::r=>upA r+1
 |.yld::r=>upA r
 |.rel::r=>upA r
theorem nn_:∀l:Ms,asks (fun _=>true) l=upA (upM l)
 |[]=>rfl
 | (k, s) :: r => by
   have:=nn_ r
   have h1:asks (fun _=>true) ((k,s)::r)=(if k=.ask then 1 else 0)+asks (fun _=>true) r:=by simp[asks]
   have h2:upA (upM ((k,s)::r))=(if k=.ask then 1 else 0)+upA (upM r):=by
    cases k<;>simp[upM,toUp,upA]
    exact Nat.add_comm ..
   rw[h1,h2,this]
def isQ:Va->Nat
 |.q=>1
 |_=>0
theorem pK_{R:Ra}{V:Va}{U:List Up}{D:List Dn}(h:Shape R V U D):upA U+isQ V<=1:=by
 cases h<;>simp[upA,isQ]
theorem ls_{n:Nat}:∀ {l:List Sp},Ds l->(∀x∈l,x.s<n)->l.length=sumN n fun a=>if hasS l a=true then 1 else 0
 | [], _, _ => by
   rw[zN_ (g:=fun _=>0) fun v _=>by simp[hasS],xE_];rfl
 | x :: r, h, hs => by
   obtain⟨h1,h2⟩:=List.pairwise_cons.1 h
   have ih:=ls_ h2 fun y hy=>hs y (by simp[hy])
   have e:(sumN n fun a=>if hasS (x::r) a=true then 1 else 0)=sumN n fun a=>(if a=x.s then 1 else 0)+(if hasS r a=true then 1 else 0):=zN_ fun a _=>by
    by_cases ha:a=x.s
    ·have h3:hasS r a=false:=by
      cases e:hasS r a with
      |false=>rfl
      | true =>
        obtain⟨y,hy,hya⟩:=zy_.1 e
        exact absurd (hya.trans ha).symm (h1 y hy)
     have h4:hasS (x::r) a=true:=zy_.2 ⟨x,by simp,ha.symm⟩
     rw[if_pos h4,if_pos ha,h3]
     rfl
    ·have h4:hasS (x::r) a=hasS r a:=by
      have:(x.s==a)=false:=by simp;exact fun e=>ha e.symm
      simp[hasS,this]
     rw[h4,if_neg ha,Nat.zero_add]
   rw[e,vn_,rM_ (hs x (by simp)),<-ih,List.length_cons]
   omega
theorem mb_{n:Nat}{Q:List Nat}{T:Nat}{B:Nat->Bt}{M:Nat->Nat->Ms}(h:NInv n Q T B M){v:Nat}(hv:v<n):nA n M v (fun _=>true)+(B v).queue.length<=n:=by
 have hvo:=h.vo v hv
 have hd:Ds (B v).queue:=(List.pairwise_append.1 hvo.ds).2.1
 rw[ls_ hd fun x hx=>(hvo.rng x (by simp[hx])).1]
 unfold nA
 rw[<-vn_]
 refine yyd_ (sP_ (g:=fun _=>1) fun a ha=>?_) (by rw[uo_];omega)
 have hs:=pK_ (h.sh a v ha hv)
 rw[<-nn_]at hs
 show asks (fun _=>true) (M a v)+(if hasS (B v).queue a=true then 1 else 0)<=1
 split
 .next e=>rw[q_V hvo e]at hs;exact hs
 .omega
theorem rI_{a b:Nat}(h:a<=b):tri a<=tri b:=by
 induction b with
 | zero => have : a = 0 := by omega
           subst this;exact zzl_ _
 | succ b ih =>
   by_cases e:a=b+1
   .subst e;exact zzl_ _
   .exact yyd_ (ih (by omega)) (Nat.le_add_right ..)
theorem jS_{n:Nat}{Q:List Nat}{T:Nat}{B:Nat->Bt}{M:Nat->Nat->Ms}(h:NInv n Q T B M){v:Nat}(hv:v<n):pot n M v (B v)<=tri n+n:=by
 have h1:=mb_ h hv
 have h2:=rI_ h1
 cases hg:(B v).given with
 |nil=>rw[ra_ hg];omega
 | cons g t =>
   rw[yM_ hg]
   have h3:=mc_ (n:=n) (v:=v) (M:=M) (p:=fun y=>y.lt g) (q:=fun _=>true) fun _ _=>rfl
   have h4:=lu_ (fun y=>y.lt g) (B v).queue
   omega
end Go.Proofs.Ytpfjlnmnolbiaaa.QP
namespace Go.Proofs.Ytpfjlnmnolbiaaa.QP
theorem mu_play{n k:Nat}{Q:List Nat}{B:Nat->Bt}{M:Nat->Nat->Ms}(h0:∀q∈Q,q≠0)(hq:∀q∈Q,(mem n q).length<=4)(hn:n<=7)(hk:k<=134)(h:Rch n Q k B M):mu n B M<=2477:=by
 have h1:=h.w h0 hq
 have h2:S3 n B M<=n*(tri n+n):=yyd_ (sP_ fun v hv=>jS_ (h.inv h0) hv) (Nat.le_of_eq uo_)
 have h3:tri n+n<=35:=by
  have:=rI_ hn
  have e:tri 7=28:=rfl
  omega
 have h4:n*(tri n+n)<=7*35:=Nat.mul_le_mul hn h3
 unfold mu
 omega
end Go.Proofs.Ytpfjlnmnolbiaaa.QP
namespace Go.Proofs.Ytpfjlnmnolbiaaa.QP
theorem Rch.ends{n k:Nat}{Q:List Nat}{B:Nat->Bt}{M:Nat->Nat->Ms}(h0:∀q∈Q,q≠0)(hQ:∀q∈Q,q<2^n)(h:Rch n Q k B M)(hM:∀a b,a<n->b<n->M a b=[])(hu:∀i,i<n->(B i).using'=false):∀i,i<n->(B i).qu=0/\(B i).given=[]/\(B i).queue=[]:=by
 have hz:=h2_ (h.linv h0) (h.inv h0) hQ hM hu
 intro i hi
 exact⟨hz i hi,kc_ (h.inv h0) hM hz hi⟩
theorem seen_all{n o:Nat}{P:Nat->Nat->Prop}(ho:o<n*n)(h:∀p,p<n*n->P ((o+p)/n%n) ((o+p)%n)){a b:Nat}(ha:a<n)(hb:b<n):P a b:=by
 have hn:0<n:=by omega
 have hab:a*n+b<n*n:=by
  have:(a+1)*n<=n*n:=yyg_ n ha
  rw[yyn_]at this
  omega
 have e1:(a*n+b)/n=a:=by
  rw[Nat.mul_comm,Nat.mul_add_div hn,Nat.div_eq_of_lt hb];rfl
 have e2:(a*n+b)%n=b:=by
  rw[Nat.mul_comm,Nat.mul_add_mod,Nat.mod_eq_of_lt hb]
 by_cases hc:o<=a*n+b
 .have:=h (a*n+b-o) (by omega)
  rw[show o+(a*n+b-o)=a*n+b by omega,e1,e2,Nat.mod_eq_of_lt ha]at this
  exact this
 .have:=h (a*n+b+n*n-o) (by omega)
  rw[show o+(a*n+b+n*n-o)=n*n+(a*n+b) by omega,Nat.mul_add_div hn,Nat.mul_add_mod,e1,e2,Nat.add_mod_left,Nat.mod_eq_of_lt ha]at this
  exact this
end Go.Proofs.Ytpfjlnmnolbiaaa.QP
namespace Go.Proofs.Ytpfjlnmnolbiaaa
open Go.RowKit Go.Proofs
section
theorem ou_{g:Gh}{w:World}(hlt:∀k,0<g.I k->k<w.heap.size){x m:Int}(hm:1<=m)(hm2:m<=1000000):Calls Try.prog 10 #[.int .i64 x,.int .i64 m] w fun e w'=>e=.returned (.int .i64 (x%m))/\Below w.heap.size w w':=by
 refine(wq_ (nA_ x m hm (by omega)) (g:=g) (w:=w) (vals:=#[.int .i64 x,.int .i64 m]) rfl ?_ ?_ hlt).mono ?_
 .intro x hx'
  simp at hx'
  rcases hx' with rfl|rfl<;>rfl
 .intro i x v hx' hv
  match i,hx',hv with
  |0,hx',hv=>cases hx';cases hv;exact .s rfl
  |1,hx',hv=>cases hx';cases hv;exact .s rfl
 .rintro e w' ⟨v,r,g',rfl,rfl,hr,hb',_⟩
  have:=hr.of_s rfl
  subst this
  exact⟨rfl,hb'⟩
section
variable{g:Gh}{w:World}{K X n:Nat}{Q:List Nat}{xs:List Int}{k j:Nat}{B:Nat->QP.Bt}{M:Nat->Nat->QP.Ms}{T:Nat->Nat}{g':Gh}{h:Hd}{w':World}
theorem Pl.done(hp:Pl g w K X n Q xs k j B M T g' h w')(hm:Md n Q)(hj:j<=3000){i:Nat}(hi:i<n)(hu:(B i).using'=true) :
 Calls Try.prog 11 #[.pointer (some ⟨X,0,none⟩),.int .i64 i] w' fun e w2=>∃B2 M2 T2 g2 h2,e=.returned (.bool true)/\QP.mu n B2 M2+1<=QP.mu n B M/\Pl g w K X n Q xs k (j+1) B2 M2 T2 g2 h2 w2:=by
 have h9:=hm.k1.2
 have hI:=hp.rch.inv (w2_ hm)
 have hl:j*(n+2)<=3000*11:=Nat.mul_le_mul hj (by omega)
 refine(nc_ hp.net hm hI (by omega) (hp.rch.len (w2_ hm)) (by omega) hi hu).mono ?_
 rintro e w2 ⟨T2,g2,h2,rfl,hn2,hk⟩
 exact⟨_,_,T2,g2,h2,rfl,QP.mu_done hi ((hI.ao i hi).us.1 hu).1,hp.kp hn2 hk (.step hp.rch (.done hi hu))⟩
theorem Pl.deliver(hp:Pl g w K X n Q xs k j B M T g' h w')(hm:Md n Q)(hj:j<=3000){i c:Nat}(hi:i<n)(hc:c<n)(hM:M i c≠[]) :
 Calls Try.prog 12 #[.pointer (some ⟨X,0,none⟩),.int .i64 i,.int .i64 c] w' fun e w2=>∃B2 M2 T2 g2 h2,e=.returned (.bool true)/\QP.mu n B2 M2+1<=QP.mu n B M/\Pl g w K X n Q xs k (j+1) B2 M2 T2 g2 h2 w2:=by
 have h9:=hm.k1.2
 have hI:=hp.rch.inv (w2_ hm)
 have hl:j*(n+2)<=3000*11:=Nat.mul_le_mul hj (by omega)
 obtain⟨m,rest,hM'⟩:=List.exists_cons_of_ne_nil hM
 refine(uP_ hp.net hm hI (by omega) (hp.rch.len (w2_ hm)) (by omega) hi hc hM').mono ?_
 rintro e w2 ⟨T2,g2,h2,rfl,hn2,hk⟩
 exact⟨_,_,T2,g2,h2,rfl,QP.mu_heard (hp.rch.linv (w2_ hm)) hI hi hc hM',hp.kp hn2 hk (.step hp.rch (.hear hi hc hM'))⟩
theorem Pl.using(hp:Pl g w K X n Q xs k j B M T g' h w'){i:Nat}(hi:i<n):w'.cell? ⟨h.bk,i*11+7,none⟩=some (.bool (B i).using'):=by
 obtain⟨v0,v1,v2,v3,v4,v5,v6,v7,v8,v9,v10,a0,a1,a2,a3,a4,a5,a6,a7,a8,a9,a10,_,_,e7,e1⟩:=hp.net.st hi
 rw[a7,e7];rfl
theorem Pl.mail(hp:Pl g w K X n Q xs k j B M T g' h w'){i c:Nat}(hi:i<n)(hc:c<n):∃A C,h.mv i c=.slice A (M i c).length C:=by
 rcases hp.net.vv i c hi hc with ⟨e1,A,e2⟩|⟨k,off,cap,cur,e2,_⟩
 .exact⟨A,0,by rw[e2,<-xn_,e1];rfl⟩
 .exact⟨_,_,by rw[e2,xn_]⟩
end
end
set_option maxHeartbeats 8000000 in
set_option maxRecDepth 100000 in
theorem ug_(l:List Int)(n from':Int):PC Try.prog 3 [.list 1 (iv l),.s (.int .i64 n),.s (.int .i64 from')] (fun r=>r=.s (.bool true)):=by
 refine jU_ (by intro x hx;simp at hx;rcases hx with rfl|rfl|rfl<;>rfl) fun g w vs hl hr hlt=>?_
 obtain⟨lv,nv,fv,rfl⟩:∃a b c,vs=#[a,b,c]:=by
  have:vs.toList.length=3:=by simpa using hl.symm
  match hv:vs.toList,this with
  |[a,b,c],_=>exact⟨a,b,c,Array.ext' (by simpa using hv)⟩
 have mx:=zD_
 have hlv:=hr 0 _ lv rfl rfl
 have hnv:=(hr 1 _ nv rfl rfl).of_s rfl
 have hfv:=(hr 2 _ fv rfl rfl).of_s rfl
 subst hnv
 subst hfv
 have fin:∀w',Below w.heap.size w w'->∃(v:Value) (r:V) (I':Nat->Nat),Ending.returned (.bool true)=.returned v/\r=.s (.bool true)/\immT r=true/\okV r=true/\(∀b,b<w.heap.size->I' b=g.I b)/\(∀b,0<I' b->b<w'.heap.size)/\Rep ⟨I',g.φ⟩ w' r v/\Below w.heap.size w w':=fun w' hb =>
  ⟨_,_,g.I,rfl,rfl,rfl,rfl,fun _ _=>rfl,fun b hb'=>zzk_ (hlt b hb') hb.size,.s rfl,hb⟩
 have HF:=Lib.hid fin
 have HL:=Lib.hid hlv
 have H0:=Lib.hid (ri_ hlt hlv)
 clear hr hlv fin
 have hd:decide (l.length<=400)=true\/decide (l.length<=400)=false:=by cases decide (l.length<=400)<;>simp
 rcases hd with hd|hd
 .have h4:l.length<=400:=of_decide_eq_true hd
  go_enter Try.func3,Try.ntmps3
  go_wp2_with (first
   | (go_at_call 7
      refine H0.out.mono ?_
      rintro e w1 ⟨rfl,hb1⟩
      have hlt1:∀k,0<g.I k->k<w1.heap.size:=fun k hk=>zzk_ (hlt k hk) hb1.size
      have HB1:=Lib.hid hb1
      have HLT:=Lib.hid hlt1
      clear hb1 hlt1)
   | (go_at_call 9
      refine(kk_ HLT.out (qY_ hlt HL.out HB1.out) h4 n).mono ?_
      rintro e w2 ⟨X,k,Q,K,J,B,M,T,g2,h2,rfl,hmd,hsm,hJ,hp⟩
      have hbc:=hp.net.bcn
      have x2:=hp.net.x2
      have k9:k<=7:=hsm.k7
      have k1:1<=k:=hmd.k1.1
      have hmu:=QP.mu_play (w2_ hmd) hsm.q4 hsm.k7 hJ hp.rch
      have hlt2:∀k,0<g.I k->k<w2.heap.size:=fun k hk=>zzk_ (hlt k hk) (HB1.out.trans (Below.mono1 hp.below HB1.out.size)).size
      have hkk:k*k<=49:=Nat.mul_le_mul k9 k9
      have hkk1:1<=k*k:=Nat.mul_le_mul k1 k1
      have HP:=Lib.hid hp
      have HMD:=Lib.hid hmd
      have HMU:=Lib.hid hmu
      have HLT2:=Lib.hid hlt2
      clear hp hmd hsm hmu hlt2
      obtain⟨kk,hk2⟩:∃kk,k*k=kk:=⟨_,rfl⟩
      have hkz:(k:Int)*(k:Int)=(kk:Int):=by rw[<-hk2];exact(Int.natCast_mul k k).symm
      rw[hk2]at hkk hkk1
      have HKK:=Lib.hid hk2
      have hwk:IntKind.i64.wrap (kk:Int)=(kk:Int):=by rw[yye_];omega
      have hwk2:IntKind.i64.wrap ((k:Int)*(k:Int))=(kk:Int):=by rw[hkz,hwk])
   | (go_at_call 10
      refine(ou_ HLT2.out (x:=from') (m:=(kk:Int)) (by omega) (by omega)).mono ?_
      rintro e w3 ⟨rfl,hb3⟩
      have h0:=Int.emod_nonneg from' (b:=(kk:Int)) (by omega)
      have h1:=Int.emod_lt_of_pos from' (b:=(kk:Int)) (by omega)
      generalize from'%(kk:Int)=z at h0 h1 ⊢
      obtain⟨o,rfl⟩:∃o:Nat,z=(o:Int):=⟨z.toNat,by omega⟩
      have ho2:o<kk:=by omega
      have HP:=Lib.hid (HP.out.bel hb3)
      clear hb3 h0 h1))
  all_goals clear HLT x2 hbc
  go_wp2
  go_loopg [11] 3000 (fun kx s11 wr=>∃(r j':Nat) (B':Nat->QP.Bt) (M':Nat->Nat->QP.Ms) (T':Nat->Nat) (g':Gh) (h':Hd),s11=.int .i64 r/\r+kx=3000/\J+r<=j'/\j'+QP.mu k B' M'<=J+2477/\Pl g w1 K X k Q l l.length j' B' M' T' g' h' wr)
  case atStart=>exact⟨0,J,B,M,T,g2,h2,rfl,rfl,by omega,by have:=HMU.out;omega,HP.out⟩
  case round =>
   obtain⟨r,j0,B0,M0,T0,g0,h0,rfl,hr1,hr2,hr3,hI⟩:=hrel
   clear HP HMU
   have hr4:(r:Int)<3000:=by omega
   have x2:=hI.net.x2
   have hwr:IntKind.i64.wrap ((r:Int)+1)=(r:Int)+1:=by rw[yye_];omega
   have HI:=Lib.hid hI
   have HR:=Lib.hid (And.intro hr1 (And.intro hr2 hr3))
   clear hI hr1 hr2 hr3
   go_wp2
   go_loopg [12,51] k (fun kx s12 s51 wx=>∃(i j':Nat) (B':Nat->QP.Bt) (M':Nat->Nat->QP.Ms) (T':Nat->Nat) (g':Gh) (h':Hd),s12=.bool (decide (j0<j'))/\s51=.int .i64 i/\i+kx=k/\j0<=j'/\j'+QP.mu k B' M'<=J+2477/\(j'=j0->∀c,c<i->(B' c).using'=false)/\Pl g w1 K X k Q l l.length j' B' M' T' g' h' wx)
   case atStart=>exact⟨0,j0,B0,M0,T0,g0,h0,by simp,rfl,by omega,by omega,HR.out.2.2,fun _ c hc=>by omega,HI.out⟩
   case round =>
    obtain⟨i,j1,B1,M1,T1,g1,h1,rfl,rfl,hi1,hi2,hi3,hi4,hI1⟩:=hrel
    have HI1:=Lib.hid hI1
    have HR1:=Lib.hid (And.intro hi1 (And.intro hi2 (And.intro hi3 hi4)))
    have HJ:=Lib.hid (show j1<=3000 by have:=HR.out.2;omega)
    clear hI1 hi1 hi2 hi3 hi4 x2
    by_cases hm:i<k
    .have hiz:(i:Int)<(k:Int):=by omega
     have hi0:¬(i:Int)<0:=by omega
     have hwi:IntKind.i64.wrap ((i:Int)+1)=(i:Int)+1:=by rw[yye_];omega
     have y2:=HI1.out.net.x2
     have hbc2:=HI1.out.net.bcn
     have yu:=HI1.out.using hm
     cases hu:(B1 i).using' with
     | true =>
       rw[hu]at yu
       go_wp2_with (go_at_call 11
                    refine(HI1.out.done HMD.out HJ.out hm hu).mono ?_
                    rintro e w4 ⟨B2,M2,T2,g2,h2,rfl,hmu2,hp2⟩
                    have HI2:=Lib.hid hp2
                    have HM2:=Lib.hid hmu2
                    clear hp2 hmu2)
       all_goals go_wp2
       all_goals go_roundg (k-(i+1))
       case measure=>have:=HR1.out.1;omega
       case rel =>
        have:=HR1.out
        have:=HM2.out
        refine⟨i+1,j1+1,B2,M2,T2,g2,h2,?_,rfl,by omega,by omega,by omega,fun e=>by omega,HI2.out⟩
        rw[decide_eq_true (by omega)]
     | false =>
       rw[hu]at yu
       go_wp2
       go_roundg (k-(i+1))
       case measure=>have:=HR1.out.1;omega
       case rel =>
        have:=HR1.out
        refine⟨i+1,j1,B1,M1,T1,g1,h1,rfl,rfl,by omega,by omega,by omega,fun e c hc=>?_,HI1.out⟩
        by_cases hci:c=i
        .rw[hci,hu]
        .exact this.2.2.2 e c (by omega)
    .have hie:i=k:=by have:=HR1.out.1;omega
     subst hie
     have hiz:¬(i:Int)<(i:Int):=by omega
     have HE:=Lib.hid (And.intro HR1.out.2.1 (And.intro HR1.out.2.2.1 HR1.out.2.2.2))
     clear HR1 hm
     go_wp2
     go_loopg [12,14] kk (fun kx s12 s14 wx=>∃(p j':Nat) (B':Nat->QP.Bt) (M':Nat->Nat->QP.Ms) (T':Nat->Nat) (g':Gh) (h':Hd),s12=.bool (decide (j0<j'))/\s14=.int .i64 p/\p+kx=kk/\j0<=j'/\j'+QP.mu i B' M'<=J+2477/\(j'=j0->(∀c,c<i->(B' c).using'=false)/\∀q,q<p->M' ((o+q)/i%i) ((o+q)%i)=[])/\Pl g w1 K X i Q l l.length j' B' M' T' g' h' wx)
     case atStart=>exact⟨0,j1,B1,M1,T1,g1,h1,rfl,rfl,by omega,HE.out.1,HE.out.2.1,fun e=>⟨HE.out.2.2 e,fun q hq=>by omega⟩,HI1.out⟩
     case round =>
      obtain⟨p,j2,B2,M2,T2,g2',h2',rfl,rfl,hp1,hp2,hp3,hp4,hI2⟩:=hrel
      clear HI1 HE HJ
      have HI2:=Lib.hid hI2
      have HR2:=Lib.hid (And.intro hp1 (And.intro hp2 (And.intro hp3 hp4)))
      have HJ2:=Lib.hid (show j2<=3000 by have:=HR.out.2;omega)
      clear hI2 hp1 hp2 hp3 hp4
      by_cases hm:p<kk
      .have hpz:(p:Int)<(kk:Int):=by omega
       have hwp:IntKind.i64.wrap ((p:Int)+1)=(p:Int)+1:=by rw[yye_];omega
       have hwo:IntKind.i64.wrap ((o:Int)+(p:Int))=(o:Int)+(p:Int):=by rw[yye_];omega
       have hin0:¬(i:Int)=0:=by omega
       have hinb:((i:Int)==0)=false:=by rw[beq_eq_false_iff_ne];omega
       obtain⟨d,hd1⟩:∃d,(o+p)/i=d:=⟨_,rfl⟩
       obtain⟨a,ha1⟩:∃a,d%i=a:=⟨_,rfl⟩
       obtain⟨c,hc1⟩:∃c,(o+p)%i=c:=⟨_,rfl⟩
       have hdl:d<=o+p:=by rw[<-hd1];exact Nat.div_le_self _ _
       have hal:a<i:=by rw[<-ha1];exact Nat.mod_lt _ (by omega)
       have hcl:c<i:=by rw[<-hc1];exact Nat.mod_lt _ (by omega)
       have hdz:((o:Int)+(p:Int)).tdiv (i:Int)=(d:Int):=by rw[Int.tdiv_eq_ediv_of_nonneg (by omega),<-hd1];rfl
       have haz:(d:Int).tmod (i:Int)=(a:Int):=by rw[Int.tmod_eq_emod_of_nonneg (by omega),<-ha1];rfl
       have hcz:((o:Int)+(p:Int)).tmod (i:Int)=(c:Int):=by rw[Int.tmod_eq_emod_of_nonneg (by omega),<-hc1];rfl
       have hwd:IntKind.i64.wrap (d:Int)=(d:Int):=by rw[yye_];omega
       have hwa:IntKind.i64.wrap (a:Int)=(a:Int):=by rw[yye_];omega
       have hwc:IntKind.i64.wrap (c:Int)=(c:Int):=by rw[yye_];omega
       have HAC:=Lib.hid (show (o+p)/i%i=a/\(o+p)%i=c from ⟨by rw[hd1,ha1],hc1⟩)
       have haz2:(a:Int)<(i:Int):=by omega
       have hcz2:(c:Int)<(i:Int):=by omega
       have ha0:¬(a:Int)<0:=by omega
       have hc0:¬(c:Int)<0:=by omega
       have y3:=HI2.out.net.x3
       have hmcn:=HI2.out.net.mcn
       have hrcn:=HI2.out.net.rcn a hal
       have m1:=HI2.out.net.m1 hal
       have m2:=HI2.out.net.m2 hal hcl
       obtain⟨A,C,hmv⟩:=HI2.out.mail hal hcl
       rw[hmv]at m2
       clear hd1 ha1 hc1 hmv
       by_cases hM:M2 a c=[]
       .have hM':=hM
        rw[hM]at m2
        have hl0:¬(0:Int)<(((([]:QP.Ms).length:Nat):Int)):=by simp
        obtain⟨ml,hml⟩:∃ml,([]:QP.Ms).length=ml:=⟨_,rfl⟩
        rw[hml]at m2 hl0
        clear hml
        go_wp2
        go_region
        go_wp2
        go_roundg (kk-(p+1))
        case measure=>have:=HR2.out.1;omega
        case rel =>
         have h:=HR2.out
         refine⟨p+1,j2,B2,M2,T2,g2',h2',rfl,rfl,by omega,by omega,by omega,fun e=>⟨(h.2.2.2 e).1,fun q hq=>?_⟩,HI2.out.bel ⟨rfl,rfl,rfl,zzl_ _,fun _ _=>rfl⟩⟩
         by_cases hqp:q=p
         .subst hqp
          rw[HAC.out.1,HAC.out.2]
          exact hM'
         .exact(h.2.2.2 e).2 q (by omega)
       ·have hl0:(0:Int)<((M2 a c).length:Int):=by
         have:=List.length_pos_iff.2 hM
         omega
        have hC:=HI2.out.bel (w2:=wr.drew) ⟨rfl,rfl,rfl,zzl_ _,fun _ _=>rfl⟩
        have HC:=Lib.hid hC
        generalize (M2 a c).length=ml at m2 hl0
        clear hC
        go_wp2
        go_region
        go_wp2_with (first
         | (go_at_call 12
            refine(HC.out.deliver HMD.out HJ2.out hal hcl hM).mono ?_
            rintro e w4 ⟨B3,M3,T3,g3,h3,rfl,hmu3,hp3⟩
            have HI3:=Lib.hid hp3
            have HM3:=Lib.hid hmu3
            clear hp3 hmu3)
         | (go_at_call 13
            refine(HI3.out.alone HMD.out).mono ?_
            rintro e w5 ⟨rfl,hp4⟩
            have HI3:=Lib.hid hp4
            clear hp4))
        all_goals go_wp2
        all_goals go_roundg (kk-(p+1))
        case measure=>have:=HR2.out.1;omega
        case rel =>
         have:=HR2.out
         have:=HM3.out
         refine⟨p+1,j2+1,B3,M3,T3,g3,h3,?_,rfl,by omega,by omega,by omega,fun e=>by omega,HI3.out⟩
         rw[decide_eq_true (by omega)]
      .have hpe:p=kk:=by have:=HR2.out.1;omega
       subst hpe
       have hpz:¬(p:Int)<(p:Int):=by omega
       have hdd:decide (j0<j2)=true\/decide (j0<j2)=false:=by cases decide (j0<j2)<;>simp
       rcases hdd with hdd|hdd
       .rw[hdd]
        have hjj:=of_decide_eq_true hdd
        go_wp2
        go_roundg (3000-(r+1))
        case measure=>have:=HR.out;omega
        case rel =>
         have:=HR.out
         have:=HR2.out
         exact⟨r+1,j2,B2,M2,T2,g2',h2',rfl,by omega,by omega,by omega,HI2.out⟩
       .rw[hdd]
        have hjj:=of_decide_eq_false hdd
        have hje:j2=j0:=by have:=HR2.out;omega
        obtain⟨hu,hM⟩:=HR2.out.2.2.2 hje
        have hM0:∀a b,a<i->b<i->M2 a b=[]:=fun a b ha hb=>QP.seen_all (n:=i) (o:=o) (P:=fun a b=>M2 a b=[]) (by rw[HKK.out];exact ho2) (fun q hq=>hM q (by rw[HKK.out]at hq;exact hq)) ha hb
        have hend:=HI2.out.rch.ends (w2_ HMD.out) (fun q hq=>(HMD.out.cot.rng q hq).2) hM0 hu
        have HE:=Lib.hid hend
        have HM0:=Lib.hid hM0
        have y2:=HI2.out.net.x2
        have hbc2:=HI2.out.net.bcn
        clear hu hM hM0 hend hje hdd hjj
        go_wp2
        go_loopg [115] i (fun kx s115 wx=>∃a:Nat,s115=.int .i64 a/\a+kx=i/\Pl g w1 K X i Q l l.length j2 B2 M2 T2 g2' h2' wx)
        case atStart=>exact⟨0,rfl,by omega,HI2.out⟩
        case round =>
         obtain⟨a,rfl,ha,hI3⟩:=hrel
         have HI3:=Lib.hid hI3
         have HA:=Lib.hid ha
         clear hI3 ha HI2 y2
         by_cases hm:a<i
         .have haz:(a:Int)<(i:Int):=by omega
          have ha0:¬(a:Int)<0:=by omega
          have hwa:IntKind.i64.wrap ((a:Int)+1)=(a:Int)+1:=by rw[yye_];omega
          obtain⟨v0,v1,v2,v3,v4,v5,v6,v7,v8,v9,v10,a0,a1,a2,a3,a4,a5,a6,a7,a8,a9,a10,hrv,⟨o0,o1,o2,o3,o4,o5,o6,o7,o8,o9,o10⟩,e7,e1⟩:=HI3.out.net.st hm
          obtain⟨z1,z2,z3⟩:=HE.out a hm
          have e8:(∃A c,v8=.slice A 0 c)/\∃A c,v9=.slice A 0 c:=by
           cases hrv with
           | agg q1 q2 q3 =>
             have h8:=q3 8 _ v8 rfl rfl
             have h9:=q3 9 _ v9 rfl rfl
             obtain⟨A,c,h⟩:=tU_ h8
             obtain⟨A',c',h'⟩:=tU_ h9
             exact⟨⟨A,c,by rw[h];simp[toBl,z2]⟩,⟨A',c',by rw[h'];simp[toBl,z3]⟩⟩
          obtain⟨⟨A8,c8,e8⟩,⟨A9,c9,e9⟩⟩:=e8
          have e1':v1=.int .i64 0:=by rw[e1];show Value.int .i64 ((B2 a).qu:Nat)=_;rw[z1];rfl
          obtain⟨y1,y2,y3,y4,y5,y6,y7,y8,y9,y10,W,z0,z1,z2,z3,z4,z5,z6,z7,z8,z9,z10,hW1,hW2,hW3⟩:=nj_ (P:=Try.prog) wr (v0:=v0) (v1:=v1) (v2:=v2) (v3:=v3) (v4:=v4) (v5:=v5) (v6:=v6) (v7:=v7) (v8:=v8) (v9:=v9) (v10:=v10) (by
           intro v hv
           simp at hv
           rcases hv with rfl|rfl|rfl|rfl|rfl|rfl|rfl|rfl|rfl|rfl|rfl<;>assumption)
          have HW4:=Lib.hid (HI3.out.bel hW1)
          have b1:W.cell? ⟨wr.heap.size,1,none⟩=some (.int .i64 0):=by simp[World.cell?,hW3,e1']
          have b8:W.cell? ⟨wr.heap.size,8,none⟩=some (.slice A8 0 c8):=by simp[World.cell?,hW3,e8]
          have b9:W.cell? ⟨wr.heap.size,9,none⟩=some (.slice A9 0 c9):=by simp[World.cell?,hW3,e9]
          clear hrv e7 e1 e1' e8 e9 hW1 hW2 hW3 o0 o1 o2 o3 o4 o5 o6 o7 o8 o9 o10
          have x2':=HW4.out.net.x2
          go_wp2
          go_loopg [140] i (fun kx s140 wx=>∃c:Nat,s140=.int .i64 c/\c+kx=i/\Pl g w1 K X i Q l l.length j2 B2 M2 T2 g2' h2' wx)
          case atStart=>exact⟨0,rfl,by omega,HW4.out⟩
          case round =>
           obtain⟨c,rfl,hc,hI5⟩:=hrel
           have HI5:=Lib.hid hI5
           have HCC:=Lib.hid hc
           clear hI5 hc HW4 x2' HI3
           by_cases hmc:c<i
           .have hcz:(c:Int)<(i:Int):=by omega
            have hc0:¬(c:Int)<0:=by omega
            have hwc:IntKind.i64.wrap ((c:Int)+1)=(c:Int)+1:=by rw[yye_];omega
            have y3:=HI5.out.net.x3
            have hmcn:=HI5.out.net.mcn
            have hrcn:=HI5.out.net.rcn a hm
            have m1:=HI5.out.net.m1 hm
            have m2:=HI5.out.net.m2 hm hmc
            obtain⟨A,C,hmv⟩:=HI5.out.mail hm hmc
            rw[hmv,HM0.out a c hm hmc]at m2
            obtain⟨ml,hml⟩:∃ml,([]:QP.Ms).length=ml:=⟨_,rfl⟩
            have hl0:¬(0:Int)<(ml:Int):=by rw[<-hml];simp
            rw[hml]at m2
            clear hml hmv
            go_wp2
            go_roundg (i-(c+1))
            case measure=>have:=HCC.out;omega
            case rel=>exact⟨c+1,rfl,by have:=HCC.out;omega,HI5.out⟩
           .have hcz:¬(c:Int)<(i:Int):=by omega
            go_wp2
            go_roundg (i-(a+1))
            case measure=>have:=HA.out;omega
            case rel=>exact⟨a+1,rfl,by have:=HA.out;omega,HI5.out⟩
         .have haz:¬(a:Int)<(i:Int):=by omega
          go_wp2_with (go_at_call 8
                       refine(ud_ (g:=g) (fun b hb=>zzk_ (hlt b hb) (HB1.out.trans (Below.mono1 HI3.out.below HB1.out.size)).size)).mono ?_
                       rintro e w3 ⟨rfl,hb3⟩
                       have HB3:=Lib.hid ((HB1.out.trans (Below.mono1 HI3.out.below HB1.out.size)).trans (Below.mono1 hb3 (by have:=HB1.out.size;have:=HI3.out.below.size;omega)))
                       clear hb3)
          all_goals go_wp2
          all_goals go_ret
          all_goals exact HF.out _ HB3.out
 .go_enter Try.func3,Try.ntmps3
  go_wp2_with (first
   | (go_at_call 7
      refine H0.out.mono ?_
      rintro e w1 ⟨rfl,hb1⟩
      have hlt1:∀k,0<g.I k->k<w1.heap.size:=fun k hk=>zzk_ (hlt k hk) hb1.size
      have HB1:=Lib.hid hb1
      have HLT:=Lib.hid hlt1
      clear hb1 hlt1)
   | (go_at_call 8
      refine(ud_ HLT.out).mono ?_
      rintro e w3 ⟨rfl,hb3⟩
      have HB3:=Lib.hid (HB1.out.trans (Below.mono1 hb3 HB1.out.size))
      clear hb3))
  all_goals go_wp2
  all_goals go_ret
  all_goals exact HF.out _ HB3.out
section
structure Rd(w:World)(g:Gh)(cs:List Value)(xs:List V):Prop where
 len:xs.length=cs.length
 rep:∀(j:Nat) (x:V) (c:Value),xs[j]?=some x->cs[j]?=some c->Rep (allG w g) w x c/\immC x=true/\c.oneCell'=true
def v2_(P:Program)(e:TypeId)(xs:List V):V:=if aggT P e=some true then .agg xs else xs.headD .no
def Shape(P:Program):Nat->TypeId->List V->Prop
 |0,_,_=>False
 | f + 1, t, xs =>
   match P.underlying t with
   |some .bool=>∃b,xs=[.s (.bool b)]
   |some (.int k)=>∃n,(Lit.int k n).wf=true/\xs=[.s (.int k n)]
   |some .string=>∃s:ByteArray,s.size<=maxLen/\xs=[.s (.string s)]
   |some (.slice e)=>∃els:List (List V),xs=[.list (P.cellsOf e) (els.map (v2_ P e))]/\els.length<=maxLen/\∀el∈els,Shape P f e el
   |some (.struct fs)=>∃parts:List (List V),xs=parts.flatten/\parts.length=fs.size/\∀(i:Nat) (fl:Field) (p:List V),fs[i]?=some fl->parts[i]?=some p->Shape P f fl.type p
   |_=>False
def qq_(P:Program):List Field->Nat->Bool
 |[],_=>true
 |f::r,off=>decide (f.offset=off)&&qq_ P r (off+P.cellsOf f.type)
def wk_(P:Program):List Field->Nat
 |[]=>0
 |f::r=>P.cellsOf f.type+wk_ P r
def okTy(P:Program):Nat->TypeId->Bool
 |0,_=>false
 | f + 1, t =>
   match P.underlying t with
   |some .bool|some (.int _)|some .string=>Nat.beq (P.cellsOf t) 1
   |some (.slice e)=>Nat.beq (P.cellsOf t) 1&&okTy P f e&&((match aggT P e with|some true=>true|some false=>Nat.beq (P.cellsOf e) 1|none=>false))
   |some (.struct fs)=>qq_ P fs.toList 0&&Nat.beq (wk_ P fs.toList) (P.cellsOf t)&&fs.all fun fl=>okTy P f fl.type
   |_=>false
section
variable{H:Type}{enc:TypeId×Value->H}{P:Program}{w:World}{g:Gh}{base:Nat}{sp:Nat->Bool}{held:Bool}
theorem sy_:∀(fs:List Field) (off:Nat) (cs:List Value) (parts:List (List V)),qq_ P fs off=true->off+wk_ P fs=cs.length->parts.length=fs.length ->
 (∀(i:Nat) (fl:Field) (p:List V),fs[i]?=some fl->parts[i]?=some p->Rd w g ((cs.drop fl.offset).take (P.cellsOf fl.type)) p)->Rd w g (cs.drop off) parts.flatten
 | [], off, cs, parts, hc, hl, hp, h => by
   have:parts=[]:=List.length_eq_zero_iff.1 hp
   subst this
   simp only[wk_,Nat.add_zero]at hl
   rw[List.drop_of_length_le (by omega)]
   exact⟨rfl,fun j x c hx=>by simp at hx⟩
 |f::r,off,cs,[],hc,hl,hp,h=>by simp at hp
 | f :: r, off, cs, p :: ps, hc, hl, hp, h => by
   simp only[qq_,zzg_,zzp_]at hc
   simp only[wk_]at hl
   have h0:=h 0 f p rfl rfl
   have ih:=sy_ r (off+P.cellsOf f.type) cs ps hc.2 (by omega) (by simpa using hp) (fun i fl q hi hq=>h (i+1) fl q (by simpa using hi) (by simpa using hq))
   rw[hc.1]at h0
   have hp0:p.length=P.cellsOf f.type:=by rw[h0.len];simp;omega
   refine⟨?_,fun j x c hx hcj=>?_⟩
   .have:=ih.len
    simp only[List.flatten_cons,zzr_,List.length_drop]at this ⊢
    omega
   .simp only[List.flatten_cons,List.getElem?_append]at hx
    split at hx
    .next hj =>
     refine h0.rep j x c hx ?_
     rw[zzu_,if_pos (by omega)]
     exact hcj
    .next hj =>
     refine ih.rep (j-p.length) x c hx ?_
     rw[zzA_]at hcj ⊢
     rw[<-hcj]
     congr 1
     omega
theorem pY_{c:Value}(h:c.oneCell'=true):Rd w g [c] [.s c]:=⟨rfl,fun j x c' hx hc=>by
 cases j with
 |zero=>simp at hx hc;subst hx hc;exact⟨.s h,rfl,h⟩
 |succ j=>simp at hx⟩
theorem wf_{α:Type}{Q:Nat->α->Prop}:∀(n:Nat),(∀i,i<n->∃a,Q i a)->∃l:List α,l.length=n/\∀(i:Nat) (a:α),l[i]?=some a->Q i a
 |0,_=>⟨[],rfl,by simp⟩
 | n + 1, h => by
   obtain⟨l,h1,h2⟩:=wf_ n (fun i hi=>h i (by omega))
   obtain⟨a,ha⟩:=h n (by omega)
   refine⟨l++[a],by simp[h1],fun i b hi=>?_⟩
   rw[List.getElem?_append]at hi
   split at hi
   .exact h2 i b hi
   ·have:i=n:=by
     have:=(zzc_.1 hi).1
     simp at this
     omega
    subst this
    rw[h1]at hi
    simp at hi
    subst hi
    exact ha
theorem t1_:∀(dep:Nat) (t:TypeId),okTy P dep t=true->∀(fuel:Nat) (cs:List Value) (x:DataW H×List MemPlace),DataW.trod enc P w base sp held fuel t cs=some x->∃xs,Rd w g cs xs/\Shape P dep t xs/\cs.length=P.cellsOf t
 |0,t,h=>by simp[okTy]at h
 | dep + 1, t, hok => fun fuel cs x h => by
   unfold okTy at hok
   unfold Shape
   cases hu:P.underlying t with
   |none=>rw[hu]at hok;simp at hok
   | some td =>
     rw[hu]at hok
     cases td with
     | bool =>
       have h1:=yyq_ hok
       obtain⟨b,rfl⟩:∃b,cs=[.bool b]:=by
        cases fuel with
        |zero=>simp[DataW.trod]at h
        | succ n =>
          unfold DataW.trod at h
          rw[hu]at h
          split at h<;>simp_all
       exact⟨[.s (.bool b)],pY_ rfl,⟨b,rfl⟩,by simp[h1]⟩
     | int k =>
       have h1:=yyq_ hok
       obtain⟨n,hn,rfl⟩:∃n,(Lit.int k n).wf=true/\cs=[.int k n]:=by
        cases fuel with
        |zero=>simp[DataW.trod]at h
        | succ n =>
          unfold DataW.trod at h
          rw[hu]at h
          split at h<;>simp_all
       exact⟨[.s (.int k n)],pY_ rfl,⟨n,hn,rfl⟩,by simp[h1]⟩
     | string =>
       have h1:=yyq_ hok
       obtain⟨s,hs,rfl⟩:∃s:ByteArray,s.size<=maxLen/\cs=[.string s]:=by
        cases fuel with
        |zero=>simp[DataW.trod]at h
        | succ n =>
          unfold DataW.trod at h
          rw[hu]at h
          split at h<;>simp_all
       exact⟨[.s (.string s)],pY_ rfl,⟨s,hs,rfl⟩,by simp[h1]⟩
     | slice e =>
       simp only[zzg_]at hok
       obtain⟨⟨h1,h2⟩,h3⟩:=hok
       have h1:=yyq_ h1
       simp only
       rcases DataW.trod_slice hu h with ⟨rfl,_⟩|⟨a,len,cap,elems,rest,n,rfl,rfl,rfl,hb,hl,hm,hel,hget,_,_⟩
       ·exact⟨[.list (P.cellsOf e) []],⟨rfl,fun j x c hx hc=>by
         cases j with
         | zero =>
           simp at hx hc
           subst hx hc
           exact⟨.list (fun _=>undef) (zzl_ _) (zzn_ _) (fun _=>rfl) (by simp) (by simp[flat]) (fun j hj=>by simp[flat]at hj) (fun j u hu=>by simp[flat]at hu),rfl,rfl⟩
         |succ j=>simp at hx⟩,⟨[],rfl,zzn_ _,by simp⟩,by simp[h1]⟩
       · -- the elements
         have hone:∀i,i<len->∃(cs':List Value) (xs:List V),w.cells? base (a.add (i*P.cellsOf e)) (P.cellsOf e)=some cs'/\Rd w g cs' xs/\Shape P dep e xs/\cs'.length=P.cellsOf e:=by
          intro i hi
          have:=hget i hi
          rw[zzf_ (by omega)]at this
          obtain⟨cs',k1,k2⟩:=zza_.1 this
          obtain⟨xs,k3,k4,k5⟩:=t1_ dep e h2 _ _ _ k2
          exact⟨cs',xs,k1,k3,k4,k5⟩
         obtain⟨els,e1,e2⟩:=wf_ (Q:=fun i xs=>∃cs':List Value,w.cells? base (a.add (i*P.cellsOf e)) (P.cellsOf e)=some cs'/\Rd w g cs' xs/\Shape P dep e xs/\cs'.length=P.cellsOf e) len (fun i hi=>by
          obtain⟨cs',xs,q⟩:=hone i hi
          exact⟨xs,cs',q⟩)
         have hlen:∀el∈els,el.length=P.cellsOf e:=fun el hel'=>by
          obtain⟨i,hi⟩:=List.mem_iff_getElem?.1 hel'
          obtain⟨cs',q1,q2,q3,q4⟩:=e2 i el hi
          rw[q2.len,q4]
         have hcells:∀el∈els,cellsOf (v2_ P e el)=el:=fun el hel'=>by
          have hl':=hlen el hel'
          unfold v2_
          cases hag:aggT P e with
          |none=>rw[hag]at h3;cases h3
          | some b =>
            cases b with
            |true=>simp[cellsOf]
            | false =>
              rw[hag]at h3
              have h3:=yyq_ h3
              rw[h3]at hl'
              obtain⟨y,rfl⟩:=List.length_eq_one_iff.1 hl'
              obtain⟨i,hi⟩:=List.mem_iff_getElem?.1 hel'
              obtain⟨cs',q1,q2,q3,q4⟩:=e2 i [y] hi
              have hc0:∃c,cs'[0]?=some c:=⟨cs'[0]'(by omega),by simp[(by omega:0<cs'.length)]⟩
              obtain⟨c,hc⟩:=hc0
              have hi':=(q2.rep 0 y c rfl hc).2.1
              simp only[yya_,yyi_,if_false,List.headD_cons]
              cases y<;>simp[immC]at hi'<;>rfl
         have hz:∀y∈els.map (v2_ P e),(cellsOf y).length=P.cellsOf e:=fun y hy=>by
          obtain⟨el,q1,rfl⟩:=List.mem_map.1 hy
          rw[hcells el q1,hlen el q1]
         have hfl:=z8_ hz
         rw[List.length_map,e1]at hfl
         -- one cell among all
         have hat:∀j,j<len*P.cellsOf e->∃(i o:Nat) (el:List V) (u:V) (c:Value),j=i*P.cellsOf e+o/\els[i]?=some el/\el[o]?=some u/\(flat (els.map (v2_ P e)))[j]?=some u/\w.cell? (a.add j)=some c/\Rep (allG w g) w u c/\immC u=true:=by
          intro j hj
          have hz0:0<P.cellsOf e:=by
           rcases yyo_ (P.cellsOf e) with q|q
           .rw[q]at hj;omega
           .exact q
          have hi:j/P.cellsOf e<len:=(Nat.div_lt_iff_lt_mul hz0).2 hj
          have ho:j%P.cellsOf e<P.cellsOf e:=Nat.mod_lt _ hz0
          have hje:j=j/P.cellsOf e*P.cellsOf e+j%P.cellsOf e:=by rw[Nat.mul_comm];exact(Nat.div_add_mod _ _).symm
          have hel':els[j/P.cellsOf e]?=some (els[j/P.cellsOf e]'(by omega)):=zzf_ (by omega)
          generalize els[j/P.cellsOf e]'(by omega)=el at hel'
          obtain⟨cs',q1,q2,q3,q4⟩:=e2 _ el hel'
          have hm:=zzd_ hel'
          have hu:el[j%P.cellsOf e]?=some (el[j%P.cellsOf e]'(by rw[hlen el hm];exact ho)):=by simp
          generalize el[j%P.cellsOf e]'(by rw[hlen el hm];exact ho)=u at hu
          have hc:cs'[j%P.cellsOf e]?=some (cs'[j%P.cellsOf e]'(by rw[q4];exact ho)):=by simp
          generalize cs'[j%P.cellsOf e]'(by rw[q4];exact ho)=c at hc
          obtain⟨_,_,q5⟩:=World.cells?_some q1
          have q6:=q5 _ ho
          rw[Addr.add_add,<-hje,hc]at q6
          obtain⟨r1,r2,_⟩:=q2.rep _ u c hu hc
          refine⟨_,_,el,u,c,hje,hel',hu,?_,q6,r1,r2⟩
          have hx:(els.map (v2_ P e))[j/P.cellsOf e]?=some (v2_ P e el):=by rw[zzs_,hel'];rfl
          have:=xZ_ hz hx ho
          rw[hcells el hm,<-hje]at this
          rw[this,hu]
         have hrd:Rep (allG w g) w (.list (P.cellsOf e) (els.map (v2_ P e))) (.slice (some a) (els.map (v2_ P e)).length cap):=by
          refine .list (fun j=>(w.cell? (a.add j)).getD undef) (by simp;omega) hm (fun q=>by cases q) hz (fun u hu=>?_) (fun j hj=>?_) (fun j u hu=>?_)
          .obtain⟨j,hj⟩:=List.mem_iff_getElem?.1 hu
           have hjl:=(zzc_.1 hj).1
           obtain⟨_,_,_,u',c,_,_,_,q4,_,_,q7⟩:=hat j (by omega)
           rw[hj]at q4
           cases q4
           exact q7
          .obtain⟨_,_,_,u',c,_,_,_,_,q5,_,_⟩:=hat j (by omega)
           have h0:∃c0,w.cell? (a.add 0)=some c0:=by
            obtain⟨_,_,_,_,c0,_,_,_,_,q,_,_⟩:=hat 0 (by omega)
            exact⟨c0,q⟩
           obtain⟨c0,h0⟩:=h0
           have ha:a=⟨a.block,a.off,none⟩:=by
            have e0:a.add 0=a:=by simp[Addr.add]
            rw[e0]at h0
            obtain⟨b,o,s⟩:=a
            cases s with
            |none=>rfl
            | some q =>
              unfold World.cell? at h0
              split at h0
              .simp at h0
              .cases h0
           have hadd:a.add j=⟨a.block,a.off+j,none⟩:=by rw[ha,zM_]
           rw[hadd]at q5
           refine⟨a.block,a.off,congrArg some ha,nv_ q5,?_⟩
           rw[hadd,q5]
           rfl
          .have hjl:=(zzc_.1 hu).1
           obtain⟨_,_,_,u',c,_,_,_,q4,q5,q6,_⟩:=hat j (by omega)
           rw[hu]at q4
           cases q4
           rw[q5]
           exact q6
         refine⟨[.list (P.cellsOf e) (els.map (v2_ P e))],⟨rfl,fun j x c hx hc=>?_⟩,⟨els,rfl,by omega,fun el hel'=>?_⟩,by simp[h1]⟩
         .cases j with
          | zero =>
            simp only[List.getElem?_cons_zero,yya_]at hx hc
            subst hx hc
            rw[List.length_map,e1]at hrd
            exact⟨hrd,rfl,rfl⟩
          |succ j=>simp at hx
         .obtain⟨i,hi⟩:=List.mem_iff_getElem?.1 hel'
          obtain⟨_,_,_,q,_⟩:=e2 i el hi
          exact q
     | struct fs =>
       simp only[zzg_]at hok
       obtain⟨⟨h1,h2⟩,h3⟩:=hok
       have h2:=yyq_ h2
       obtain⟨xs,n,rfl,rfl,k1,k2,k3⟩:=DataW.trod_struct hu h
       have hone:∀(i:Nat) (fl:Field),fs[i]?=some fl->∃p,Rd w g ((cs.drop fl.offset).take (P.cellsOf fl.type)) p/\Shape P dep fl.type p:=by
        intro i fl hi
        have hi':=(zzm_.1 hi).1
        have:=k3 i fl hi
        rw[zzf_ (by omega)]at this
        obtain⟨p,q1,q2,_⟩:=t1_ dep fl.type (by
         rw[Array.all_eq_true]at h3
         have:=h3 i hi'
         have e:fs[i]=fl:=by simpa[hi'] using hi
         rw[e]at this
         exact this) _ _ _ this
        exact⟨p,q1,q2⟩
       have hex:∃parts:List (List V),parts.length=fs.size/\∀(i:Nat) (fl:Field) (p:List V),fs[i]?=some fl->parts[i]?=some p->Rd w g ((cs.drop fl.offset).take (P.cellsOf fl.type)) p/\Shape P dep fl.type p:=by
        obtain⟨parts,e1,e2⟩:=wf_ (Q:=fun i p=>∀fl,fs[i]?=some fl->Rd w g ((cs.drop fl.offset).take (P.cellsOf fl.type)) p/\Shape P dep fl.type p) fs.size (fun i hi=>by
         obtain⟨p,hp⟩:=hone i fs[i] (by simp[hi])
         refine⟨p,fun fl hfl=>?_⟩
         have:fs[i]=fl:=by simpa[hi] using hfl
         rw[<-this]
         exact hp)
        exact⟨parts,e1,fun i fl p hi hp=>e2 i p hp fl hi⟩
       obtain⟨parts,m1,m2⟩:=hex
       refine⟨parts.flatten,?_,⟨parts,rfl,m1,fun i fl p hi hp=>(m2 i fl p hi hp).2⟩,k1⟩
       have:=sy_ (w:=w) (g:=g) fs.toList 0 cs parts h1 (by omega) (by simpa using m1) (fun i fl p hi hp=>(m2 i fl p (by simpa using hi) hp).1)
       simpa using this
     |_=>simp at hok
end
end
end Go.Proofs.Ytpfjlnmnolbiaaa
namespace Go.Proofs.Ytpfjlnmnolbiaaa
open Go.RowKit Go.WideShapes
def g00:Gh:=⟨fun _=>0,fun _=>0⟩
def x4_(P:Program)(dep:Nat)(t:TypeId)(x:V):Prop :=
 match P.underlying t with
 |some (.struct _)=>∃xs,x=.agg xs/\Shape P dep t xs
 |_=>Shape P dep t [x]
section
variable{H:Type}{enc:TypeId×Value->H}{P:Program}{w:World}{base:Nat}{sp:Nat->Bool}{held:Bool}
theorem tu_{dep b2:Nat}{t:TypeId}{v:Value}{d:DataW H}{ps:List MemPlace}(hok:okTy P dep t=true)(hval:Value.okWide P w .any b2 t v)(htr:DataW.Trod enc P w base sp held t v d ps) :
 ∃x,Rep (allG w g00) w x v/\immA x=true/\x4_ P dep t x:=by
 obtain⟨fuel,h⟩:=htr
 obtain⟨xs,h1,h2,h3⟩:=t1_ (g:=g00) dep t hok _ _ _ h
 cases dep with
 |zero=>simp[okTy]at hok
 | succ dep =>
   have hone:(∀cs,v≠.agg cs)->v.cells.toList.length=1->∃x,xs=[x]/\Rep (allG w g00) w x v/\immC x=true:=by
    intro hna hl
    have hlx:xs.length=1:=by rw[h1.len,hl]
    obtain⟨x,rfl⟩:=List.length_eq_one_iff.1 hlx
    have hc:v.cells.toList[0]?=some v:=by cases v<;>first|rfl|exact absurd rfl (hna _)
    obtain⟨k1,k2,_⟩:=h1.rep 0 x v rfl hc
    exact⟨x,rfl,k1,k2⟩
   have hsc:∀td,P.underlying t=some td->(∀fs,td≠.struct fs)->(∀cs,v≠.agg cs)->∃x,Rep (allG w g00) w x v/\immA x=true/\x4_ P (dep+1) t x:=by
    intro td hu hns hna
    obtain⟨x,rfl,k1,k2⟩:=hone hna (by cases v<;>first|rfl|exact absurd rfl (hna _))
    refine⟨x,k1,by cases x<;>first|exact k2|(simp[immC]at k2),?_⟩
    unfold x4_
    rw[hu]
    cases td<;>first|exact absurd rfl (hns _)|exact h2
   cases hu:P.underlying t with
   |none=>unfold okTy at hok;rw[hu]at hok;simp at hok
   | some td =>
     cases td with
     |bool=>obtain⟨b,rfl⟩:=okWide_bool hu hval;exact hsc _ hu (by simp) (by simp)
     |int k=>obtain⟨n,rfl⟩:=okWide_int hu hval;exact hsc _ hu (by simp) (by simp)
     |string=>obtain⟨s,rfl⟩:=okWide_string hu hval;exact hsc _ hu (by simp) (by simp)
     |slice e=>obtain⟨a,l,c,rfl⟩:=okWide_slice hu hval;exact hsc _ hu (by simp) (by simp)
     | struct fs =>
       obtain⟨cs,rfl,hsz⟩:=okWide_struct hu hval
       have hcells:(Value.agg cs).cells.toList=cs.toList:=rfl
       rw[hcells]at h1
       refine⟨.agg xs,.agg (by simpa using h1.len) (fun c hc=>?_) (fun j u c hu' hc=>(h1.rep j u c hu' (by simpa using hc)).1),?_,?_⟩
       .obtain⟨j,hj⟩:=List.mem_iff_getElem?.1 hc
        have hjl:j<xs.length:=by rw[h1.len];exact(zzc_.1 hj).1
        exact(h1.rep j _ c (zzf_ hjl) hj).2.2
       .simp only[immA,zzh_]
        intro u hu'
        obtain⟨j,hj⟩:=List.mem_iff_getElem?.1 hu'
        have hjl:j<cs.toList.length:=by rw[<-h1.len];exact(zzc_.1 hj).1
        exact(h1.rep j u _ hj (zzf_ hjl)).2.1
       .unfold x4_
        rw[hu]
        exact⟨xs,rfl,h2⟩
     |_=>unfold okTy at hok;rw[hu]at hok;simp at hok
theorem oJ_{f:FuncId}{args:List V}{vals:Array Value}(hpc:PC P f args (fun r=>r=.s (.bool true)))(hl:args.length=vals.size)(hr:∀(i:Nat) (x:V) (v:Value),args[i]?=some x->vals[i]?=some v->Rep (allG w g00) w x v/\immA x=true) :
 Calls P f vals w fun e w'=>e=.returned (.bool true)/\Below w.heap.size w w':=by
 have himm:∀x∈args,immA x=true:=by
  intro x hx
  obtain⟨i,hi⟩:=List.mem_iff_getElem?.1 hx
  have hil:i<vals.size:=by rw[<-hl];exact(zzc_.1 hi).1
  exact(hr i x vals[i] hi (by simp[hil])).2
 obtain⟨hbd,hno⟩:=uR_ (g:=allG w g00) (w:=w) hl himm (fun i x v h1 h2=>(hr i x v h1 h2).1) (fun k hk=>by
  simp only[allG,g00]at hk
  split at hk
  .next hk'=>exact(zzm_.1 hk').1
  .simp at hk)
 refine(hpc _ w _ hbd).mono ?_
 rintro e w' ⟨v,r,bs',g',rfl,⟨rfl,rfl⟩,_,hb,hex⟩
 have hrep:=hb.rep (.l (.var 0)) _ v ⟨rfl,by simp[z3_,Frn,Act.tv]⟩
 cases hrep
 exact⟨rfl,hex.os,hex.tape,hex.output,hex.size,fun k hk=>(hex.same k hk (hno k)).1⟩
end
end Go.Proofs.Ytpfjlnmnolbiaaa
namespace Go.Proofs.Ytpfjlnmnolbiaaa
open Go.RowKit Go.Proofs
set_option maxRecDepth 100000 in
theorem pL_{dep:Nat}{el:List V}(h:Shape Try.prog (dep+1) 3 el):∃n:Int,el=[.s (.int .i64 n)]:=by
 unfold Shape at h
 rw[Try.underlying3]at h
 obtain⟨n,_,hn⟩:=h
 exact⟨n,by simpa using hn⟩
set_option maxRecDepth 100000 in
theorem l3_{α:Type}{dep:Nat}{t:TypeId}{f:α->V}(hf:∀el,Shape Try.prog dep t el->∃a,v2_ Try.prog t el=f a):∀(els:List (List V)),(∀el∈els,Shape Try.prog dep t el)->∃m:List α,els.map (v2_ Try.prog t)=m.map f
 |[],_=>⟨[],rfl⟩
 | x :: r, h => by
   obtain⟨m,hm⟩:=l3_ hf r (fun el hel=>h el (by simp[hel]))
   obtain⟨a,ha⟩:=hf x (h x (by simp))
   exact⟨a::m,by rw[List.map_cons,hm,ha];rfl⟩
set_option maxRecDepth 100000 in
theorem nM_{dep:Nat}{el:List V}(h:Shape Try.prog (dep+2) 22 el):∃l:List Int,el=[.list 1 (iv l)]:=by
 unfold Shape at h
 rw[Try.underlying22]at h
 obtain⟨els,hx,_,hb⟩:=h
 have e1:Try.prog.cellsOf 3=1:=by kernel_rfl
 have e2:aggT Try.prog 3=some false:=by kernel_rfl
 rw[e1]at hx
 obtain⟨m,hm⟩:=l3_ (f:=fun n:Int=>V.s (.int .i64 n)) (fun el hel=>by
  obtain⟨n,rfl⟩:=pL_ hel
  exact⟨n,by simp[v2_,e2]⟩) els hb
 rw[hm]at hx
 exact⟨m,hx⟩
set_option maxRecDepth 100000 in
theorem l2_{dep:Nat}{x:V}(h:x4_ Try.prog (dep+1) 3 x):∃n:Int,x=.s (.int .i64 n):=by
 unfold x4_ at h
 rw[Try.underlying3]at h
 simp only at h
 obtain⟨n,hn⟩:=pL_ h
 exact⟨n,by simpa using hn⟩
set_option maxRecDepth 100000 in
theorem k5_{dep:Nat}{x:V}(h:x4_ Try.prog (dep+2) 22 x):∃l:List Int,x=.list 1 (iv l):=by
 unfold x4_ at h
 rw[Try.underlying22]at h
 simp only at h
 obtain⟨l,hl⟩:=nM_ h
 exact⟨l,by simpa using hl⟩
end Go.Proofs.Ytpfjlnmnolbiaaa
