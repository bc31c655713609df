/- Parts of the proof of a law of chapter 30, put behind one another. -/
import Derived.Test.YtnbppaolinopeaaZF
import Derived.Test.YtnbppaolinopeaaZE
import Derived.Test.YtnbppaolinopeaaZD
import Derived.ProofKit
import Derived.ChangeArms
import Derived.WideShapes
import Derived.Below
set_option linter.unusedVariables false
set_option maxHeartbeats 64000000
set_option maxRecDepth 100000
set_option linter.unusedSimpArgs false
namespace Go.Proofs.Ytnbppaolinopeaa
open Go.RowKit Go.Proofs
theorem mk_{l:List Int}{k j:Nat}(hm:k<l.length)(hj:3*j<=k):3*(j+1)<=nat1 l (nat1 l (nat1 l k))\/(nat1 l (nat1 l (nat1 l k))=l.length/\3*(j+1)<=nat1 l (nat1 l (nat1 l k))+2):=by
 have e:∀m,nat1 l m=if m<l.length then m+1 else m:=fun _=>rfl
 have e1:nat1 l k=k+1:=by rw[e,if_pos hm]
 rw[e1]
 by_cases h1:k+1<l.length
 .have e2:nat1 l (k+1)=k+2:=by rw[e,if_pos h1]
  rw[e2]
  by_cases h2:k+2<l.length
  .rw[e,if_pos h2];omega
  .rw[e,if_neg h2];omega
 .have e2:nat1 l (k+1)=k+1:=by rw[e,if_neg h1]
  rw[e2,e2];omega
theorem ni_{g:Gh}{w:World}(hlt:∀k,0<g.I k->k<w.heap.size){l:List Int}{lv:Value}(hlv:Rep g w (.list 1 (iv l)) lv)(hl:l.length<=400){n:Nat}(h1n:1<=n)(h4n:n<=4):Calls Try.prog 8 #[lv,.int .i64 n] w fun e w' =>
 ∃X K j R U M T g' h,e=.returned (.tuple #[.pointer (some ⟨X,0,none⟩),.bool true])/\j<=134/\Pl g w K X n l l.length j R U M T g' h w':=by
 have mx:=zL_
 obtain⟨LA,LC,rfl,hlc1,hlc2,_⟩:=ut_ hlv
 have HLV:=Lib.hid hlv
 have HLT:=Lib.hid hlt
 have hnz:(n:Int)<=4:=by omega
 obtain⟨w0,hw0⟩:∃w0,w0=w.alloc (.cells #[.slice none 0 0,.slice none 0 0,.slice none 0 0] 33):=⟨_,rfl⟩
 obtain⟨X,hX⟩:∃X,X=w.heap.size:=⟨_,rfl⟩
 have hXl:X<w0.heap.size:=by rw[hw0,hX];simp
 have hXb:w0.heap[X]?=some (.cells #[.slice none 0 0,.slice none 0 0,.slice none 0 0] 33 (0,0)):=by rw[hw0,hX];exact heap_alloc_new w _
 have hB0:Below w.heap.size w w0:=by rw[hw0];exact y1_ w _
 have h01:w0.heap.size=w.heap.size+1:=by rw[hw0];simp
 have hmk:Mk w0 X n 0 w0:=by
  refine⟨.slice none 0 0,.slice none 0 0,.slice none 0 0,fun _=>#[],fun _=>0,⟨rfl,rfl,rfl,zzl_ _,fun _ _ _=>rfl,fun r hr=>?_,fun q hq=>by simp[mkL]at hq,fun i j r s k hi hj h1 _=>?_,by simp[mkL],fun r _ q hq=>by simp[mkL]at hq⟩,hXb,fun i hi=>by omega⟩
  .simp[mkO]at hr
   rcases hr with rfl|rfl|rfl<;>exact World.ownsRow_nil ..
  .have:=zzd_ hi
   simp[mkO]at this
   rcases this with rfl|rfl|rfl<;>simp[Value.ownBlock]at h1
 have HMK:=Lib.hid hmk
 have HB:=Lib.hid (And.intro hX (And.intro hB0 h01))
 clear hmk hB0 hXb h01 hlt hlv
 go_enter Try.func8,Try.ntmps8
 go_wp2
 rw[<-hw0,<-hX]
 clear hw0 hX
 go_loopg [7] n (fun kx s7 wr=>∃p:Nat,s7=.int .i64 p/\p+kx=n/\Mk w0 X n p wr)
 case atStart=>exact⟨0,rfl,by omega,HMK.out⟩
 case round =>
  obtain⟨p,rfl,hp,hI⟩:=hrel
  obtain⟨bv,uv,mv,sts,rk,hBs,hXc,hsts⟩:=hI.ex
  have hn9:n<=9:=by omega
  have HP:=Lib.hid hp
  have HBs:=Lib.hid hBs
  have HXc:=Lib.hid hXc
  have HSTS:=Lib.hid hsts
  have HI:=Lib.hid hI
  clear hI hBs hXc hp hsts
  by_cases hm:p<n
  .have hpz:(p:Int)<(n:Int):=by omega
   have hcall:=pt_ (g:=g) (w:=wr) (fun k hk=>zzk_ (HLT.out k hk) (by have:=HBs.out.size;have:=HB.out.2.2;omega)) (n:=n) (i:=p) ⟨h1n,h4n,hm⟩
   have HC:=Lib.hid hcall
   clear hcall
   have hp1:p+1<=1000:=by omega
   have hwp:IntKind.i64.wrap ((p:Int)+1)=(p:Int)+1:=by rw[yye_];omega
   go_wp2_with (first
    | (go_at_call 14
       refine HC.out.mono ?_
       rintro e wx ⟨vs,rfl,hF,hbx⟩
       have HF:=Lib.hid hF
       obtain⟨W,b8,hb8,hst8,hnd⟩:=mj_ HBs.out HXc.out hXl hbx (zs:=zR) rfl hF.sz hF.one
       simp only[zR,<-hb8]at hst8
       have HVS:=Lib.hid hF.sz
       have HONE:=Lib.hid hF.one
       have HST:=Lib.hid hst8
       have HND:=Lib.hid hnd
       have HB8:=Lib.hid hb8
       clear hF hbx hst8 hnd hb8)
    |(refine zr_ rfl rfl 37 _ _ rfl _ _ rfl rfl HST.out ?_))
   all_goals go_wp2
   try rw[HB8.out]
   have h0:=HND.out.drew
   have hSof:∀(Y:World) (O:List Orow) (ks:List (Nat×Obj)),Nd w0 X n p bv uv mv rk O ((b8,.cells vs 37 (0,0))::ks) Y->Y.cell? ⟨X,0,none⟩=some bv/\Y.cell? ⟨X,1,none⟩=some uv/\Y.cell? ⟨X,2,none⟩=some mv/\Hs Y b8 0 vs:=fun Y O ks hY=>⟨hY.s.1,hY.s.2.1,hY.s.2.2,zC_ (hY.loose (.head _))⟩
   have hSo2:∀(Y:World) {O:List Orow} {ks:List (Nat×Obj)},Nd w0 X n p bv uv mv rk O ks Y->(b8,Obj.cells vs 37 (0,0))∈ks->Y.cell? ⟨X,0,none⟩=some bv/\Y.cell? ⟨X,1,none⟩=some uv/\Y.cell? ⟨X,2,none⟩=some mv/\Hs Y b8 0 vs:=fun Y O ks hY hk=>⟨hY.s.1,hY.s.2.1,hY.s.2.2,zC_ (hY.loose hk)⟩
   have HSof:=Lib.hid hSo2
   clear hSof hSo2
   refine zE_ (fun wx=>wx.cell? ⟨X,0,none⟩=some bv/\wx.cell? ⟨X,1,none⟩=some uv/\wx.cell? ⟨X,2,none⟩=some mv/\Hs wx b8 0 vs) 26 mx ?_
   generalize W.drew=V0 at h0 ⊢
   have s0:=HSof.out _ h0 (by simp)
   refine z2_ (i:=0) (v:=?_) rfl (by kernel_rfl) (fun _ _ _ h=>h) (by kernel_rfl) ?_ (fun _=>s0) ?_
   rotate_left
   ·(intro w9;go_simp;first|done|with_reducible rfl)
   try simp only[Act.put,zze_,zzi_,zzj_]
   refine z2_ (i:=1) (v:=?_) rfl (by kernel_rfl) (fun _ _ _ h=>h) (by kernel_rfl) ?_ (fun _=>s0) ?_
   rotate_left
   ·(intro w9;go_simp;first|done|with_reducible rfl)
   try simp only[Act.put,zze_,zzi_,zzj_]
   refine z2_ (i:=2) (v:=?_) rfl (by kernel_rfl) (fun _ _ _ h=>h) (by kernel_rfl) ?_ (fun _=>s0) ?_
   rotate_left
   ·(intro w9;go_simp;first|done|with_reducible rfl)
   try simp only[Act.put,zze_,zzi_,zzj_]
   refine z2_ (i:=3) (v:=?_) rfl (by kernel_rfl) (fun _ _ _ h=>h) (by kernel_rfl) ?_ (fun _=>s0) ?_
   rotate_left
   ·(intro w9;go_simp;first|done|with_reducible rfl)
   try simp only[Act.put,zze_,zzi_,zzj_]
   refine z2_ (i:=4) (v:=?_) rfl (by kernel_rfl) (fun _ _ _ h=>h) (by kernel_rfl) ?_ (fun _=>s0) ?_
   rotate_left
   ·(intro w9;go_simp;first|done|with_reducible rfl)
   try simp only[Act.put,zze_,zzi_,zzj_]
   refine z2_ (i:=5) (v:=?_) rfl (by kernel_rfl) (fun _ _ _ h=>h) (by kernel_rfl) ?_ (fun _=>s0) ?_
   rotate_left
   ·(intro w9;go_simp;first|done|with_reducible rfl)
   try simp only[Act.put,zze_,zzi_,zzj_]
   refine zv_ (i:=6) (v:=?_) rfl (by kernel_rfl) (by kernel_rfl) (fun _ _ _ h=>h) (by kernel_rfl) ?_ (fun _=>s0) ?_
   rotate_left
   ·(intro w9 hSw;(try dsimp only at hSw);obtain⟨S0,S1,S2,S3⟩:=hSw;clear S3;go_simp;first|done|with_reducible rfl)
   try simp only[Act.put,zze_,zzi_,zzj_]
   refine zv_ (i:=7) (v:=.agg vs) rfl (by kernel_rfl) (by kernel_rfl) (fun _ _ _ h=>h) (by kernel_rfl) (fun w9 hSw=>yR_ 37 _ rfl (u:=.pointer (some ⟨b8,0,none⟩)) rfl (sz37.ld HVS.out hSw.2.2.2)) (fun _=>s0) ?_
   try simp only[Act.put,zze_,zzi_,zzj_]
   refine z2_ (i:=10) (v:=?_) rfl (by kernel_rfl) (fun _ _ _ h=>h) (by kernel_rfl) ?_ (fun _=>s0) ?_
   rotate_left
   ·(intro w9;go_simp;first|done|with_reducible rfl)
   try simp only[Act.put,zze_,zzi_,zzj_]
   refine z2_ (i:=11) (v:=?_) rfl (by kernel_rfl) (fun _ _ _ h=>h) (by kernel_rfl) ?_ (fun _=>s0) ?_
   rotate_left
   ·(intro w9;go_simp;first|done|with_reducible rfl)
   try simp only[Act.put,zze_,zzi_,zzj_]
   refine z2_ (i:=12) (v:=?_) rfl (by kernel_rfl) (fun _ _ _ h=>h) (by kernel_rfl) ?_ (fun _=>s0) ?_
   rotate_left
   ·(intro w9;go_simp;first|done|with_reducible rfl)
   try simp only[Act.put,zze_,zzi_,zzj_]
   refine zv_ (i:=13) (v:=?_) rfl (by kernel_rfl) (by kernel_rfl) (fun _ _ _ h=>h) (by kernel_rfl) ?_ (fun _=>s0) ?_
   rotate_left
   ·(intro w9 hSw;(try dsimp only at hSw);obtain⟨S0,S1,S2,S3⟩:=hSw;clear S3;go_simp;first|done|with_reducible rfl)
   try simp only[Act.put,zze_,zzi_,zzj_]
   refine z2_ (i:=16) (v:=?_) rfl (by kernel_rfl) (fun _ _ _ h=>h) (by kernel_rfl) ?_ (fun _=>s0) ?_
   rotate_left
   ·(intro w9;go_simp;first|done|with_reducible rfl)
   try simp only[Act.put,zze_,zzi_,zzj_]
   refine z2_ (i:=17) (v:=?_) rfl (by kernel_rfl) (fun _ _ _ h=>h) (by kernel_rfl) ?_ (fun _=>s0) ?_
   rotate_left
   ·(intro w9;go_simp;first|done|with_reducible rfl)
   try simp only[Act.put,zze_,zzi_,zzj_]
   refine z2_ (i:=18) (v:=?_) rfl (by kernel_rfl) (fun _ _ _ h=>h) (by kernel_rfl) ?_ (fun _=>s0) ?_
   rotate_left
   ·(intro w9;go_simp;first|done|with_reducible rfl)
   try simp only[Act.put,zze_,zzi_,zzj_]
   refine zv_ (i:=19) (v:=?_) rfl (by kernel_rfl) (by kernel_rfl) (fun _ _ _ h=>h) (by kernel_rfl) ?_ (fun _=>s0) ?_
   rotate_left
   ·(intro w9 hSw;(try dsimp only at hSw);obtain⟨S0,S1,S2,S3⟩:=hSw;clear S3;go_simp;first|done|with_reducible rfl)
   try simp only[Act.put,zze_,zzi_,zzj_]
   refine z2_ (i:=20) (v:=?_) rfl (by kernel_rfl) (fun _ _ _ h=>h) (by kernel_rfl) ?_ (fun _=>s0) ?_
   rotate_left
   ·(intro w9;go_simp;first|done|with_reducible rfl)
   try simp only[Act.put,zze_,zzi_,zzj_]
   clear s0
   apply n4_ (C:=fun V kb gb cb ku gu cu kr km gm cm=>Nd w0 X n p bv uv mv rk ((((mkO n bv uv mv p sts rk).set 0 ⟨.slice (some ⟨gb,0,none⟩) (p+1) cb,37,9,p+1,((List.range p).flatMap fun i=>(sts i).toList)++vs.toList⟩).set 1 ⟨.slice (some ⟨gu,0,none⟩) (p+1) cu,4,1,p+1,List.replicate p (.bool true)++[.bool true]⟩).set 2 ⟨.slice (some ⟨gm,0,none⟩) (p+1) cm,66,1,p+1,((List.range p).map fun i=>.slice (some ⟨rk i,0,none⟩) n n)++[.slice (some ⟨kr,0,none⟩) n n]⟩) [(b8,.cells vs 37 (0,0)),(kb,.cells vs 37 (0,0)),(ku,.cells #[.bool true] 4 (0,0)),(kr,.cells (nils n) 58 (0,0)),(km,.cells #[.slice (some ⟨kr,0,none⟩) n n] 66 (0,0))] V)
   .intro H21211
    apply nX_ (C:=fun V kb gb cb ku gu cu kr km=>Nd w0 X n p bv uv mv rk (((mkO n bv uv mv p sts rk).set 0 ⟨.slice (some ⟨gb,0,none⟩) (p+1) cb,37,9,p+1,((List.range p).flatMap fun i=>(sts i).toList)++vs.toList⟩).set 1 ⟨.slice (some ⟨gu,0,none⟩) (p+1) cu,4,1,p+1,List.replicate p (.bool true)++[.bool true]⟩) [(b8,.cells vs 37 (0,0)),(kb,.cells vs 37 (0,0)),(ku,.cells #[.bool true] 4 (0,0)),(kr,.cells (nils n) 58 (0,0)),(km,.cells #[.slice (some ⟨kr,0,none⟩) n n] 66 (0,0))] V)
    .intro H21210
     apply nY_ (C:=fun V kb gb cb ku gu cu kr=>Nd w0 X n p bv uv mv rk (((mkO n bv uv mv p sts rk).set 0 ⟨.slice (some ⟨gb,0,none⟩) (p+1) cb,37,9,p+1,((List.range p).flatMap fun i=>(sts i).toList)++vs.toList⟩).set 1 ⟨.slice (some ⟨gu,0,none⟩) (p+1) cu,4,1,p+1,List.replicate p (.bool true)++[.bool true]⟩) [(b8,.cells vs 37 (0,0)),(kb,.cells vs 37 (0,0)),(ku,.cells #[.bool true] 4 (0,0)),(kr,.cells (nils n) 58 (0,0))] V)
     .intro H21110
      apply oC_ (C:=fun V kb gb cb ku gu cu=>Nd w0 X n p bv uv mv rk (((mkO n bv uv mv p sts rk).set 0 ⟨.slice (some ⟨gb,0,none⟩) (p+1) cb,37,9,p+1,((List.range p).flatMap fun i=>(sts i).toList)++vs.toList⟩).set 1 ⟨.slice (some ⟨gu,0,none⟩) (p+1) cu,4,1,p+1,List.replicate p (.bool true)++[.bool true]⟩) [(b8,.cells vs 37 (0,0)),(kb,.cells vs 37 (0,0)),(ku,.cells #[.bool true] 4 (0,0))] V)
      .intro H21010
       apply oC_ (C:=fun V kb gb cb ku kr km=>Nd w0 X n p bv uv mv rk ((mkO n bv uv mv p sts rk).set 0 ⟨.slice (some ⟨gb,0,none⟩) (p+1) cb,37,9,p+1,((List.range p).flatMap fun i=>(sts i).toList)++vs.toList⟩) [(b8,.cells vs 37 (0,0)),(kb,.cells vs 37 (0,0)),(ku,.cells #[.bool true] 4 (0,0)),(kr,.cells (nils n) 58 (0,0)),(km,.cells #[.slice (some ⟨kr,0,none⟩) n n] 66 (0,0))] V)
       .intro H21200
        apply oD_ (C:=fun V kb gb cb ku kr=>Nd w0 X n p bv uv mv rk ((mkO n bv uv mv p sts rk).set 0 ⟨.slice (some ⟨gb,0,none⟩) (p+1) cb,37,9,p+1,((List.range p).flatMap fun i=>(sts i).toList)++vs.toList⟩) [(b8,.cells vs 37 (0,0)),(kb,.cells vs 37 (0,0)),(ku,.cells #[.bool true] 4 (0,0)),(kr,.cells (nils n) 58 (0,0))] V)
        .intro H21100
         apply q9_ (C:=fun V kb gb cb ku=>Nd w0 X n p bv uv mv rk ((mkO n bv uv mv p sts rk).set 0 ⟨.slice (some ⟨gb,0,none⟩) (p+1) cb,37,9,p+1,((List.range p).flatMap fun i=>(sts i).toList)++vs.toList⟩) [(b8,.cells vs 37 (0,0)),(kb,.cells vs 37 (0,0)),(ku,.cells #[.bool true] 4 (0,0))] V)
         .intro H21000
          apply oD_ (C:=fun V kb gb cb kr km=>Nd w0 X n p bv uv mv rk ((mkO n bv uv mv p sts rk).set 0 ⟨.slice (some ⟨gb,0,none⟩) (p+1) cb,37,9,p+1,((List.range p).flatMap fun i=>(sts i).toList)++vs.toList⟩) [(b8,.cells vs 37 (0,0)),(kb,.cells vs 37 (0,0)),(kr,.cells (nils n) 58 (0,0)),(km,.cells #[.slice (some ⟨kr,0,none⟩) n n] 66 (0,0))] V)
          .intro H20200
           apply q9_ (C:=fun V kb gb cb kr=>Nd w0 X n p bv uv mv rk ((mkO n bv uv mv p sts rk).set 0 ⟨.slice (some ⟨gb,0,none⟩) (p+1) cb,37,9,p+1,((List.range p).flatMap fun i=>(sts i).toList)++vs.toList⟩) [(b8,.cells vs 37 (0,0)),(kb,.cells vs 37 (0,0)),(kr,.cells (nils n) 58 (0,0))] V)
           .intro H20100
            apply sz_ (C:=fun V kb gb cb=>Nd w0 X n p bv uv mv rk ((mkO n bv uv mv p sts rk).set 0 ⟨.slice (some ⟨gb,0,none⟩) (p+1) cb,37,9,p+1,((List.range p).flatMap fun i=>(sts i).toList)++vs.toList⟩) [(b8,.cells vs 37 (0,0)),(kb,.cells vs 37 (0,0))] V)
            .intro H20000
             apply q9_ (C:=fun V kb ku kr km=>Nd w0 X n p bv uv mv rk (mkO n bv uv mv p sts rk) [(b8,.cells vs 37 (0,0)),(kb,.cells vs 37 (0,0)),(ku,.cells #[.bool true] 4 (0,0)),(kr,.cells (nils n) 58 (0,0)),(km,.cells #[.slice (some ⟨kr,0,none⟩) n n] 66 (0,0))] V)
             .intro H11200
              apply sz_ (C:=fun V kb ku kr=>Nd w0 X n p bv uv mv rk (mkO n bv uv mv p sts rk) [(b8,.cells vs 37 (0,0)),(kb,.cells vs 37 (0,0)),(ku,.cells #[.bool true] 4 (0,0)),(kr,.cells (nils n) 58 (0,0))] V)
              .intro H11100
               apply sA_ (C:=fun V kb ku=>Nd w0 X n p bv uv mv rk (mkO n bv uv mv p sts rk) [(b8,.cells vs 37 (0,0)),(kb,.cells vs 37 (0,0)),(ku,.cells #[.bool true] 4 (0,0))] V)
               .intro H11000
                apply sz_ (C:=fun V kb kr km=>Nd w0 X n p bv uv mv rk (mkO n bv uv mv p sts rk) [(b8,.cells vs 37 (0,0)),(kb,.cells vs 37 (0,0)),(kr,.cells (nils n) 58 (0,0)),(km,.cells #[.slice (some ⟨kr,0,none⟩) n n] 66 (0,0))] V)
                .intro H10200
                 apply sA_ (C:=fun V kb kr=>Nd w0 X n p bv uv mv rk (mkO n bv uv mv p sts rk) [(b8,.cells vs 37 (0,0)),(kb,.cells vs 37 (0,0)),(kr,.cells (nils n) 58 (0,0))] V)
                 .intro H10100
                  apply qa_ (C:=fun V kb=>Nd w0 X n p bv uv mv rk (mkO n bv uv mv p sts rk) [(b8,.cells vs 37 (0,0)),(kb,.cells vs 37 (0,0))] V)
                  .intro H10000
                   apply sz_ (C:=fun V ku kr km=>Nd w0 X n p bv uv mv rk (mkO n bv uv mv p sts rk) [(b8,.cells vs 37 (0,0)),(ku,.cells #[.bool true] 4 (0,0)),(kr,.cells (nils n) 58 (0,0)),(km,.cells #[.slice (some ⟨kr,0,none⟩) n n] 66 (0,0))] V)
                   .intro H01200
                    apply sA_ (C:=fun V ku kr=>Nd w0 X n p bv uv mv rk (mkO n bv uv mv p sts rk) [(b8,.cells vs 37 (0,0)),(ku,.cells #[.bool true] 4 (0,0)),(kr,.cells (nils n) 58 (0,0))] V)
                    .intro H01100
                     apply qa_ (C:=fun V ku=>Nd w0 X n p bv uv mv rk (mkO n bv uv mv p sts rk) [(b8,.cells vs 37 (0,0)),(ku,.cells #[.bool true] 4 (0,0))] V)
                     .intro H01000
                      apply sA_ (C:=fun V kr km=>Nd w0 X n p bv uv mv rk (mkO n bv uv mv p sts rk) [(b8,.cells vs 37 (0,0)),(kr,.cells (nils n) 58 (0,0)),(km,.cells #[.slice (some ⟨kr,0,none⟩) n n] 66 (0,0))] V)
                      .intro H00200
                       apply qa_ (C:=fun V kr=>Nd w0 X n p bv uv mv rk (mkO n bv uv mv p sts rk) [(b8,.cells vs 37 (0,0)),(kr,.cells (nils n) 58 (0,0))] V)
                       .intro H00100
                        have h:=h0
                        refine y8_ (rs:=[8,14,21]) (by decide +kernel) ?_
                        refine z5_ rfl (fun K hK=>?_) ?_
                        .refine zm_ rfl (zH_ 29 _ rfl (u:=.agg vs) rfl (xO_ _ HVS.out)) ?_
                         obtain⟨V',kb,e,e1,h'⟩:=h.alloc hXl vs 37
                         rw[e,e1]
                         clear e e1
                         have s1:=HSof.out _ h' (by simp)
                         refine hK.out _ _ (fun _=>s1) ?_
                         try simp only[Act.put,zze_,zzi_,zzj_]
                         exact H10000 V' kb (h'.perm (by simp))
                        refine z5_ rfl (fun K hK=>?_) ?_
                        .refine zm_ rfl (zH_ 30 _ rfl (u:=.bool true) rfl (xj_ _)) ?_
                         obtain⟨V',ku,e,e1,h'⟩:=h.alloc hXl #[.bool true] 4
                         rw[e,e1]
                         clear e e1
                         have s1:=HSof.out _ h' (by simp)
                         refine hK.out _ _ (fun _=>s1) ?_
                         try simp only[Act.put,zze_,zzi_,zzj_]
                         exact H01000 V' ku (h'.perm (by simp))
                        refine z5_ rfl (fun K hK=>?_) ?_
                        .refine zm_ rfl (by go_simp;rw[xh_ hn9];rfl) ?_
                         obtain⟨V',kr,e,e1,h'⟩:=h.alloc hXl (nils n) 58
                         rw[e,e1]
                         clear e e1
                         have s1:=HSof.out _ h' (by simp)
                         refine hK.out _ _ (fun _=>s1) ?_
                         try simp only[Act.put,zze_,zzi_,zzj_]
                         exact H00100 V' kr (h'.perm (by simp))
                        exact AllG.nil
                       .intro V kr h
                        refine y8_ (rs:=[8,14,22]) (by decide +kernel) ?_
                        refine z5_ rfl (fun K hK=>?_) ?_
                        .refine zm_ rfl (zH_ 29 _ rfl (u:=.agg vs) rfl (xO_ _ HVS.out)) ?_
                         obtain⟨V',kb,e,e1,h'⟩:=h.alloc hXl vs 37
                         rw[e,e1]
                         clear e e1
                         have s1:=HSof.out _ h' (by simp)
                         refine hK.out _ _ (fun _=>s1) ?_
                         try simp only[Act.put,zze_,zzi_,zzj_]
                         exact H10100 V' kb kr (h'.perm (by simp))
                        refine z5_ rfl (fun K hK=>?_) ?_
                        .refine zm_ rfl (zH_ 30 _ rfl (u:=.bool true) rfl (xj_ _)) ?_
                         obtain⟨V',ku,e,e1,h'⟩:=h.alloc hXl #[.bool true] 4
                         rw[e,e1]
                         clear e e1
                         have s1:=HSof.out _ h' (by simp)
                         refine hK.out _ _ (fun _=>s1) ?_
                         try simp only[Act.put,zze_,zzi_,zzj_]
                         exact H01100 V' ku kr (h'.perm (by simp))
                        refine z5_ rfl (fun K hK=>?_) ?_
                        .refine zm_ rfl (zH_ 31 _ rfl (u:=.slice (some ⟨kr,0,none⟩) n n) rfl (xi_ _ kr n)) ?_
                         obtain⟨V',km,e,e1,h'⟩:=h.alloc hXl #[.slice (some ⟨kr,0,none⟩) n n] 66
                         rw[e,e1]
                         clear e e1
                         have s1:=HSof.out _ h' (by simp)
                         refine hK.out _ _ (fun _=>s1) ?_
                         try simp only[Act.put,zze_,zzi_,zzj_]
                         exact H00200 V' kr km (h'.perm (by simp))
                        exact AllG.nil
                      .intro V kr km h
                       refine y8_ (rs:=[8,14]) (by decide +kernel) ?_
                       refine z5_ rfl (fun K hK=>?_) ?_
                       .refine zm_ rfl (zH_ 29 _ rfl (u:=.agg vs) rfl (xO_ _ HVS.out)) ?_
                        obtain⟨V',kb,e,e1,h'⟩:=h.alloc hXl vs 37
                        rw[e,e1]
                        clear e e1
                        have s1:=HSof.out _ h' (by simp)
                        refine hK.out _ _ (fun _=>s1) ?_
                        try simp only[Act.put,zze_,zzi_,zzj_]
                        exact H10200 V' kb kr km (h'.perm (by simp))
                       refine z5_ rfl (fun K hK=>?_) ?_
                       .refine zm_ rfl (zH_ 30 _ rfl (u:=.bool true) rfl (xj_ _)) ?_
                        obtain⟨V',ku,e,e1,h'⟩:=h.alloc hXl #[.bool true] 4
                        rw[e,e1]
                        clear e e1
                        have s1:=HSof.out _ h' (by simp)
                        refine hK.out _ _ (fun _=>s1) ?_
                        try simp only[Act.put,zze_,zzi_,zzj_]
                        exact H01200 V' ku kr km (h'.perm (by simp))
                       exact AllG.nil
                     .intro V ku h
                      refine y8_ (rs:=[8,21]) (by decide +kernel) ?_
                      refine z5_ rfl (fun K hK=>?_) ?_
                      .refine zm_ rfl (zH_ 29 _ rfl (u:=.agg vs) rfl (xO_ _ HVS.out)) ?_
                       obtain⟨V',kb,e,e1,h'⟩:=h.alloc hXl vs 37
                       rw[e,e1]
                       clear e e1
                       have s1:=HSof.out _ h' (by simp)
                       refine hK.out _ _ (fun _=>s1) ?_
                       try simp only[Act.put,zze_,zzi_,zzj_]
                       exact H11000 V' kb ku (h'.perm (by simp))
                      refine z5_ rfl (fun K hK=>?_) ?_
                      .refine zm_ rfl (by go_simp;rw[xh_ hn9];rfl) ?_
                       obtain⟨V',kr,e,e1,h'⟩:=h.alloc hXl (nils n) 58
                       rw[e,e1]
                       clear e e1
                       have s1:=HSof.out _ h' (by simp)
                       refine hK.out _ _ (fun _=>s1) ?_
                       try simp only[Act.put,zze_,zzi_,zzj_]
                       exact H01100 V' ku kr (h'.perm (by simp))
                      exact AllG.nil
                    .intro V ku kr h
                     refine y8_ (rs:=[8,22]) (by decide +kernel) ?_
                     refine z5_ rfl (fun K hK=>?_) ?_
                     .refine zm_ rfl (zH_ 29 _ rfl (u:=.agg vs) rfl (xO_ _ HVS.out)) ?_
                      obtain⟨V',kb,e,e1,h'⟩:=h.alloc hXl vs 37
                      rw[e,e1]
                      clear e e1
                      have s1:=HSof.out _ h' (by simp)
                      refine hK.out _ _ (fun _=>s1) ?_
                      try simp only[Act.put,zze_,zzi_,zzj_]
                      exact H11100 V' kb ku kr (h'.perm (by simp))
                     refine z5_ rfl (fun K hK=>?_) ?_
                     .refine zm_ rfl (zH_ 31 _ rfl (u:=.slice (some ⟨kr,0,none⟩) n n) rfl (xi_ _ kr n)) ?_
                      obtain⟨V',km,e,e1,h'⟩:=h.alloc hXl #[.slice (some ⟨kr,0,none⟩) n n] 66
                      rw[e,e1]
                      clear e e1
                      have s1:=HSof.out _ h' (by simp)
                      refine hK.out _ _ (fun _=>s1) ?_
                      try simp only[Act.put,zze_,zzi_,zzj_]
                      exact H01200 V' ku kr km (h'.perm (by simp))
                     exact AllG.nil
                   .intro V ku kr km h
                    refine y8_ (rs:=[8]) (by decide +kernel) ?_
                    refine z5_ rfl (fun K hK=>?_) ?_
                    .refine zm_ rfl (zH_ 29 _ rfl (u:=.agg vs) rfl (xO_ _ HVS.out)) ?_
                     obtain⟨V',kb,e,e1,h'⟩:=h.alloc hXl vs 37
                     rw[e,e1]
                     clear e e1
                     have s1:=HSof.out _ h' (by simp)
                     refine hK.out _ _ (fun _=>s1) ?_
                     try simp only[Act.put,zze_,zzi_,zzj_]
                     exact H11200 V' kb ku kr km (h'.perm (by simp))
                    exact AllG.nil
                  .intro V kb h
                   refine y8_ (rs:=[9,14,21]) (by decide +kernel) ?_
                   refine z5_ rfl (fun K hK=>?_) ?_
                   .obtain⟨gb,cb,V',e,h'⟩:=h.ap37 hXl rfl (k:=kb) (by simp) HVS.out HONE.out hp1
                    refine zz_ rfl _ _ 29 29 rfl _ _ rfl rfl (e _) ?_
                    clear e
                    have s1:=HSof.out _ h' (by simp)
                    refine hK.out _ _ (fun _=>s1) ?_
                    try simp only[Act.put,zze_,zzi_,zzj_]
                    exact H20000 V' kb gb cb (h'.perm (by simp))
                   refine z5_ rfl (fun K hK=>?_) ?_
                   .refine zm_ rfl (zH_ 30 _ rfl (u:=.bool true) rfl (xj_ _)) ?_
                    obtain⟨V',ku,e,e1,h'⟩:=h.alloc hXl #[.bool true] 4
                    rw[e,e1]
                    clear e e1
                    have s1:=HSof.out _ h' (by simp)
                    refine hK.out _ _ (fun _=>s1) ?_
                    try simp only[Act.put,zze_,zzi_,zzj_]
                    exact H11000 V' kb ku (h'.perm (by simp))
                   refine z5_ rfl (fun K hK=>?_) ?_
                   .refine zm_ rfl (by go_simp;rw[xh_ hn9];rfl) ?_
                    obtain⟨V',kr,e,e1,h'⟩:=h.alloc hXl (nils n) 58
                    rw[e,e1]
                    clear e e1
                    have s1:=HSof.out _ h' (by simp)
                    refine hK.out _ _ (fun _=>s1) ?_
                    try simp only[Act.put,zze_,zzi_,zzj_]
                    exact H10100 V' kb kr (h'.perm (by simp))
                   exact AllG.nil
                 .intro V kb kr h
                  refine y8_ (rs:=[9,14,22]) (by decide +kernel) ?_
                  refine z5_ rfl (fun K hK=>?_) ?_
                  .obtain⟨gb,cb,V',e,h'⟩:=h.ap37 hXl rfl (k:=kb) (by simp) HVS.out HONE.out hp1
                   refine zz_ rfl _ _ 29 29 rfl _ _ rfl rfl (e _) ?_
                   clear e
                   have s1:=HSof.out _ h' (by simp)
                   refine hK.out _ _ (fun _=>s1) ?_
                   try simp only[Act.put,zze_,zzi_,zzj_]
                   exact H20100 V' kb gb cb kr (h'.perm (by simp))
                  refine z5_ rfl (fun K hK=>?_) ?_
                  .refine zm_ rfl (zH_ 30 _ rfl (u:=.bool true) rfl (xj_ _)) ?_
                   obtain⟨V',ku,e,e1,h'⟩:=h.alloc hXl #[.bool true] 4
                   rw[e,e1]
                   clear e e1
                   have s1:=HSof.out _ h' (by simp)
                   refine hK.out _ _ (fun _=>s1) ?_
                   try simp only[Act.put,zze_,zzi_,zzj_]
                   exact H11100 V' kb ku kr (h'.perm (by simp))
                  refine z5_ rfl (fun K hK=>?_) ?_
                  .refine zm_ rfl (zH_ 31 _ rfl (u:=.slice (some ⟨kr,0,none⟩) n n) rfl (xi_ _ kr n)) ?_
                   obtain⟨V',km,e,e1,h'⟩:=h.alloc hXl #[.slice (some ⟨kr,0,none⟩) n n] 66
                   rw[e,e1]
                   clear e e1
                   have s1:=HSof.out _ h' (by simp)
                   refine hK.out _ _ (fun _=>s1) ?_
                   try simp only[Act.put,zze_,zzi_,zzj_]
                   exact H10200 V' kb kr km (h'.perm (by simp))
                  exact AllG.nil
                .intro V kb kr km h
                 refine y8_ (rs:=[9,14]) (by decide +kernel) ?_
                 refine z5_ rfl (fun K hK=>?_) ?_
                 .obtain⟨gb,cb,V',e,h'⟩:=h.ap37 hXl rfl (k:=kb) (by simp) HVS.out HONE.out hp1
                  refine zz_ rfl _ _ 29 29 rfl _ _ rfl rfl (e _) ?_
                  clear e
                  have s1:=HSof.out _ h' (by simp)
                  refine hK.out _ _ (fun _=>s1) ?_
                  try simp only[Act.put,zze_,zzi_,zzj_]
                  exact H20200 V' kb gb cb kr km (h'.perm (by simp))
                 refine z5_ rfl (fun K hK=>?_) ?_
                 .refine zm_ rfl (zH_ 30 _ rfl (u:=.bool true) rfl (xj_ _)) ?_
                  obtain⟨V',ku,e,e1,h'⟩:=h.alloc hXl #[.bool true] 4
                  rw[e,e1]
                  clear e e1
                  have s1:=HSof.out _ h' (by simp)
                  refine hK.out _ _ (fun _=>s1) ?_
                  try simp only[Act.put,zze_,zzi_,zzj_]
                  exact H11200 V' kb ku kr km (h'.perm (by simp))
                 exact AllG.nil
               .intro V kb ku h
                refine y8_ (rs:=[9,21]) (by decide +kernel) ?_
                refine z5_ rfl (fun K hK=>?_) ?_
                .obtain⟨gb,cb,V',e,h'⟩:=h.ap37 hXl rfl (k:=kb) (by simp) HVS.out HONE.out hp1
                 refine zz_ rfl _ _ 29 29 rfl _ _ rfl rfl (e _) ?_
                 clear e
                 have s1:=HSof.out _ h' (by simp)
                 refine hK.out _ _ (fun _=>s1) ?_
                 try simp only[Act.put,zze_,zzi_,zzj_]
                 exact H21000 V' kb gb cb ku (h'.perm (by simp))
                refine z5_ rfl (fun K hK=>?_) ?_
                .refine zm_ rfl (by go_simp;rw[xh_ hn9];rfl) ?_
                 obtain⟨V',kr,e,e1,h'⟩:=h.alloc hXl (nils n) 58
                 rw[e,e1]
                 clear e e1
                 have s1:=HSof.out _ h' (by simp)
                 refine hK.out _ _ (fun _=>s1) ?_
                 try simp only[Act.put,zze_,zzi_,zzj_]
                 exact H11100 V' kb ku kr (h'.perm (by simp))
                exact AllG.nil
              .intro V kb ku kr h
               refine y8_ (rs:=[9,22]) (by decide +kernel) ?_
               refine z5_ rfl (fun K hK=>?_) ?_
               .obtain⟨gb,cb,V',e,h'⟩:=h.ap37 hXl rfl (k:=kb) (by simp) HVS.out HONE.out hp1
                refine zz_ rfl _ _ 29 29 rfl _ _ rfl rfl (e _) ?_
                clear e
                have s1:=HSof.out _ h' (by simp)
                refine hK.out _ _ (fun _=>s1) ?_
                try simp only[Act.put,zze_,zzi_,zzj_]
                exact H21100 V' kb gb cb ku kr (h'.perm (by simp))
               refine z5_ rfl (fun K hK=>?_) ?_
               .refine zm_ rfl (zH_ 31 _ rfl (u:=.slice (some ⟨kr,0,none⟩) n n) rfl (xi_ _ kr n)) ?_
                obtain⟨V',km,e,e1,h'⟩:=h.alloc hXl #[.slice (some ⟨kr,0,none⟩) n n] 66
                rw[e,e1]
                clear e e1
                have s1:=HSof.out _ h' (by simp)
                refine hK.out _ _ (fun _=>s1) ?_
                try simp only[Act.put,zze_,zzi_,zzj_]
                exact H11200 V' kb ku kr km (h'.perm (by simp))
               exact AllG.nil
             .intro V kb ku kr km h
              refine y8_ (rs:=[9]) (by decide +kernel) ?_
              refine z5_ rfl (fun K hK=>?_) ?_
              .obtain⟨gb,cb,V',e,h'⟩:=h.ap37 hXl rfl (k:=kb) (by simp) HVS.out HONE.out hp1
               refine zz_ rfl _ _ 29 29 rfl _ _ rfl rfl (e _) ?_
               clear e
               have s1:=HSof.out _ h' (by simp)
               refine hK.out _ _ (fun _=>s1) ?_
               try simp only[Act.put,zze_,zzi_,zzj_]
               exact H21200 V' kb gb cb ku kr km (h'.perm (by simp))
              exact AllG.nil
            .intro V kb gb cb h
             refine y8_ (rs:=[14,21]) (by decide +kernel) ?_
             refine z5_ rfl (fun K hK=>?_) ?_
             .refine zm_ rfl (zH_ 30 _ rfl (u:=.bool true) rfl (xj_ _)) ?_
              obtain⟨V',ku,e,e1,h'⟩:=h.alloc hXl #[.bool true] 4
              rw[e,e1]
              clear e e1
              have s1:=HSof.out _ h' (by simp)
              refine hK.out _ _ (fun _=>s1) ?_
              try simp only[Act.put,zze_,zzi_,zzj_]
              exact H21000 V' kb gb cb ku (h'.perm (by simp))
             refine z5_ rfl (fun K hK=>?_) ?_
             .refine zm_ rfl (by go_simp;rw[xh_ hn9];rfl) ?_
              obtain⟨V',kr,e,e1,h'⟩:=h.alloc hXl (nils n) 58
              rw[e,e1]
              clear e e1
              have s1:=HSof.out _ h' (by simp)
              refine hK.out _ _ (fun _=>s1) ?_
              try simp only[Act.put,zze_,zzi_,zzj_]
              exact H20100 V' kb gb cb kr (h'.perm (by simp))
             exact AllG.nil
           .intro V kb gb cb kr h
            refine y8_ (rs:=[14,22]) (by decide +kernel) ?_
            refine z5_ rfl (fun K hK=>?_) ?_
            .refine zm_ rfl (zH_ 30 _ rfl (u:=.bool true) rfl (xj_ _)) ?_
             obtain⟨V',ku,e,e1,h'⟩:=h.alloc hXl #[.bool true] 4
             rw[e,e1]
             clear e e1
             have s1:=HSof.out _ h' (by simp)
             refine hK.out _ _ (fun _=>s1) ?_
             try simp only[Act.put,zze_,zzi_,zzj_]
             exact H21100 V' kb gb cb ku kr (h'.perm (by simp))
            refine z5_ rfl (fun K hK=>?_) ?_
            .refine zm_ rfl (zH_ 31 _ rfl (u:=.slice (some ⟨kr,0,none⟩) n n) rfl (xi_ _ kr n)) ?_
             obtain⟨V',km,e,e1,h'⟩:=h.alloc hXl #[.slice (some ⟨kr,0,none⟩) n n] 66
             rw[e,e1]
             clear e e1
             have s1:=HSof.out _ h' (by simp)
             refine hK.out _ _ (fun _=>s1) ?_
             try simp only[Act.put,zze_,zzi_,zzj_]
             exact H20200 V' kb gb cb kr km (h'.perm (by simp))
            exact AllG.nil
          .intro V kb gb cb kr km h
           refine y8_ (rs:=[14]) (by decide +kernel) ?_
           refine z5_ rfl (fun K hK=>?_) ?_
           .refine zm_ rfl (zH_ 30 _ rfl (u:=.bool true) rfl (xj_ _)) ?_
            obtain⟨V',ku,e,e1,h'⟩:=h.alloc hXl #[.bool true] 4
            rw[e,e1]
            clear e e1
            have s1:=HSof.out _ h' (by simp)
            refine hK.out _ _ (fun _=>s1) ?_
            try simp only[Act.put,zze_,zzi_,zzj_]
            exact H21200 V' kb gb cb ku kr km (h'.perm (by simp))
           exact AllG.nil
         .intro V kb gb cb ku h
          refine y8_ (rs:=[15,21]) (by decide +kernel) ?_
          refine z5_ rfl (fun K hK=>?_) ?_
          .obtain⟨gu,cu,V',e,h'⟩:=h.ap4 hXl rfl (k:=ku) (by simp) hp1
           refine zz_ rfl _ _ 30 30 rfl _ _ rfl rfl (e _) ?_
           clear e
           have s1:=HSof.out _ h' (by simp)
           refine hK.out _ _ (fun _=>s1) ?_
           try simp only[Act.put,zze_,zzi_,zzj_]
           exact H21010 V' kb gb cb ku gu cu (h'.perm (by simp))
          refine z5_ rfl (fun K hK=>?_) ?_
          .refine zm_ rfl (by go_simp;rw[xh_ hn9];rfl) ?_
           obtain⟨V',kr,e,e1,h'⟩:=h.alloc hXl (nils n) 58
           rw[e,e1]
           clear e e1
           have s1:=HSof.out _ h' (by simp)
           refine hK.out _ _ (fun _=>s1) ?_
           try simp only[Act.put,zze_,zzi_,zzj_]
           exact H21100 V' kb gb cb ku kr (h'.perm (by simp))
          exact AllG.nil
        .intro V kb gb cb ku kr h
         refine y8_ (rs:=[15,22]) (by decide +kernel) ?_
         refine z5_ rfl (fun K hK=>?_) ?_
         .obtain⟨gu,cu,V',e,h'⟩:=h.ap4 hXl rfl (k:=ku) (by simp) hp1
          refine zz_ rfl _ _ 30 30 rfl _ _ rfl rfl (e _) ?_
          clear e
          have s1:=HSof.out _ h' (by simp)
          refine hK.out _ _ (fun _=>s1) ?_
          try simp only[Act.put,zze_,zzi_,zzj_]
          exact H21110 V' kb gb cb ku gu cu kr (h'.perm (by simp))
         refine z5_ rfl (fun K hK=>?_) ?_
         .refine zm_ rfl (zH_ 31 _ rfl (u:=.slice (some ⟨kr,0,none⟩) n n) rfl (xi_ _ kr n)) ?_
          obtain⟨V',km,e,e1,h'⟩:=h.alloc hXl #[.slice (some ⟨kr,0,none⟩) n n] 66
          rw[e,e1]
          clear e e1
          have s1:=HSof.out _ h' (by simp)
          refine hK.out _ _ (fun _=>s1) ?_
          try simp only[Act.put,zze_,zzi_,zzj_]
          exact H21200 V' kb gb cb ku kr km (h'.perm (by simp))
         exact AllG.nil
       .intro V kb gb cb ku kr km h
        refine y8_ (rs:=[15]) (by decide +kernel) ?_
        refine z5_ rfl (fun K hK=>?_) ?_
        .obtain⟨gu,cu,V',e,h'⟩:=h.ap4 hXl rfl (k:=ku) (by simp) hp1
         refine zz_ rfl _ _ 30 30 rfl _ _ rfl rfl (e _) ?_
         clear e
         have s1:=HSof.out _ h' (by simp)
         refine hK.out _ _ (fun _=>s1) ?_
         try simp only[Act.put,zze_,zzi_,zzj_]
         exact H21210 V' kb gb cb ku gu cu kr km (h'.perm (by simp))
        exact AllG.nil
      .intro V kb gb cb ku gu cu h
       refine y8_ (rs:=[21]) (by decide +kernel) ?_
       refine z5_ rfl (fun K hK=>?_) ?_
       .refine zm_ rfl (by go_simp;rw[xh_ hn9];rfl) ?_
        obtain⟨V',kr,e,e1,h'⟩:=h.alloc hXl (nils n) 58
        rw[e,e1]
        clear e e1
        have s1:=HSof.out _ h' (by simp)
        refine hK.out _ _ (fun _=>s1) ?_
        try simp only[Act.put,zze_,zzi_,zzj_]
        exact H21110 V' kb gb cb ku gu cu kr (h'.perm (by simp))
       exact AllG.nil
     .intro V kb gb cb ku gu cu kr h
      refine y8_ (rs:=[22]) (by decide +kernel) ?_
      refine z5_ rfl (fun K hK=>?_) ?_
      .refine zm_ rfl (zH_ 31 _ rfl (u:=.slice (some ⟨kr,0,none⟩) n n) rfl (xi_ _ kr n)) ?_
       obtain⟨V',km,e,e1,h'⟩:=h.alloc hXl #[.slice (some ⟨kr,0,none⟩) n n] 66
       rw[e,e1]
       clear e e1
       have s1:=HSof.out _ h' (by simp)
       refine hK.out _ _ (fun _=>s1) ?_
       try simp only[Act.put,zze_,zzi_,zzj_]
       exact H21210 V' kb gb cb ku gu cu kr km (h'.perm (by simp))
      exact AllG.nil
    .intro V kb gb cb ku gu cu kr km h
     refine y8_ (rs:=[23]) (by decide +kernel) ?_
     refine z5_ rfl (fun K hK=>?_) ?_
     .obtain⟨gm,cm,V',e,h'⟩:=h.ap66 hXl rfl (k:=km) (kr:=kr) (by simp) hp1
      refine zz_ rfl _ _ 31 31 rfl _ _ rfl rfl (e _) ?_
      clear e
      have s1:=HSof.out _ h' (by simp)
      refine hK.out _ _ (fun _=>s1) ?_
      try simp only[Act.put,zze_,zzi_,zzj_]
      exact H21211 V' kb gb cb ku gu cu kr km gm cm (h'.perm (by simp))
     exact AllG.nil
   .intro V kb gb cb ku gu cu kr km gm cm h
    have s0:=HSof.out _ h (by simp)
    refine z2_ (i:=24) (v:=?_) rfl (by kernel_rfl) (fun _ _ _ h=>h) (by kernel_rfl) ?_ (fun _=>s0) ?_
    rotate_left
    ·(intro w9;go_simp;first|done|with_reducible rfl)
    try simp only[Act.put,zze_,zzi_,zzj_]
    refine z2_ (i:=25) (v:=?_) rfl (by kernel_rfl) (fun _ _ _ h=>h) (by kernel_rfl) ?_ (fun _=>s0) ?_
    rotate_left
    ·(intro w9;go_simp;first|done|with_reducible rfl)
    try simp only[Act.put,zze_,zzi_,zzj_]
    refine y5_ (by kernel_rfl) (by kernel_rfl) (by decide) ?_
    simp only[List.drop_succ_cons,List.drop_zero]
    obtain⟨V7,V8,V9,⟨q2,f2⟩,e7,⟨q3,f3⟩,e8,⟨q4,f4⟩,e9,hm9⟩:=h.st hXl rfl (by simp) HSTS.out HF.out
    have HM1:=Lib.hid hm9
    clear h s0 hm9
    go_wp2
    go_roundg (gk-1)
    case measure=>have:=HP.out;omega
    case rel=>exact⟨p+1,rfl,by have:=HP.out;omega,HM1.out⟩
  .have hpz:¬(p:Int)<(n:Int):=by omega
   have hpe:p=n:=by have:=HP.out;omega
   subst hpe
   obtain⟨T,hd,hnet,hT0,hbel⟩:=mm_ (g1:=g) (w1:=w) HI.out h1n h4n HB.out.1 HB.out.2.1 HB.out.2.2 HLT.out
   obtain⟨W,hW⟩:∃W,wr.alloc (.cells #[.slice LA l.length LC,.int .i64 0] 69)=W:=⟨_,rfl⟩
   have hbW:Below wr.heap.size wr W:=by rw[<-hW];exact y1_ wr _
   have hKb:W.heap[wr.heap.size]?=some (.cells #[.slice LA l.length LC,.int .i64 0] 69 (0,0)):=by rw[<-hW];exact heap_alloc_new wr _
   have hWs:W.heap.size=wr.heap.size+1:=by rw[<-hW];simp
   obtain⟨K,hK⟩:∃K,wr.heap.size=K:=⟨_,rfl⟩
   rw[hK]at hKb hWs
   have hnW:=hnet.below hbW
   have hKT:T K=0:=by
    by_cases h0:T K=0
    .exact h0
    .have:=(hnet.tz K h0).1;omega
   have hIk:∀b o,o<g.I b->o<g.I b/\W.cell? ⟨b,o,none⟩=w.cell? ⟨b,o,none⟩:=fun b o ho=>by
    have hb:=HLT.out b (by omega)
    refine⟨ho,yyb_ (a:=⟨b,o,none⟩) ((hbW.block b ?_).trans (hbel.block b hb))⟩
    have:=hbel.size
    show b<wr.heap.size
    omega
   have hpl:Pl g w K X p l 0 0 (R0 p) (fun _=>true) (fun _ _=>[]) T g hd W:=by
    refine⟨hnW,⟨⟨.slice LA l.length LC,69,hKb,zM_ HLV.out rfl hIk⟩,hnW.Ilt,?_⟩,hKT,⟨by have:=hbel.size;omega,by omega⟩,hbel.trans (Below.mono1 hbW hbel.size),hT0,fun _ _=>rfl,h1n,.start⟩
    by_cases h0:0<g.I K
    .have:=HLT.out K h0;have:=hbel.size;omega
    .omega
   have HPL:=Lib.hid hpl
   have hXK:wr.heap.size=K:=hK
   clear hnet hT0 hbel hbW hKb hnW hKT hIk hpl hWs HBs HXc HSTS HI HB HMK HP HLV
   go_wp2
   clear hW hXK hK
   go_loopg [] l.length (fun kx wx=>∃k j R U M T g' h,k+kx=l.length/\(3*j<=k\/(k=l.length/\3*j<=k+2))/\Pl g w K X p l k j R U M T g' h wx)
   case atStart=>exact⟨0,0,R0 p,fun _=>true,fun _ _=>[],T,g,hd,by omega,.inl (by omega),HPL.out⟩
   case round =>
    obtain⟨k,j,R,U,M,T',g',h',hk,hc3,hI⟩:=hrel
    have HI:=Lib.hid hI
    have HK1:=Lib.hid hk
    by_cases hm:k<l.length
    .obtain⟨c,hc,hc8⟩:=qJ_ l k (m:=10) (by omega)
     obtain⟨a,ha,ha2⟩:=qJ_ l (nat1 l k) (m:=12) (by omega)
     obtain⟨b,hb,hb2⟩:=qJ_ l (nat1 l (nat1 l k)) (m:=12) (by omega)
     have hc':nxt l k 10=(c:Int):=hc
     have ha':nxt l (nat1 l k) 12=(a:Int):=ha
     have hb':nxt l (nat1 l (nat1 l k)) 12=(b:Int):=hb
     have hn1:nat1 l k=k+1:=by simp[nat1,hm]
     have hn2:=qM_ (xs:=l) (k:=nat1 l k) (by omega)
     have hn3:=qM_ (xs:=l) (k:=nat1 l (nat1 l k)) (by omega)
     have z0:k<=1000:=by omega
     have z1:nat1 l k<=1000:=by omega
     have z2:nat1 l (nat1 l k)<=1000:=by omega
     have z3:l.length<=1000:=by omega
     have Z:k+1<=nat1 l (nat1 l (nat1 l k))/\nat1 l (nat1 l (nat1 l k))<=l.length:=by omega
     have hd1:decide (k<l.length)=true:=by simp[hm]
     have HH:=Lib.hid Z
     have hj:j<=1000:=by omega
     have Z4:3*(j+1)<=nat1 l (nat1 l (nat1 l k))\/(nat1 l (nat1 l (nat1 l k))=l.length/\3*(j+1)<=nat1 l (nat1 l (nat1 l k))+2):=by
      exact mk_ hm (by omega)
     have HZ4:=Lib.hid Z4
     clear hc3 Z4
     clear hI hk hc ha hb hn1 hn2 hn3 Z
     go_wp2_with (first
      | (go_at_call 16
         refine(HI.out.more z0 z3).mono ?_
         rintro e w2 ⟨rfl,hp⟩
         have HI:=Lib.hid hp
         clear hp)
      | (go_at_call 18
         refine(HI.out.next (by assumption) z3 (by omega) (by omega)).mono ?_
         rintro e w2 ⟨g2,rfl,hp⟩
         have HI:=Lib.hid hp
         clear hp)
      | (go_at_call 17
         (try rw[hc',ha',hb'])
         refine(HI.out.step (by omega) hc8 (by omega) (by omega)).mono ?_
         rintro e w2 ⟨R2,U2,M2,T2,g2,h2,rfl,hp⟩
         have HI:=Lib.hid hp
         clear hp)
      | (go_at_call 19
         refine(HI.out.one (by omega)).mono ?_
         rintro e w2 ⟨rfl,hp⟩
         have HI:=Lib.hid hp
         clear hp))
     all_goals go_wp2
     all_goals go_roundg (l.length-nat1 l (nat1 l (nat1 l k)))
     case measure=>have:=HH.out;have:=HK1.out;omega
     case rel=>exact⟨nat1 l (nat1 l (nat1 l k)),j+1,R2,U2,M2,T2,g2,h2,by have:=HH.out;omega,HZ4.out,HI.out⟩
    .have hd1:decide (k<l.length)=false:=by simp;omega
     have z0:k<=1000:=by omega
     have z3:l.length<=1000:=by omega
     have hke:k=l.length:=by omega
     have HJ:=Lib.hid (And.intro hke hc3)
     clear hI hk hc3 hke
     go_wp2_with (go_at_call 16
                  refine(HI.out.more z0 z3).mono ?_
                  rintro e w2 ⟨rfl,hp⟩
                  have HI:=Lib.hid hp
                  clear hp)
     go_wp2
     go_ret2
     exact⟨X,K,j,R,U,M,T',g',h',rfl,by have:=HJ.out;omega,by have:=HI.out;rwa [HJ.out.1]at this⟩
theorem ow_(l:List Int):PC Try.prog 6 [.list 1 (iv l)] (fun r=>r=.s (.bool (decide (l.length<=400)))):=by
 refine zw_ c6 zL_ rfl ?_
 have e:((l.length:Int)<=400)↔l.length<=400:=by omega
 simp -implicitDefEqProofs [a6,F6,e,iv_length]
def s0W:RG.Rs:=⟨0,false,false,[],newT 0⟩
def s1W:RG.Rs:=⟨0,false,false,[],newT 1⟩
def b1W:RG.Rs:=⟨1,false,true,[false,true],⟨false,false,false,-1,-1⟩⟩
def p0W:RG.Rs:=⟨1,false,false,[],⟨false,false,false,1,-1⟩⟩
def m1W:RG.Rs:=⟨1,false,false,[],⟨true,false,false,-1,-1⟩⟩
theorem wB:RG.beginR 2 1 s1W=(b1W,[(0,⟨.prm,1,0⟩)]):=by decide
theorem wH0:RG.hearR s0W 0 1 ⟨.prm,1,0⟩=some (p0W,[(1,⟨.prd,1,0⟩)]):=by decide
theorem wH1:RG.hearR b1W 1 0 ⟨.prd,1,0⟩=some (m1W,[]):=by decide
theorem k0:s0W.ok 2 0:=by constructor<;>first|decide|(simp[s0W,Tk.ok,newT];done)|(simp[s0W];constructor<;>decide)
theorem k1:s1W.ok 2 1:=by constructor<;>first|decide|(simp[s1W,Tk.ok,newT];done)|(simp[s1W];constructor<;>decide)
theorem kb:b1W.ok 2 1:=by constructor<;>first|decide|(simp[b1W,Tk.ok,newT];done)|(simp[b1W];constructor<;>decide)
theorem kp:p0W.ok 2 0:=by constructor<;>first|decide|(simp[p0W,Tk.ok,newT];done)|(simp[p0W];constructor<;>decide)
theorem km:m1W.ok 2 1:=by constructor<;>first|decide|(simp[m1W,Tk.ok,newT];done)|(simp[m1W];constructor<;>decide)
theorem or_:PC Try.prog 7 [] (fun r=>r=.s (.bool true)):=by
 have cN0:=sm_ 0 2 (by decide)
 have cN1:=sm_ 1 2 (by decide)
 have cB:=tR_ k1 (by decide)
 rw[wB]at cB
 have cH0:=uJ_ (m:=⟨.prm,1,0⟩) (j:=1) k0 (by constructor<;>decide) (by decide) (by decide) (by decide) (by decide)
 rw[xp_,wH0]at cH0
 have cH1:=uJ_ (m:=⟨.prd,1,0⟩) (j:=0) kb (by constructor<;>decide) (by decide) (by decide) (by decide) (by decide)
 rw[xp_,wH1]at cH1
 have cV0:=zU_ kp
 have cV1:=zU_ km
 have z0:((0:Nat):Int)=0:=rfl
 have z1:((1:Nat):Int)=1:=rfl
 have z2:((2:Nat):Int)=2:=rfl
 have n0:newT 0=⟨true,false,false,-1,-1⟩:=by decide
 have n1:newT 1=⟨false,false,false,0,-1⟩:=by decide
 simp only[rv,rw_,lv,ou,mv,pc,mc,kk,s0W,s1W,b1W,p0W,m1W,z0,z1,z2,n0,n1,List.map_nil,List.map_cons]at cN0 cN1 cB cH0 cH1 cV0 cV1
 refine zw_ c7 zL_ rfl ?_
 simp -implicitDefEqProofs [a7,F7]
 refine z4_ ?_
 simp -implicitDefEqProofs
 refine zj_ cN0 (by simp) (by simp) ?_
 rintro _ rfl
 simp -implicitDefEqProofs
 refine z4_ ?_
 simp -implicitDefEqProofs
 refine zj_ cN1 (by simp) (by simp) ?_
 rintro _ rfl
 simp -implicitDefEqProofs
 refine z4_ ?_
 simp -implicitDefEqProofs
 refine zj_ cB (by simp) (by simp) ?_
 rintro _ rfl
 simp -implicitDefEqProofs
 refine sn_ ?_
 simp -implicitDefEqProofs
 refine oA_ cH0 (by simp) (by simp) ?_
 simp -implicitDefEqProofs
 refine sn_ ?_
 simp -implicitDefEqProofs
 refine oA_ cH1 (by simp) (by simp) ?_
 simp -implicitDefEqProofs
 refine z4_ ?_
 simp -implicitDefEqProofs
 refine zj_ cV0 (by simp) (by simp) ?_
 rintro _ rfl
 simp -implicitDefEqProofs
 refine z4_ ?_
 simp -implicitDefEqProofs
 refine zj_ cV1 (by simp) (by simp) ?_
 rintro _ rfl
 simp -implicitDefEqProofs
theorem vH_{g:Gh}{w:World}(hlt:∀k,0<g.I k->k<w.heap.size):Calls Try.prog 7 #[] w fun e w'=>e=.returned (.bool true)/\Below w.heap.size w w':=by
 refine(xV_ or_ (g:=g) (w:=w) (vals:=#[]) rfl (by intro x hx;simp at hx) (by intro i x v hx;simp at hx) hlt).mono ?_
 rintro e w' ⟨v,r,g',rfl,rfl,hr,hb,_⟩
 have:=hr.of_s rfl
 subst this
 exact⟨rfl,hb⟩
theorem sc_{g:Gh}{w:World}(hlt:∀k,0<g.I k->k<w.heap.size){l:List Int}{lv:Value}(hlv:Rep g w (.list 1 (iv l)) lv):Calls Try.prog 6 #[lv] w fun e w'=>e=.returned (.bool (decide (l.length<=400)))/\Below w.heap.size w w':=by
 refine(xV_ (ow_ l) (g:=g) (w:=w) (vals:=#[lv]) rfl ?_ ?_ hlt).mono ?_
 .intro x hx
  simp at hx
  subst hx
  rfl
 .intro i x v hx hv
  match i,hx,hv with
  |0,hx,hv=>cases hx;cases hv;exact hlv
 .rintro e w' ⟨v,r,g',rfl,rfl,hr,hb,_⟩
  have:=hr.of_s rfl
  subst this
  exact⟨rfl,hb⟩
theorem rx_{g:Gh}{w w':World}{l:List Int}{lv:Value}(hlt:∀k,0<g.I k->k<w.heap.size)(hlv:Rep g w (.list 1 (iv l)) lv)(hb:Below w.heap.size w w'):Rep g w' (.list 1 (iv l)) lv :=
 zM_ hlv rfl fun b o ho=>⟨ho,yyb_ (a:=⟨b,o,none⟩) (hb.block b (hlt b (by omega)))⟩
theorem sl_(l:List Int)(n:Nat)(hn:n<256):PC Try.prog 3 [.list 1 (iv l),.s (.int .u8 n)] (fun r=>r=.s (.bool true)):=by
 refine oH_ (by intro x hx;simp at hx;rcases hx with rfl|rfl<;>rfl) fun g w vs hl hr hlt=>?_
 obtain⟨lv,nv,rfl⟩:∃a b,vs=#[a,b]:=by
  have:vs.toList.length=2:=by simpa using hl.symm
  match hv:vs.toList,this with
  |[a,b],_=>exact⟨a,b,Array.ext' (by simpa using hv)⟩
 have hlv:=hr 0 _ lv rfl rfl
 have hnv:=(hr 1 _ nv rfl rfl).of_s rfl
 subst hnv
 have fin:∀w',Below w.heap.size w w'->∃(v:Value) (r:V) (I':Nat->Nat),Ending.returned (.bool true)=.returned v/\r=.s (.bool true)/\immT r=true/\okV r=true/\(∀b,b<w.heap.size->I' b=g.I b)/\(∀b,0<I' b->b<w'.heap.size)/\Rep ⟨I',g.φ⟩ w' r v/\Below w.heap.size w w':=fun w' hb =>
  ⟨_,_,g.I,rfl,rfl,rfl,rfl,fun _ _=>rfl,fun b hb'=>zzk_ (hlt b hb') hb.size,.s rfl,hb⟩
 have HF:=Lib.hid fin
 have HL:=Lib.hid hlv
 have H0:=Lib.hid (sc_ hlt hlv)
 have c1:IntKind.i64.wrap (n:Int)=n:=by rw[yye_];omega
 have c2:(n:Int).tmod 4=((n%4:Nat):Int):=by rw[Int.tmod_eq_emod_of_nonneg (by omega)];rfl
 have c3:IntKind.i64.wrap ((n%4:Nat):Int)=((n%4:Nat):Int):=by rw[yye_];omega
 have c4:IntKind.i64.wrap (1+((n%4:Nat):Int))=((1+n%4:Nat):Int):=by rw[yye_];omega
 have c5:(1:Int)+((n%4:Nat):Int)=((1+n%4:Nat):Int):=by omega
 clear hr hlv fin
 have hd:decide (l.length<=400)=true\/decide (l.length<=400)=false:=by cases decide (l.length<=400)<;>simp
 rcases hd with hd|hd
 .have h4:l.length<=400:=of_decide_eq_true hd
  go_enter Try.func3,Try.ntmps3
  go_wp2_with (first
   | (go_at_call 6
      refine H0.out.mono ?_
      rintro e w1 ⟨rfl,hb1⟩
      have hlt1:∀k,0<g.I k->k<w1.heap.size:=fun k hk=>zzk_ (hlt k hk) hb1.size
      have HB1:=Lib.hid hb1
      have HLT:=Lib.hid hlt1
      clear hb1 hlt1)
   | (go_at_call 8
      (try rw[c5])
      refine(ni_ HLT.out (rx_ hlt HL.out HB1.out) h4 (n:=1+n%4) (by omega) (by omega)).mono ?_
      rintro e w2 ⟨X,K,j,R,U,M,T,g2,h2,rfl,_,hp⟩
      have hb2:=HB1.out.trans (Below.mono1 hp.below HB1.out.size)
      have hlt2:∀k,0<g.I k->k<w2.heap.size:=fun k hk=>zzk_ (hlt k hk) hb2.size
      have HB2:=Lib.hid hb2
      have HLT2:=Lib.hid hlt2
      clear hp hb2 hlt2)
   | (go_at_call 7
      refine(vH_ HLT2.out).mono ?_
      rintro e w3 ⟨rfl,hb3⟩
      have HB3:=Lib.hid (HB2.out.trans (Below.mono1 hb3 HB2.out.size))
      clear hb3))
  all_goals go_wp2
  all_goals go_ret
  all_goals exact HF.out _ HB3.out
 .go_enter Try.func3,Try.ntmps3
  go_wp2_with (first
   | (go_at_call 6
      refine H0.out.mono ?_
      rintro e w1 ⟨rfl,hb1⟩
      have hlt1:∀k,0<g.I k->k<w1.heap.size:=fun k hk=>zzk_ (hlt k hk) hb1.size
      have HB1:=Lib.hid hb1
      have HLT:=Lib.hid hlt1
      clear hb1 hlt1)
   | (go_at_call 7
      refine(vH_ HLT.out).mono ?_
      rintro e w3 ⟨rfl,hb3⟩
      have HB3:=Lib.hid (HB1.out.trans (Below.mono1 hb3 HB1.out.size))
      clear hb3))
  all_goals go_wp2
  all_goals go_ret
  all_goals exact HF.out _ HB3.out
section
structure Rd(w:World)(g:Gh)(cs:List Value)(xs:List V):Prop where
 len:xs.length=cs.length
 rep:∀(j:Nat) (x:V) (c:Value),xs[j]?=some x->cs[j]?=some c->Rep (allG w g) w x c/\immC x=true/\c.oneCell'=true
def wK_(P:Program)(e:TypeId)(xs:List V):V:=if aggT P e=some true then .agg xs else xs.headD .no
def xx_(P:Program):Nat->TypeId->List V->Prop
 |0,_,_=>False
 | f + 1, t, xs =>
   match P.underlying t with
   |some .bool=>∃b,xs=[.s (.bool b)]
   |some (.int k)=>∃n,(Lit.int k n).wf=true/\xs=[.s (.int k n)]
   |some .string=>∃s:ByteArray,s.size<=maxLen/\xs=[.s (.string s)]
   |some (.slice e)=>∃els:List (List V),xs=[.list (P.cellsOf e) (els.map (wK_ P e))]/\els.length<=maxLen/\∀el∈els,xx_ P f e el
   |some (.struct fs)=>∃parts:List (List V),xs=parts.flatten/\parts.length=fs.size/\∀(i:Nat) (fl:Field) (p:List V),fs[i]?=some fl->parts[i]?=some p->xx_ P f fl.type p
   |_=>False
def r6_(P:Program):List Field->Nat->Bool
 |[],_=>true
 |f::r,off=>decide (f.offset=off)&&r6_ P r (off+P.cellsOf f.type)
def we_(P:Program):List Field->Nat
 |[]=>0
 |f::r=>P.cellsOf f.type+we_ P r
def okTy(P:Program):Nat->TypeId->Bool
 |0,_=>false
 | f + 1, t =>
   match P.underlying t with
   |some .bool|some (.int _)|some .string=>Nat.beq (P.cellsOf t) 1
   |some (.slice e)=>Nat.beq (P.cellsOf t) 1&&okTy P f e&&((match aggT P e with|some true=>true|some false=>Nat.beq (P.cellsOf e) 1|none=>false))
   |some (.struct fs)=>r6_ P fs.toList 0&&Nat.beq (we_ P fs.toList) (P.cellsOf t)&&fs.all fun fl=>okTy P f fl.type
   |_=>false
section
variable{H:Type}{enc:TypeId×Value->H}{P:Program}{w:World}{g:Gh}{base:Nat}{sp:Nat->Bool}{held:Bool}
theorem tG_:∀(fs:List Field) (off:Nat) (cs:List Value) (parts:List (List V)),r6_ P fs off=true->off+we_ P fs=cs.length->parts.length=fs.length ->
 (∀(i:Nat) (fl:Field) (p:List V),fs[i]?=some fl->parts[i]?=some p->Rd w g ((cs.drop fl.offset).take (P.cellsOf fl.type)) p)->Rd w g (cs.drop off) parts.flatten
 | [], off, cs, parts, hc, hl, hp, h => by
   have:parts=[]:=List.length_eq_zero_iff.1 hp
   subst this
   simp only[we_,Nat.add_zero]at hl
   rw[List.drop_of_length_le (by omega)]
   exact⟨rfl,fun j x c hx=>by simp at hx⟩
 |f::r,off,cs,[],hc,hl,hp,h=>by simp at hp
 | f :: r, off, cs, p :: ps, hc, hl, hp, h => by
   simp only[r6_,zzg_,zzp_]at hc
   simp only[we_]at hl
   have h0:=h 0 f p rfl rfl
   have ih:=tG_ r (off+P.cellsOf f.type) cs ps hc.2 (by omega) (by simpa using hp) (fun i fl q hi hq=>h (i+1) fl q (by simpa using hi) (by simpa using hq))
   rw[hc.1]at h0
   have hp0:p.length=P.cellsOf f.type:=by rw[h0.len];simp;omega
   refine⟨?_,fun j x c hx hcj=>?_⟩
   .have:=ih.len
    simp only[List.flatten_cons,zzr_,List.length_drop]at this ⊢
    omega
   .simp only[List.flatten_cons,List.getElem?_append]at hx
    split at hx
    .next hj =>
     refine h0.rep j x c hx ?_
     rw[zzu_,if_pos (by omega)]
     exact hcj
    .next hj =>
     refine ih.rep (j-p.length) x c hx ?_
     rw[zzA_]at hcj ⊢
     rw[<-hcj]
     congr 1
     omega
theorem qm_{c:Value}(h:c.oneCell'=true):Rd w g [c] [.s c]:=⟨rfl,fun j x c' hx hc=>by
 cases j with
 |zero=>simp at hx hc;subst hx hc;exact⟨.s h,rfl,h⟩
 |succ j=>simp at hx⟩
theorem w8_{α:Type}{Q:Nat->α->Prop}:∀(n:Nat),(∀i,i<n->∃a,Q i a)->∃l:List α,l.length=n/\∀(i:Nat) (a:α),l[i]?=some a->Q i a
 |0,_=>⟨[],rfl,by simp⟩
 | n + 1, h => by
   obtain⟨l,h1,h2⟩:=w8_ n (fun i hi=>h i (by omega))
   obtain⟨a,ha⟩:=h n (by omega)
   refine⟨l++[a],by simp[h1],fun i b hi=>?_⟩
   rw[List.getElem?_append]at hi
   split at hi
   .exact h2 i b hi
   ·have:i=n:=by
     have:=(zzc_.1 hi).1
     simp at this
     omega
    subst this
    rw[h1]at hi
    simp at hi
    subst hi
    exact ha
theorem uk_:∀(dep:Nat) (t:TypeId),okTy P dep t=true->∀(fuel:Nat) (cs:List Value) (x:DataW H×List MemPlace),DataW.trod enc P w base sp held fuel t cs=some x->∃xs,Rd w g cs xs/\xx_ P dep t xs/\cs.length=P.cellsOf t
 |0,t,h=>by simp[okTy]at h
 | dep + 1, t, hok => fun fuel cs x h => by
   unfold okTy at hok
   unfold xx_
   cases hu:P.underlying t with
   |none=>rw[hu]at hok;simp at hok
   | some td =>
     rw[hu]at hok
     cases td with
     | bool =>
       have h1:=yyq_ hok
       obtain⟨b,rfl⟩:∃b,cs=[.bool b]:=by
        cases fuel with
        |zero=>simp[DataW.trod]at h
        | succ n =>
          unfold DataW.trod at h
          rw[hu]at h
          split at h<;>simp_all
       exact⟨[.s (.bool b)],qm_ rfl,⟨b,rfl⟩,by simp[h1]⟩
     | int k =>
       have h1:=yyq_ hok
       obtain⟨n,hn,rfl⟩:∃n,(Lit.int k n).wf=true/\cs=[.int k n]:=by
        cases fuel with
        |zero=>simp[DataW.trod]at h
        | succ n =>
          unfold DataW.trod at h
          rw[hu]at h
          split at h<;>simp_all
       exact⟨[.s (.int k n)],qm_ rfl,⟨n,hn,rfl⟩,by simp[h1]⟩
     | string =>
       have h1:=yyq_ hok
       obtain⟨s,hs,rfl⟩:∃s:ByteArray,s.size<=maxLen/\cs=[.string s]:=by
        cases fuel with
        |zero=>simp[DataW.trod]at h
        | succ n =>
          unfold DataW.trod at h
          rw[hu]at h
          split at h<;>simp_all
       exact⟨[.s (.string s)],qm_ rfl,⟨s,hs,rfl⟩,by simp[h1]⟩
     | slice e =>
       simp only[zzg_]at hok
       obtain⟨⟨h1,h2⟩,h3⟩:=hok
       have h1:=yyq_ h1
       simp only
       rcases DataW.trod_slice hu h with ⟨rfl,_⟩|⟨a,len,cap,elems,rest,n,rfl,rfl,rfl,hb,hl,hm,hel,hget,_,_⟩
       ·exact⟨[.list (P.cellsOf e) []],⟨rfl,fun j x c hx hc=>by
         cases j with
         | zero =>
           simp at hx hc
           subst hx hc
           exact⟨.list (fun _=>undef) (zzl_ _) (zzn_ _) (fun _=>rfl) (by simp) (by simp[flat]) (fun j hj=>by simp[flat]at hj) (fun j u hu=>by simp[flat]at hu),rfl,rfl⟩
         |succ j=>simp at hx⟩,⟨[],rfl,zzn_ _,by simp⟩,by simp[h1]⟩
       · -- the elements
         have hone:∀i,i<len->∃(cs':List Value) (xs:List V),w.cells? base (a.add (i*P.cellsOf e)) (P.cellsOf e)=some cs'/\Rd w g cs' xs/\xx_ P dep e xs/\cs'.length=P.cellsOf e:=by
          intro i hi
          have:=hget i hi
          rw[zzf_ (by omega)]at this
          obtain⟨cs',k1,k2⟩:=zza_.1 this
          obtain⟨xs,k3,k4,k5⟩:=uk_ dep e h2 _ _ _ k2
          exact⟨cs',xs,k1,k3,k4,k5⟩
         obtain⟨els,e1,e2⟩:=w8_ (Q:=fun i xs=>∃cs':List Value,w.cells? base (a.add (i*P.cellsOf e)) (P.cellsOf e)=some cs'/\Rd w g cs' xs/\xx_ P dep e xs/\cs'.length=P.cellsOf e) len (fun i hi=>by
          obtain⟨cs',xs,q⟩:=hone i hi
          exact⟨xs,cs',q⟩)
         have hlen:∀el∈els,el.length=P.cellsOf e:=fun el hel'=>by
          obtain⟨i,hi⟩:=List.mem_iff_getElem?.1 hel'
          obtain⟨cs',q1,q2,q3,q4⟩:=e2 i el hi
          rw[q2.len,q4]
         have hcells:∀el∈els,cellsOf (wK_ P e el)=el:=fun el hel'=>by
          have hl':=hlen el hel'
          unfold wK_
          cases hag:aggT P e with
          |none=>rw[hag]at h3;cases h3
          | some b =>
            cases b with
            |true=>simp[cellsOf]
            | false =>
              rw[hag]at h3
              have h3:=yyq_ h3
              rw[h3]at hl'
              obtain⟨y,rfl⟩:=List.length_eq_one_iff.1 hl'
              obtain⟨i,hi⟩:=List.mem_iff_getElem?.1 hel'
              obtain⟨cs',q1,q2,q3,q4⟩:=e2 i [y] hi
              have hc0:∃c,cs'[0]?=some c:=⟨cs'[0]'(by omega),by simp[(by omega:0<cs'.length)]⟩
              obtain⟨c,hc⟩:=hc0
              have hi':=(q2.rep 0 y c rfl hc).2.1
              simp only[yya_,yyi_,if_false,List.headD_cons]
              cases y<;>simp[immC]at hi'<;>rfl
         have hz:∀y∈els.map (wK_ P e),(cellsOf y).length=P.cellsOf e:=fun y hy=>by
          obtain⟨el,q1,rfl⟩:=List.mem_map.1 hy
          rw[hcells el q1,hlen el q1]
         have hfl:=zc_ hz
         rw[List.length_map,e1]at hfl
         -- one cell among all
         have hat:∀j,j<len*P.cellsOf e->∃(i o:Nat) (el:List V) (u:V) (c:Value),j=i*P.cellsOf e+o/\els[i]?=some el/\el[o]?=some u/\(flat (els.map (wK_ P e)))[j]?=some u/\w.cell? (a.add j)=some c/\Rep (allG w g) w u c/\immC u=true:=by
          intro j hj
          have hz0:0<P.cellsOf e:=by
           rcases yyo_ (P.cellsOf e) with q|q
           .rw[q]at hj;omega
           .exact q
          have hi:j/P.cellsOf e<len:=(Nat.div_lt_iff_lt_mul hz0).2 hj
          have ho:j%P.cellsOf e<P.cellsOf e:=Nat.mod_lt _ hz0
          have hje:j=j/P.cellsOf e*P.cellsOf e+j%P.cellsOf e:=by rw[Nat.mul_comm];exact(Nat.div_add_mod _ _).symm
          have hel':els[j/P.cellsOf e]?=some (els[j/P.cellsOf e]'(by omega)):=zzf_ (by omega)
          generalize els[j/P.cellsOf e]'(by omega)=el at hel'
          obtain⟨cs',q1,q2,q3,q4⟩:=e2 _ el hel'
          have hm:=zzd_ hel'
          have hu:el[j%P.cellsOf e]?=some (el[j%P.cellsOf e]'(by rw[hlen el hm];exact ho)):=by simp
          generalize el[j%P.cellsOf e]'(by rw[hlen el hm];exact ho)=u at hu
          have hc:cs'[j%P.cellsOf e]?=some (cs'[j%P.cellsOf e]'(by rw[q4];exact ho)):=by simp
          generalize cs'[j%P.cellsOf e]'(by rw[q4];exact ho)=c at hc
          obtain⟨_,_,q5⟩:=World.cells?_some q1
          have q6:=q5 _ ho
          rw[Addr.add_add,<-hje,hc]at q6
          obtain⟨r1,r2,_⟩:=q2.rep _ u c hu hc
          refine⟨_,_,el,u,c,hje,hel',hu,?_,q6,r1,r2⟩
          have hx:(els.map (wK_ P e))[j/P.cellsOf e]?=some (wK_ P e el):=by rw[zzs_,hel'];rfl
          have:=xS_ hz hx ho
          rw[hcells el hm,<-hje]at this
          rw[this,hu]
         have hrd:Rep (allG w g) w (.list (P.cellsOf e) (els.map (wK_ P e))) (.slice (some a) (els.map (wK_ P e)).length cap):=by
          refine .list (fun j=>(w.cell? (a.add j)).getD undef) (by simp;omega) hm (fun q=>by cases q) hz (fun u hu=>?_) (fun j hj=>?_) (fun j u hu=>?_)
          .obtain⟨j,hj⟩:=List.mem_iff_getElem?.1 hu
           have hjl:=(zzc_.1 hj).1
           obtain⟨_,_,_,u',c,_,_,_,q4,_,_,q7⟩:=hat j (by omega)
           rw[hj]at q4
           cases q4
           exact q7
          .obtain⟨_,_,_,u',c,_,_,_,_,q5,_,_⟩:=hat j (by omega)
           have h0:∃c0,w.cell? (a.add 0)=some c0:=by
            obtain⟨_,_,_,_,c0,_,_,_,_,q,_,_⟩:=hat 0 (by omega)
            exact⟨c0,q⟩
           obtain⟨c0,h0⟩:=h0
           have ha:a=⟨a.block,a.off,none⟩:=by
            have e0:a.add 0=a:=by simp[Addr.add]
            rw[e0]at h0
            obtain⟨b,o,s⟩:=a
            cases s with
            |none=>rfl
            | some q =>
              unfold World.cell? at h0
              split at h0
              .simp at h0
              .cases h0
           have hadd:a.add j=⟨a.block,a.off+j,none⟩:=by rw[ha,zI_]
           rw[hadd]at q5
           refine⟨a.block,a.off,congrArg some ha,pr_ q5,?_⟩
           rw[hadd,q5]
           rfl
          .have hjl:=(zzc_.1 hu).1
           obtain⟨_,_,_,u',c,_,_,_,q4,q5,q6,_⟩:=hat j (by omega)
           rw[hu]at q4
           cases q4
           rw[q5]
           exact q6
         refine⟨[.list (P.cellsOf e) (els.map (wK_ P e))],⟨rfl,fun j x c hx hc=>?_⟩,⟨els,rfl,by omega,fun el hel'=>?_⟩,by simp[h1]⟩
         .cases j with
          | zero =>
            simp only[List.getElem?_cons_zero,yya_]at hx hc
            subst hx hc
            rw[List.length_map,e1]at hrd
            exact⟨hrd,rfl,rfl⟩
          |succ j=>simp at hx
         .obtain⟨i,hi⟩:=List.mem_iff_getElem?.1 hel'
          obtain⟨_,_,_,q,_⟩:=e2 i el hi
          exact q
     | struct fs =>
       simp only[zzg_]at hok
       obtain⟨⟨h1,h2⟩,h3⟩:=hok
       have h2:=yyq_ h2
       obtain⟨xs,n,rfl,rfl,k1,k2,k3⟩:=DataW.trod_struct hu h
       have hone:∀(i:Nat) (fl:Field),fs[i]?=some fl->∃p,Rd w g ((cs.drop fl.offset).take (P.cellsOf fl.type)) p/\xx_ P dep fl.type p:=by
        intro i fl hi
        have hi':=(zzm_.1 hi).1
        have:=k3 i fl hi
        rw[zzf_ (by omega)]at this
        obtain⟨p,q1,q2,_⟩:=uk_ dep fl.type (by
         rw[Array.all_eq_true]at h3
         have:=h3 i hi'
         have e:fs[i]=fl:=by simpa[hi'] using hi
         rw[e]at this
         exact this) _ _ _ this
        exact⟨p,q1,q2⟩
       have hex:∃parts:List (List V),parts.length=fs.size/\∀(i:Nat) (fl:Field) (p:List V),fs[i]?=some fl->parts[i]?=some p->Rd w g ((cs.drop fl.offset).take (P.cellsOf fl.type)) p/\xx_ P dep fl.type p:=by
        obtain⟨parts,e1,e2⟩:=w8_ (Q:=fun i p=>∀fl,fs[i]?=some fl->Rd w g ((cs.drop fl.offset).take (P.cellsOf fl.type)) p/\xx_ P dep fl.type p) fs.size (fun i hi=>by
         obtain⟨p,hp⟩:=hone i fs[i] (by simp[hi])
         refine⟨p,fun fl hfl=>?_⟩
         have:fs[i]=fl:=by simpa[hi] using hfl
         rw[<-this]
         exact hp)
        exact⟨parts,e1,fun i fl p hi hp=>e2 i p hp fl hi⟩
       obtain⟨parts,m1,m2⟩:=hex
       refine⟨parts.flatten,?_,⟨parts,rfl,m1,fun i fl p hi hp=>(m2 i fl p hi hp).2⟩,k1⟩
       have:=tG_ (w:=w) (g:=g) fs.toList 0 cs parts h1 (by omega) (by simpa using m1) (fun i fl p hi hp=>(m2 i fl p (by simpa using hi) hp).1)
       simpa using this
     |_=>simp at hok
end
end
end Go.Proofs.Ytnbppaolinopeaa
namespace Go.Proofs.Ytnbppaolinopeaa
open Go.RowKit Go.WideShapes
def g00:Gh:=⟨fun _=>0,fun _=>0⟩
def yZ_(P:Program)(dep:Nat)(t:TypeId)(x:V):Prop :=
 match P.underlying t with
 |some (.struct _)=>∃xs,x=.agg xs/\xx_ P dep t xs
 |_=>xx_ P dep t [x]
section
variable{H:Type}{enc:TypeId×Value->H}{P:Program}{w:World}{base:Nat}{sp:Nat->Bool}{held:Bool}
theorem rb_{dep b2:Nat}{t:TypeId}{v:Value}{d:DataW H}{ps:List MemPlace}(hok:okTy P dep t=true)(hval:Value.okWide P w .any b2 t v)(htr:DataW.Trod enc P w base sp held t v d ps) :
 ∃x,Rep (allG w g00) w x v/\immA x=true/\yZ_ P dep t x:=by
 obtain⟨fuel,h⟩:=htr
 obtain⟨xs,h1,h2,h3⟩:=uk_ (g:=g00) dep t hok _ _ _ h
 cases dep with
 |zero=>simp[okTy]at hok
 | succ dep =>
   have hone:(∀cs,v≠.agg cs)->v.cells.toList.length=1->∃x,xs=[x]/\Rep (allG w g00) w x v/\immC x=true:=by
    intro hna hl
    have hlx:xs.length=1:=by rw[h1.len,hl]
    obtain⟨x,rfl⟩:=List.length_eq_one_iff.1 hlx
    have hc:v.cells.toList[0]?=some v:=by cases v<;>first|rfl|exact absurd rfl (hna _)
    obtain⟨k1,k2,_⟩:=h1.rep 0 x v rfl hc
    exact⟨x,rfl,k1,k2⟩
   have hsc:∀td,P.underlying t=some td->(∀fs,td≠.struct fs)->(∀cs,v≠.agg cs)->∃x,Rep (allG w g00) w x v/\immA x=true/\yZ_ P (dep+1) t x:=by
    intro td hu hns hna
    obtain⟨x,rfl,k1,k2⟩:=hone hna (by cases v<;>first|rfl|exact absurd rfl (hna _))
    refine⟨x,k1,by cases x<;>first|exact k2|(simp[immC]at k2),?_⟩
    unfold yZ_
    rw[hu]
    cases td<;>first|exact absurd rfl (hns _)|exact h2
   cases hu:P.underlying t with
   |none=>unfold okTy at hok;rw[hu]at hok;simp at hok
   | some td =>
     cases td with
     |bool=>obtain⟨b,rfl⟩:=okWide_bool hu hval;exact hsc _ hu (by simp) (by simp)
     |int k=>obtain⟨n,rfl⟩:=okWide_int hu hval;exact hsc _ hu (by simp) (by simp)
     |string=>obtain⟨s,rfl⟩:=okWide_string hu hval;exact hsc _ hu (by simp) (by simp)
     |slice e=>obtain⟨a,l,c,rfl⟩:=okWide_slice hu hval;exact hsc _ hu (by simp) (by simp)
     | struct fs =>
       obtain⟨cs,rfl,hsz⟩:=okWide_struct hu hval
       have hcells:(Value.agg cs).cells.toList=cs.toList:=rfl
       rw[hcells]at h1
       refine⟨.agg xs,.agg (by simpa using h1.len) (fun c hc=>?_) (fun j u c hu' hc=>(h1.rep j u c hu' (by simpa using hc)).1),?_,?_⟩
       .obtain⟨j,hj⟩:=List.mem_iff_getElem?.1 hc
        have hjl:j<xs.length:=by rw[h1.len];exact(zzc_.1 hj).1
        exact(h1.rep j _ c (zzf_ hjl) hj).2.2
       .simp only[immA,zzh_]
        intro u hu'
        obtain⟨j,hj⟩:=List.mem_iff_getElem?.1 hu'
        have hjl:j<cs.toList.length:=by rw[<-h1.len];exact(zzc_.1 hj).1
        exact(h1.rep j u _ hj (zzf_ hjl)).2.1
       .unfold yZ_
        rw[hu]
        exact⟨xs,rfl,h2⟩
     |_=>unfold okTy at hok;rw[hu]at hok;simp at hok
theorem qU_{f:FuncId}{args:List V}{vals:Array Value}(hpc:PC P f args (fun r=>r=.s (.bool true)))(hl:args.length=vals.size)(hr:∀(i:Nat) (x:V) (v:Value),args[i]?=some x->vals[i]?=some v->Rep (allG w g00) w x v/\immA x=true) :
 Calls P f vals w fun e w'=>e=.returned (.bool true)/\Below w.heap.size w w':=by
 have himm:∀x∈args,immA x=true:=by
  intro x hx
  obtain⟨i,hi⟩:=List.mem_iff_getElem?.1 hx
  have hil:i<vals.size:=by rw[<-hl];exact(zzc_.1 hi).1
  exact(hr i x vals[i] hi (by simp[hil])).2
 obtain⟨hbd,hno⟩:=tO_ (g:=allG w g00) (w:=w) hl himm (fun i x v h1 h2=>(hr i x v h1 h2).1) (fun k hk=>by
  simp only[allG,g00]at hk
  split at hk
  .next hk'=>exact(zzm_.1 hk').1
  .simp at hk)
 refine(hpc _ w _ hbd).mono ?_
 rintro e w' ⟨v,r,bs',g',rfl,⟨rfl,rfl⟩,_,hb,hex⟩
 have hrep:=hb.rep (.l (.var 0)) _ v ⟨rfl,by simp[z8_,Frn,Act.tv]⟩
 cases hrep
 exact⟨rfl,hex.os,hex.tape,hex.output,hex.size,fun k hk=>(hex.same k hk (hno k)).1⟩
end
end Go.Proofs.Ytnbppaolinopeaa
namespace Go.Proofs.Ytnbppaolinopeaa
open Go.RowKit Go.Proofs
theorem n6_{dep:Nat}{el:List V}(h:xx_ Try.prog (dep+1) 3 el):∃n:Int,el=[.s (.int .i64 n)]:=by
 unfold xx_ at h
 rw[Try.underlying3]at h
 obtain⟨n,_,hn⟩:=h
 exact⟨n,by simpa using hn⟩
theorem oE_{α:Type}{dep:Nat}{t:TypeId}{f:α->V}(hf:∀el,xx_ Try.prog dep t el->∃a,wK_ Try.prog t el=f a):∀(els:List (List V)),(∀el∈els,xx_ Try.prog dep t el)->∃m:List α,els.map (wK_ Try.prog t)=m.map f
 |[],_=>⟨[],rfl⟩
 | x :: r, h => by
   obtain⟨m,hm⟩:=oE_ hf r (fun el hel=>h el (by simp[hel]))
   obtain⟨a,ha⟩:=hf x (h x (by simp))
   exact⟨a::m,by rw[List.map_cons,hm,ha];rfl⟩
theorem pz_{dep:Nat}{el:List V}(h:xx_ Try.prog (dep+2) 22 el):∃l:List Int,el=[.list 1 (iv l)]:=by
 unfold xx_ at h
 rw[Try.underlying22]at h
 obtain⟨els,hx,_,hb⟩:=h
 have e1:Try.prog.cellsOf 3=1:=by kernel_rfl
 have e2:aggT Try.prog 3=some false:=by kernel_rfl
 rw[e1]at hx
 obtain⟨m,hm⟩:=oE_ (f:=fun n:Int=>V.s (.int .i64 n)) (fun el hel=>by
  obtain⟨n,rfl⟩:=n6_ hel
  exact⟨n,by simp[wK_,e2]⟩) els hb
 rw[hm]at hx
 exact⟨m,hx⟩
theorem n7_{dep:Nat}{x:V}(h:yZ_ Try.prog (dep+1) 5 x):∃n:Nat,n<256/\x=.s (.int .u8 n):=by
 unfold yZ_ at h
 rw[Try.underlying5]at h
 simp only at h
 unfold xx_ at h
 rw[Try.underlying5]at h
 obtain⟨n,hn,hx⟩:=h
 have hb:0<=n/\n<=255:=by simpa[Lit.wf,IntKind.min,IntKind.max,IntKind.signed,IntKind.bits] using hn
 exact⟨n.toNat,by omega,by rw[show ((n.toNat:Nat):Int)=n by omega];simpa using hx⟩
theorem n5_{dep:Nat}{x:V}(h:yZ_ Try.prog (dep+2) 22 x):∃l:List Int,x=.list 1 (iv l):=by
 unfold yZ_ at h
 rw[Try.underlying22]at h
 simp only at h
 obtain⟨l,hl⟩:=pz_ h
 exact⟨l,by simpa using hl⟩
end Go.Proofs.Ytnbppaolinopeaa
