/- Parts of the proof of a law of chapter 30, put behind one another. -/
import Derived.Test.YtnbppaolinopeaaZF
import Derived.Test.YtnbppaolinopeaaZE
import Derived.Test.YtnbppaolinopeaaZD
import Derived.ProofKit
import Derived.ChangeArms
import Derived.WideShapes
import Derived.Below
set_option linter.unusedVariables false
set_option maxHeartbeats 64000000
set_option maxRecDepth 100000
set_option linter.unusedSimpArgs false
namespace Go.Proofs.Ytnbppaolinopeaa
open Go.RowKit Go.Proofs
theorem mL_{l:List Int}{k j:Nat}(hm:k<l.length)(hj:3*j<=k):3*(j+1)<=nat1 l (nat1 l (nat1 l k))\/(nat1 l (nat1 l (nat1 l k))=l.length/\3*(j+1)<=nat1 l (nat1 l (nat1 l k))+2):=by
 have e:∀m,nat1 l m=if m<l.length then m+1 else m:=fun _=>rfl
 have e1:nat1 l k=k+1:=by rw[e,if_pos hm]
 rw[e1]
 by_cases h1:k+1<l.length
 .have e2:nat1 l (k+1)=k+2:=by rw[e,if_pos h1]
  rw[e2]
  by_cases h2:k+2<l.length
  .rw[e,if_pos h2];omega
  .rw[e,if_neg h2];omega
 .have e2:nat1 l (k+1)=k+1:=by rw[e,if_neg h1]
  rw[e2,e2];omega
theorem nF_{g:Gh}{w:World}(hlt:∀k,0<g.I k->k<w.heap.size){l:List Int}{lv:Value}(hlv:Rep g w (.list 1 (iv l)) lv)(hl:l.length<=400){n:Nat}(h1n:1<=n)(h4n:n<=4):Calls Try.prog 8 #[lv,.int .i64 n] w fun e w' =>
 ∃X K j R U M T g' h,e=.returned (.tuple #[.pointer (some ⟨X,0,none⟩),.bool true])/\j<=134/\Pl g w K X n l l.length j R U M T g' h w':=by
 have mx:=zN_
 obtain⟨LA,LC,rfl,hlc1,hlc2,_⟩:=uF_ hlv
 have HLV:=Lib.hid hlv
 have HLT:=Lib.hid hlt
 have hnz:(n:Int)<=4:=by omega
 obtain⟨w0,hw0⟩:∃w0,w0=w.alloc (.cells #[.slice none 0 0,.slice none 0 0,.slice none 0 0] 33):=⟨_,rfl⟩
 obtain⟨X,hX⟩:∃X,X=w.heap.size:=⟨_,rfl⟩
 have hXl:X<w0.heap.size:=by rw[hw0,hX];simp
 have hXb:w0.heap[X]?=some (.cells #[.slice none 0 0,.slice none 0 0,.slice none 0 0] 33 (0,0)):=by rw[hw0,hX];exact heap_alloc_new w _
 have hB0:Below w.heap.size w w0:=by rw[hw0];exact zV_ w _
 have h01:w0.heap.size=w.heap.size+1:=by rw[hw0];simp
 have hmk:Mk w0 X n 0 w0:=by
  refine⟨.slice none 0 0,.slice none 0 0,.slice none 0 0,fun _=>#[],fun _=>0,⟨rfl,rfl,rfl,zzl_ _,fun _ _ _=>rfl,fun r hr=>?_,fun q hq=>by simp[mkL]at hq,fun i j r s k hi hj h1 _=>?_,by simp[mkL],fun r _ q hq=>by simp[mkL]at hq⟩,hXb,fun i hi=>by omega⟩
  .simp[mkO]at hr
   rcases hr with rfl|rfl|rfl<;>exact World.ownsRow_nil ..
  .have:=zzd_ hi
   simp[mkO]at this
   rcases this with rfl|rfl|rfl<;>simp[Value.ownBlock]at h1
 have HMK:=Lib.hid hmk
 have HB:=Lib.hid (And.intro hX (And.intro hB0 h01))
 clear hmk hB0 hXb h01 hlt hlv
 go_enter Try.func8,Try.ntmps8
 go_wp2
 rw[<-hw0,<-hX]
 clear hw0 hX
 go_loopg [7] n (fun kx s7 wr=>∃p:Nat,s7=.int .i64 p/\p+kx=n/\Mk w0 X n p wr)
 case atStart=>exact⟨0,rfl,by omega,HMK.out⟩
 case round =>
  obtain⟨p,rfl,hp,hI⟩:=hrel
  obtain⟨bv,uv,mv,sts,rk,hBs,hXc,hsts⟩:=hI.ex
  have hn9:n<=9:=by omega
  have HP:=Lib.hid hp
  have HBs:=Lib.hid hBs
  have HXc:=Lib.hid hXc
  have HSTS:=Lib.hid hsts
  have HI:=Lib.hid hI
  clear hI hBs hXc hp hsts
  by_cases hm:p<n
  .have hpz:(p:Int)<(n:Int):=by omega
   have hcall:=pP_ (g:=g) (w:=wr) (fun k hk=>zzk_ (HLT.out k hk) (by have:=HBs.out.size;have:=HB.out.2.2;omega)) (n:=n) (i:=p) ⟨h1n,h4n,hm⟩
   have HC:=Lib.hid hcall
   clear hcall
   have hp1:p+1<=1000:=by omega
   have hwp:IntKind.i64.wrap ((p:Int)+1)=(p:Int)+1:=by rw[yye_];omega
   go_wp2_with (first
    | (go_at_call 14
       refine HC.out.mono ?_
       rintro e wx ⟨vs,rfl,hF,hbx⟩
       have HF:=Lib.hid hF
       obtain⟨W,b8,hb8,hst8,hnd⟩:=mK_ HBs.out HXc.out hXl hbx (zs:=zR) rfl hF.sz hF.one
       simp only[zR,<-hb8]at hst8
       have HVS:=Lib.hid hF.sz
       have HONE:=Lib.hid hF.one
       have HST:=Lib.hid hst8
       have HND:=Lib.hid hnd
       have HB8:=Lib.hid hb8
       clear hF hbx hst8 hnd hb8)
    |(refine zq_ rfl rfl 37 _ _ rfl _ _ rfl rfl HST.out ?_))
   all_goals go_wp2
   try rw[HB8.out]
   have h0:=HND.out.drew
   have hSof:∀(Y:World) (O:List Orow) (ks:List (Nat×Obj)),Nd w0 X n p bv uv mv rk O ((b8,.cells vs 37 (0,0))::ks) Y->Y.cell? ⟨X,0,none⟩=some bv/\Y.cell? ⟨X,1,none⟩=some uv/\Y.cell? ⟨X,2,none⟩=some mv/\Hs Y b8 0 vs:=fun Y O ks hY=>⟨hY.s.1,hY.s.2.1,hY.s.2.2,zw_ (hY.loose (.head _))⟩
   have hSo2:∀(Y:World) {O:List Orow} {ks:List (Nat×Obj)},Nd w0 X n p bv uv mv rk O ks Y->(b8,Obj.cells vs 37 (0,0))∈ks->Y.cell? ⟨X,0,none⟩=some bv/\Y.cell? ⟨X,1,none⟩=some uv/\Y.cell? ⟨X,2,none⟩=some mv/\Hs Y b8 0 vs:=fun Y O ks hY hk=>⟨hY.s.1,hY.s.2.1,hY.s.2.2,zw_ (hY.loose hk)⟩
   have HSof:=Lib.hid hSo2
   clear hSof hSo2
   refine zA_ (fun wx=>wx.cell? ⟨X,0,none⟩=some bv/\wx.cell? ⟨X,1,none⟩=some uv/\wx.cell? ⟨X,2,none⟩=some mv/\Hs wx b8 0 vs) 26 mx ?_
   generalize W.drew=V0 at h0 ⊢
   have s0:=HSof.out _ h0 (by simp)
   refine z1_ (i:=0) (v:=?_) rfl (by kernel_rfl) (fun _ _ _ h=>h) (by kernel_rfl) ?_ (fun _=>s0) ?_
   rotate_left
   ·(intro w9;go_simp;first|done|with_reducible rfl)
   try simp only[Act.put,zze_,zzi_,zzj_]
   refine z1_ (i:=1) (v:=?_) rfl (by kernel_rfl) (fun _ _ _ h=>h) (by kernel_rfl) ?_ (fun _=>s0) ?_
   rotate_left
   ·(intro w9;go_simp;first|done|with_reducible rfl)
   try simp only[Act.put,zze_,zzi_,zzj_]
   refine z1_ (i:=2) (v:=?_) rfl (by kernel_rfl) (fun _ _ _ h=>h) (by kernel_rfl) ?_ (fun _=>s0) ?_
   rotate_left
   ·(intro w9;go_simp;first|done|with_reducible rfl)
   try simp only[Act.put,zze_,zzi_,zzj_]
   refine z1_ (i:=3) (v:=?_) rfl (by kernel_rfl) (fun _ _ _ h=>h) (by kernel_rfl) ?_ (fun _=>s0) ?_
   rotate_left
   ·(intro w9;go_simp;first|done|with_reducible rfl)
   try simp only[Act.put,zze_,zzi_,zzj_]
   refine z1_ (i:=4) (v:=?_) rfl (by kernel_rfl) (fun _ _ _ h=>h) (by kernel_rfl) ?_ (fun _=>s0) ?_
   rotate_left
   ·(intro w9;go_simp;first|done|with_reducible rfl)
   try simp only[Act.put,zze_,zzi_,zzj_]
   refine z1_ (i:=5) (v:=?_) rfl (by kernel_rfl) (fun _ _ _ h=>h) (by kernel_rfl) ?_ (fun _=>s0) ?_
   rotate_left
   ·(intro w9;go_simp;first|done|with_reducible rfl)
   try simp only[Act.put,zze_,zzi_,zzj_]
   refine zs_ (i:=6) (v:=?_) rfl (by kernel_rfl) (by kernel_rfl) (fun _ _ _ h=>h) (by kernel_rfl) ?_ (fun _=>s0) ?_
   rotate_left
   ·(intro w9 hSw;(try dsimp only at hSw);obtain⟨S0,S1,S2,S3⟩:=hSw;clear S3;go_simp;first|done|with_reducible rfl)
   try simp only[Act.put,zze_,zzi_,zzj_]
   refine zs_ (i:=7) (v:=.agg vs) rfl (by kernel_rfl) (by kernel_rfl) (fun _ _ _ h=>h) (by kernel_rfl) (fun w9 hSw=>yG_ 37 _ rfl (u:=.pointer (some ⟨b8,0,none⟩)) rfl (sz37.ld HVS.out hSw.2.2.2)) (fun _=>s0) ?_
   try simp only[Act.put,zze_,zzi_,zzj_]
   refine z1_ (i:=10) (v:=?_) rfl (by kernel_rfl) (fun _ _ _ h=>h) (by kernel_rfl) ?_ (fun _=>s0) ?_
   rotate_left
   ·(intro w9;go_simp;first|done|with_reducible rfl)
   try simp only[Act.put,zze_,zzi_,zzj_]
   refine z1_ (i:=11) (v:=?_) rfl (by kernel_rfl) (fun _ _ _ h=>h) (by kernel_rfl) ?_ (fun _=>s0) ?_
   rotate_left
   ·(intro w9;go_simp;first|done|with_reducible rfl)
   try simp only[Act.put,zze_,zzi_,zzj_]
   refine z1_ (i:=12) (v:=?_) rfl (by kernel_rfl) (fun _ _ _ h=>h) (by kernel_rfl) ?_ (fun _=>s0) ?_
   rotate_left
   ·(intro w9;go_simp;first|done|with_reducible rfl)
   try simp only[Act.put,zze_,zzi_,zzj_]
   refine zs_ (i:=13) (v:=?_) rfl (by kernel_rfl) (by kernel_rfl) (fun _ _ _ h=>h) (by kernel_rfl) ?_ (fun _=>s0) ?_
   rotate_left
   ·(intro w9 hSw;(try dsimp only at hSw);obtain⟨S0,S1,S2,S3⟩:=hSw;clear S3;go_simp;first|done|with_reducible rfl)
   try simp only[Act.put,zze_,zzi_,zzj_]
   refine z1_ (i:=16) (v:=?_) rfl (by kernel_rfl) (fun _ _ _ h=>h) (by kernel_rfl) ?_ (fun _=>s0) ?_
   rotate_left
   ·(intro w9;go_simp;first|done|with_reducible rfl)
   try simp only[Act.put,zze_,zzi_,zzj_]
   refine z1_ (i:=17) (v:=?_) rfl (by kernel_rfl) (fun _ _ _ h=>h) (by kernel_rfl) ?_ (fun _=>s0) ?_
   rotate_left
   ·(intro w9;go_simp;first|done|with_reducible rfl)
   try simp only[Act.put,zze_,zzi_,zzj_]
   refine z1_ (i:=18) (v:=?_) rfl (by kernel_rfl) (fun _ _ _ h=>h) (by kernel_rfl) ?_ (fun _=>s0) ?_
   rotate_left
   ·(intro w9;go_simp;first|done|with_reducible rfl)
   try simp only[Act.put,zze_,zzi_,zzj_]
   refine zs_ (i:=19) (v:=?_) rfl (by kernel_rfl) (by kernel_rfl) (fun _ _ _ h=>h) (by kernel_rfl) ?_ (fun _=>s0) ?_
   rotate_left
   ·(intro w9 hSw;(try dsimp only at hSw);obtain⟨S0,S1,S2,S3⟩:=hSw;clear S3;go_simp;first|done|with_reducible rfl)
   try simp only[Act.put,zze_,zzi_,zzj_]
   refine z1_ (i:=20) (v:=?_) rfl (by kernel_rfl) (fun _ _ _ h=>h) (by kernel_rfl) ?_ (fun _=>s0) ?_
   rotate_left
   ·(intro w9;go_simp;first|done|with_reducible rfl)
   try simp only[Act.put,zze_,zzi_,zzj_]
   clear s0
   apply ns_ (C:=fun V kb gb cb ku gu cu kr km gm cm=>Nd w0 X n p bv uv mv rk ((((mkO n bv uv mv p sts rk).set 0 ⟨.slice (some ⟨gb,0,none⟩) (p+1) cb,37,9,p+1,((List.range p).flatMap fun i=>(sts i).toList)++vs.toList⟩).set 1 ⟨.slice (some ⟨gu,0,none⟩) (p+1) cu,4,1,p+1,List.replicate p (.bool true)++[.bool true]⟩).set 2 ⟨.slice (some ⟨gm,0,none⟩) (p+1) cm,66,1,p+1,((List.range p).map fun i=>.slice (some ⟨rk i,0,none⟩) n n)++[.slice (some ⟨kr,0,none⟩) n n]⟩) [(b8,.cells vs 37 (0,0)),(kb,.cells vs 37 (0,0)),(ku,.cells #[.bool true] 4 (0,0)),(kr,.cells (nils n) 58 (0,0)),(km,.cells #[.slice (some ⟨kr,0,none⟩) n n] 66 (0,0))] V)
   .intro H21211
    apply mo_ (C:=fun V kb gb cb ku gu cu kr km=>Nd w0 X n p bv uv mv rk (((mkO n bv uv mv p sts rk).set 0 ⟨.slice (some ⟨gb,0,none⟩) (p+1) cb,37,9,p+1,((List.range p).flatMap fun i=>(sts i).toList)++vs.toList⟩).set 1 ⟨.slice (some ⟨gu,0,none⟩) (p+1) cu,4,1,p+1,List.replicate p (.bool true)++[.bool true]⟩) [(b8,.cells vs 37 (0,0)),(kb,.cells vs 37 (0,0)),(ku,.cells #[.bool true] 4 (0,0)),(kr,.cells (nils n) 58 (0,0)),(km,.cells #[.slice (some ⟨kr,0,none⟩) n n] 66 (0,0))] V)
    .intro H21210
     apply mp_ (C:=fun V kb gb cb ku gu cu kr=>Nd w0 X n p bv uv mv rk (((mkO n bv uv mv p sts rk).set 0 ⟨.slice (some ⟨gb,0,none⟩) (p+1) cb,37,9,p+1,((List.range p).flatMap fun i=>(sts i).toList)++vs.toList⟩).set 1 ⟨.slice (some ⟨gu,0,none⟩) (p+1) cu,4,1,p+1,List.replicate p (.bool true)++[.bool true]⟩) [(b8,.cells vs 37 (0,0)),(kb,.cells vs 37 (0,0)),(ku,.cells #[.bool true] 4 (0,0)),(kr,.cells (nils n) 58 (0,0))] V)
     .intro H21110
      apply oY_ (C:=fun V kb gb cb ku gu cu=>Nd w0 X n p bv uv mv rk (((mkO n bv uv mv p sts rk).set 0 ⟨.slice (some ⟨gb,0,none⟩) (p+1) cb,37,9,p+1,((List.range p).flatMap fun i=>(sts i).toList)++vs.toList⟩).set 1 ⟨.slice (some ⟨gu,0,none⟩) (p+1) cu,4,1,p+1,List.replicate p (.bool true)++[.bool true]⟩) [(b8,.cells vs 37 (0,0)),(kb,.cells vs 37 (0,0)),(ku,.cells #[.bool true] 4 (0,0))] V)
      .intro H21010
       apply oY_ (C:=fun V kb gb cb ku kr km=>Nd w0 X n p bv uv mv rk ((mkO n bv uv mv p sts rk).set 0 ⟨.slice (some ⟨gb,0,none⟩) (p+1) cb,37,9,p+1,((List.range p).flatMap fun i=>(sts i).toList)++vs.toList⟩) [(b8,.cells vs 37 (0,0)),(kb,.cells vs 37 (0,0)),(ku,.cells #[.bool true] 4 (0,0)),(kr,.cells (nils n) 58 (0,0)),(km,.cells #[.slice (some ⟨kr,0,none⟩) n n] 66 (0,0))] V)
       .intro H21200
        apply oZ_ (C:=fun V kb gb cb ku kr=>Nd w0 X n p bv uv mv rk ((mkO n bv uv mv p sts rk).set 0 ⟨.slice (some ⟨gb,0,none⟩) (p+1) cb,37,9,p+1,((List.range p).flatMap fun i=>(sts i).toList)++vs.toList⟩) [(b8,.cells vs 37 (0,0)),(kb,.cells vs 37 (0,0)),(ku,.cells #[.bool true] 4 (0,0)),(kr,.cells (nils n) 58 (0,0))] V)
        .intro H21100
         apply qu_ (C:=fun V kb gb cb ku=>Nd w0 X n p bv uv mv rk ((mkO n bv uv mv p sts rk).set 0 ⟨.slice (some ⟨gb,0,none⟩) (p+1) cb,37,9,p+1,((List.range p).flatMap fun i=>(sts i).toList)++vs.toList⟩) [(b8,.cells vs 37 (0,0)),(kb,.cells vs 37 (0,0)),(ku,.cells #[.bool true] 4 (0,0))] V)
         .intro H21000
          apply oZ_ (C:=fun V kb gb cb kr km=>Nd w0 X n p bv uv mv rk ((mkO n bv uv mv p sts rk).set 0 ⟨.slice (some ⟨gb,0,none⟩) (p+1) cb,37,9,p+1,((List.range p).flatMap fun i=>(sts i).toList)++vs.toList⟩) [(b8,.cells vs 37 (0,0)),(kb,.cells vs 37 (0,0)),(kr,.cells (nils n) 58 (0,0)),(km,.cells #[.slice (some ⟨kr,0,none⟩) n n] 66 (0,0))] V)
          .intro H20200
           apply qu_ (C:=fun V kb gb cb kr=>Nd w0 X n p bv uv mv rk ((mkO n bv uv mv p sts rk).set 0 ⟨.slice (some ⟨gb,0,none⟩) (p+1) cb,37,9,p+1,((List.range p).flatMap fun i=>(sts i).toList)++vs.toList⟩) [(b8,.cells vs 37 (0,0)),(kb,.cells vs 37 (0,0)),(kr,.cells (nils n) 58 (0,0))] V)
           .intro H20100
            apply sQ_ (C:=fun V kb gb cb=>Nd w0 X n p bv uv mv rk ((mkO n bv uv mv p sts rk).set 0 ⟨.slice (some ⟨gb,0,none⟩) (p+1) cb,37,9,p+1,((List.range p).flatMap fun i=>(sts i).toList)++vs.toList⟩) [(b8,.cells vs 37 (0,0)),(kb,.cells vs 37 (0,0))] V)
            .intro H20000
             apply qu_ (C:=fun V kb ku kr km=>Nd w0 X n p bv uv mv rk (mkO n bv uv mv p sts rk) [(b8,.cells vs 37 (0,0)),(kb,.cells vs 37 (0,0)),(ku,.cells #[.bool true] 4 (0,0)),(kr,.cells (nils n) 58 (0,0)),(km,.cells #[.slice (some ⟨kr,0,none⟩) n n] 66 (0,0))] V)
             .intro H11200
              apply sQ_ (C:=fun V kb ku kr=>Nd w0 X n p bv uv mv rk (mkO n bv uv mv p sts rk) [(b8,.cells vs 37 (0,0)),(kb,.cells vs 37 (0,0)),(ku,.cells #[.bool true] 4 (0,0)),(kr,.cells (nils n) 58 (0,0))] V)
              .intro H11100
               apply sR_ (C:=fun V kb ku=>Nd w0 X n p bv uv mv rk (mkO n bv uv mv p sts rk) [(b8,.cells vs 37 (0,0)),(kb,.cells vs 37 (0,0)),(ku,.cells #[.bool true] 4 (0,0))] V)
               .intro H11000
                apply sQ_ (C:=fun V kb kr km=>Nd w0 X n p bv uv mv rk (mkO n bv uv mv p sts rk) [(b8,.cells vs 37 (0,0)),(kb,.cells vs 37 (0,0)),(kr,.cells (nils n) 58 (0,0)),(km,.cells #[.slice (some ⟨kr,0,none⟩) n n] 66 (0,0))] V)
                .intro H10200
                 apply sR_ (C:=fun V kb kr=>Nd w0 X n p bv uv mv rk (mkO n bv uv mv p sts rk) [(b8,.cells vs 37 (0,0)),(kb,.cells vs 37 (0,0)),(kr,.cells (nils n) 58 (0,0))] V)
                 .intro H10100
                  apply qv_ (C:=fun V kb=>Nd w0 X n p bv uv mv rk (mkO n bv uv mv p sts rk) [(b8,.cells vs 37 (0,0)),(kb,.cells vs 37 (0,0))] V)
                  .intro H10000
                   apply sQ_ (C:=fun V ku kr km=>Nd w0 X n p bv uv mv rk (mkO n bv uv mv p sts rk) [(b8,.cells vs 37 (0,0)),(ku,.cells #[.bool true] 4 (0,0)),(kr,.cells (nils n) 58 (0,0)),(km,.cells #[.slice (some ⟨kr,0,none⟩) n n] 66 (0,0))] V)
                   .intro H01200
                    apply sR_ (C:=fun V ku kr=>Nd w0 X n p bv uv mv rk (mkO n bv uv mv p sts rk) [(b8,.cells vs 37 (0,0)),(ku,.cells #[.bool true] 4 (0,0)),(kr,.cells (nils n) 58 (0,0))] V)
                    .intro H01100
                     apply qv_ (C:=fun V ku=>Nd w0 X n p bv uv mv rk (mkO n bv uv mv p sts rk) [(b8,.cells vs 37 (0,0)),(ku,.cells #[.bool true] 4 (0,0))] V)
                     .intro H01000
                      apply sR_ (C:=fun V kr km=>Nd w0 X n p bv uv mv rk (mkO n bv uv mv p sts rk) [(b8,.cells vs 37 (0,0)),(kr,.cells (nils n) 58 (0,0)),(km,.cells #[.slice (some ⟨kr,0,none⟩) n n] 66 (0,0))] V)
                      .intro H00200
                       apply qv_ (C:=fun V kr=>Nd w0 X n p bv uv mv rk (mkO n bv uv mv p sts rk) [(b8,.cells vs 37 (0,0)),(kr,.cells (nils n) 58 (0,0))] V)
                       .intro H00100
                        have h:=h0
                        refine y9_ (rs:=[8,14,21]) (by decide +kernel) ?_
                        refine z3_ rfl (fun K hK=>?_) ?_
                        .refine zm_ rfl (zI_ 29 _ rfl (u:=.agg vs) rfl (xV_ _ HVS.out)) ?_
                         obtain⟨V',kb,e,e1,h'⟩:=h.alloc hXl vs 37
                         rw[e,e1]
                         clear e e1
                         have s1:=HSof.out _ h' (by simp)
                         refine hK.out _ _ (fun _=>s1) ?_
                         try simp only[Act.put,zze_,zzi_,zzj_]
                         exact H10000 V' kb (h'.perm (by simp))
                        refine z3_ rfl (fun K hK=>?_) ?_
                        .refine zm_ rfl (zI_ 30 _ rfl (u:=.bool true) rfl (xp_ _)) ?_
                         obtain⟨V',ku,e,e1,h'⟩:=h.alloc hXl #[.bool true] 4
                         rw[e,e1]
                         clear e e1
                         have s1:=HSof.out _ h' (by simp)
                         refine hK.out _ _ (fun _=>s1) ?_
                         try simp only[Act.put,zze_,zzi_,zzj_]
                         exact H01000 V' ku (h'.perm (by simp))
                        refine z3_ rfl (fun K hK=>?_) ?_
                        .refine zm_ rfl (by go_simp;rw[xn_ hn9];rfl) ?_
                         obtain⟨V',kr,e,e1,h'⟩:=h.alloc hXl (nils n) 58
                         rw[e,e1]
                         clear e e1
                         have s1:=HSof.out _ h' (by simp)
                         refine hK.out _ _ (fun _=>s1) ?_
                         try simp only[Act.put,zze_,zzi_,zzj_]
                         exact H00100 V' kr (h'.perm (by simp))
                        exact AllG.nil
                       .intro V kr h
                        refine y9_ (rs:=[8,14,22]) (by decide +kernel) ?_
                        refine z3_ rfl (fun K hK=>?_) ?_
                        .refine zm_ rfl (zI_ 29 _ rfl (u:=.agg vs) rfl (xV_ _ HVS.out)) ?_
                         obtain⟨V',kb,e,e1,h'⟩:=h.alloc hXl vs 37
                         rw[e,e1]
                         clear e e1
                         have s1:=HSof.out _ h' (by simp)
                         refine hK.out _ _ (fun _=>s1) ?_
                         try simp only[Act.put,zze_,zzi_,zzj_]
                         exact H10100 V' kb kr (h'.perm (by simp))
                        refine z3_ rfl (fun K hK=>?_) ?_
                        .refine zm_ rfl (zI_ 30 _ rfl (u:=.bool true) rfl (xp_ _)) ?_
                         obtain⟨V',ku,e,e1,h'⟩:=h.alloc hXl #[.bool true] 4
                         rw[e,e1]
                         clear e e1
                         have s1:=HSof.out _ h' (by simp)
                         refine hK.out _ _ (fun _=>s1) ?_
                         try simp only[Act.put,zze_,zzi_,zzj_]
                         exact H01100 V' ku kr (h'.perm (by simp))
                        refine z3_ rfl (fun K hK=>?_) ?_
                        .refine zm_ rfl (zI_ 31 _ rfl (u:=.slice (some ⟨kr,0,none⟩) n n) rfl (xo_ _ kr n)) ?_
                         obtain⟨V',km,e,e1,h'⟩:=h.alloc hXl #[.slice (some ⟨kr,0,none⟩) n n] 66
                         rw[e,e1]
                         clear e e1
                         have s1:=HSof.out _ h' (by simp)
                         refine hK.out _ _ (fun _=>s1) ?_
                         try simp only[Act.put,zze_,zzi_,zzj_]
                         exact H00200 V' kr km (h'.perm (by simp))
                        exact AllG.nil
                      .intro V kr km h
                       refine y9_ (rs:=[8,14]) (by decide +kernel) ?_
                       refine z3_ rfl (fun K hK=>?_) ?_
                       .refine zm_ rfl (zI_ 29 _ rfl (u:=.agg vs) rfl (xV_ _ HVS.out)) ?_
                        obtain⟨V',kb,e,e1,h'⟩:=h.alloc hXl vs 37
                        rw[e,e1]
                        clear e e1
                        have s1:=HSof.out _ h' (by simp)
                        refine hK.out _ _ (fun _=>s1) ?_
                        try simp only[Act.put,zze_,zzi_,zzj_]
                        exact H10200 V' kb kr km (h'.perm (by simp))
                       refine z3_ rfl (fun K hK=>?_) ?_
                       .refine zm_ rfl (zI_ 30 _ rfl (u:=.bool true) rfl (xp_ _)) ?_
                        obtain⟨V',ku,e,e1,h'⟩:=h.alloc hXl #[.bool true] 4
                        rw[e,e1]
                        clear e e1
                        have s1:=HSof.out _ h' (by simp)
                        refine hK.out _ _ (fun _=>s1) ?_
                        try simp only[Act.put,zze_,zzi_,zzj_]
                        exact H01200 V' ku kr km (h'.perm (by simp))
                       exact AllG.nil
                     .intro V ku h
                      refine y9_ (rs:=[8,21]) (by decide +kernel) ?_
                      refine z3_ rfl (fun K hK=>?_) ?_
                      .refine zm_ rfl (zI_ 29 _ rfl (u:=.agg vs) rfl (xV_ _ HVS.out)) ?_
                       obtain⟨V',kb,e,e1,h'⟩:=h.alloc hXl vs 37
                       rw[e,e1]
                       clear e e1
                       have s1:=HSof.out _ h' (by simp)
                       refine hK.out _ _ (fun _=>s1) ?_
                       try simp only[Act.put,zze_,zzi_,zzj_]
                       exact H11000 V' kb ku (h'.perm (by simp))
                      refine z3_ rfl (fun K hK=>?_) ?_
                      .refine zm_ rfl (by go_simp;rw[xn_ hn9];rfl) ?_
                       obtain⟨V',kr,e,e1,h'⟩:=h.alloc hXl (nils n) 58
                       rw[e,e1]
                       clear e e1
                       have s1:=HSof.out _ h' (by simp)
                       refine hK.out _ _ (fun _=>s1) ?_
                       try simp only[Act.put,zze_,zzi_,zzj_]
                       exact H01100 V' ku kr (h'.perm (by simp))
                      exact AllG.nil
                    .intro V ku kr h
                     refine y9_ (rs:=[8,22]) (by decide +kernel) ?_
                     refine z3_ rfl (fun K hK=>?_) ?_
                     .refine zm_ rfl (zI_ 29 _ rfl (u:=.agg vs) rfl (xV_ _ HVS.out)) ?_
                      obtain⟨V',kb,e,e1,h'⟩:=h.alloc hXl vs 37
                      rw[e,e1]
                      clear e e1
                      have s1:=HSof.out _ h' (by simp)
                      refine hK.out _ _ (fun _=>s1) ?_
                      try simp only[Act.put,zze_,zzi_,zzj_]
                      exact H11100 V' kb ku kr (h'.perm (by simp))
                     refine z3_ rfl (fun K hK=>?_) ?_
                     .refine zm_ rfl (zI_ 31 _ rfl (u:=.slice (some ⟨kr,0,none⟩) n n) rfl (xo_ _ kr n)) ?_
                      obtain⟨V',km,e,e1,h'⟩:=h.alloc hXl #[.slice (some ⟨kr,0,none⟩) n n] 66
                      rw[e,e1]
                      clear e e1
                      have s1:=HSof.out _ h' (by simp)
                      refine hK.out _ _ (fun _=>s1) ?_
                      try simp only[Act.put,zze_,zzi_,zzj_]
                      exact H01200 V' ku kr km (h'.perm (by simp))
                     exact AllG.nil
                   .intro V ku kr km h
                    refine y9_ (rs:=[8]) (by decide +kernel) ?_
                    refine z3_ rfl (fun K hK=>?_) ?_
                    .refine zm_ rfl (zI_ 29 _ rfl (u:=.agg vs) rfl (xV_ _ HVS.out)) ?_
                     obtain⟨V',kb,e,e1,h'⟩:=h.alloc hXl vs 37
                     rw[e,e1]
                     clear e e1
                     have s1:=HSof.out _ h' (by simp)
                     refine hK.out _ _ (fun _=>s1) ?_
                     try simp only[Act.put,zze_,zzi_,zzj_]
                     exact H11200 V' kb ku kr km (h'.perm (by simp))
                    exact AllG.nil
                  .intro V kb h
                   refine y9_ (rs:=[9,14,21]) (by decide +kernel) ?_
                   refine z3_ rfl (fun K hK=>?_) ?_
                   .obtain⟨gb,cb,V',e,h'⟩:=h.ap37 hXl rfl (k:=kb) (by simp) HVS.out HONE.out hp1
                    refine zB_ rfl _ _ 29 29 rfl _ _ rfl rfl (e _) ?_
                    clear e
                    have s1:=HSof.out _ h' (by simp)
                    refine hK.out _ _ (fun _=>s1) ?_
                    try simp only[Act.put,zze_,zzi_,zzj_]
                    exact H20000 V' kb gb cb (h'.perm (by simp))
                   refine z3_ rfl (fun K hK=>?_) ?_
                   .refine zm_ rfl (zI_ 30 _ rfl (u:=.bool true) rfl (xp_ _)) ?_
                    obtain⟨V',ku,e,e1,h'⟩:=h.alloc hXl #[.bool true] 4
                    rw[e,e1]
                    clear e e1
                    have s1:=HSof.out _ h' (by simp)
                    refine hK.out _ _ (fun _=>s1) ?_
                    try simp only[Act.put,zze_,zzi_,zzj_]
                    exact H11000 V' kb ku (h'.perm (by simp))
                   refine z3_ rfl (fun K hK=>?_) ?_
                   .refine zm_ rfl (by go_simp;rw[xn_ hn9];rfl) ?_
                    obtain⟨V',kr,e,e1,h'⟩:=h.alloc hXl (nils n) 58
                    rw[e,e1]
                    clear e e1
                    have s1:=HSof.out _ h' (by simp)
                    refine hK.out _ _ (fun _=>s1) ?_
                    try simp only[Act.put,zze_,zzi_,zzj_]
                    exact H10100 V' kb kr (h'.perm (by simp))
                   exact AllG.nil
                 .intro V kb kr h
                  refine y9_ (rs:=[9,14,22]) (by decide +kernel) ?_
                  refine z3_ rfl (fun K hK=>?_) ?_
                  .obtain⟨gb,cb,V',e,h'⟩:=h.ap37 hXl rfl (k:=kb) (by simp) HVS.out HONE.out hp1
                   refine zB_ rfl _ _ 29 29 rfl _ _ rfl rfl (e _) ?_
                   clear e
                   have s1:=HSof.out _ h' (by simp)
                   refine hK.out _ _ (fun _=>s1) ?_
                   try simp only[Act.put,zze_,zzi_,zzj_]
                   exact H20100 V' kb gb cb kr (h'.perm (by simp))
                  refine z3_ rfl (fun K hK=>?_) ?_
                  .refine zm_ rfl (zI_ 30 _ rfl (u:=.bool true) rfl (xp_ _)) ?_
                   obtain⟨V',ku,e,e1,h'⟩:=h.alloc hXl #[.bool true] 4
                   rw[e,e1]
                   clear e e1
                   have s1:=HSof.out _ h' (by simp)
                   refine hK.out _ _ (fun _=>s1) ?_
                   try simp only[Act.put,zze_,zzi_,zzj_]
                   exact H11100 V' kb ku kr (h'.perm (by simp))
                  refine z3_ rfl (fun K hK=>?_) ?_
                  .refine zm_ rfl (zI_ 31 _ rfl (u:=.slice (some ⟨kr,0,none⟩) n n) rfl (xo_ _ kr n)) ?_
                   obtain⟨V',km,e,e1,h'⟩:=h.alloc hXl #[.slice (some ⟨kr,0,none⟩) n n] 66
                   rw[e,e1]
                   clear e e1
                   have s1:=HSof.out _ h' (by simp)
                   refine hK.out _ _ (fun _=>s1) ?_
                   try simp only[Act.put,zze_,zzi_,zzj_]
                   exact H10200 V' kb kr km (h'.perm (by simp))
                  exact AllG.nil
                .intro V kb kr km h
                 refine y9_ (rs:=[9,14]) (by decide +kernel) ?_
                 refine z3_ rfl (fun K hK=>?_) ?_
                 .obtain⟨gb,cb,V',e,h'⟩:=h.ap37 hXl rfl (k:=kb) (by simp) HVS.out HONE.out hp1
                  refine zB_ rfl _ _ 29 29 rfl _ _ rfl rfl (e _) ?_
                  clear e
                  have s1:=HSof.out _ h' (by simp)
                  refine hK.out _ _ (fun _=>s1) ?_
                  try simp only[Act.put,zze_,zzi_,zzj_]
                  exact H20200 V' kb gb cb kr km (h'.perm (by simp))
                 refine z3_ rfl (fun K hK=>?_) ?_
                 .refine zm_ rfl (zI_ 30 _ rfl (u:=.bool true) rfl (xp_ _)) ?_
                  obtain⟨V',ku,e,e1,h'⟩:=h.alloc hXl #[.bool true] 4
                  rw[e,e1]
                  clear e e1
                  have s1:=HSof.out _ h' (by simp)
                  refine hK.out _ _ (fun _=>s1) ?_
                  try simp only[Act.put,zze_,zzi_,zzj_]
                  exact H11200 V' kb ku kr km (h'.perm (by simp))
                 exact AllG.nil
               .intro V kb ku h
                refine y9_ (rs:=[9,21]) (by decide +kernel) ?_
                refine z3_ rfl (fun K hK=>?_) ?_
                .obtain⟨gb,cb,V',e,h'⟩:=h.ap37 hXl rfl (k:=kb) (by simp) HVS.out HONE.out hp1
                 refine zB_ rfl _ _ 29 29 rfl _ _ rfl rfl (e _) ?_
                 clear e
                 have s1:=HSof.out _ h' (by simp)
                 refine hK.out _ _ (fun _=>s1) ?_
                 try simp only[Act.put,zze_,zzi_,zzj_]
                 exact H21000 V' kb gb cb ku (h'.perm (by simp))
                refine z3_ rfl (fun K hK=>?_) ?_
                .refine zm_ rfl (by go_simp;rw[xn_ hn9];rfl) ?_
                 obtain⟨V',kr,e,e1,h'⟩:=h.alloc hXl (nils n) 58
                 rw[e,e1]
                 clear e e1
                 have s1:=HSof.out _ h' (by simp)
                 refine hK.out _ _ (fun _=>s1) ?_
                 try simp only[Act.put,zze_,zzi_,zzj_]
                 exact H11100 V' kb ku kr (h'.perm (by simp))
                exact AllG.nil
              .intro V kb ku kr h
               refine y9_ (rs:=[9,22]) (by decide +kernel) ?_
               refine z3_ rfl (fun K hK=>?_) ?_
               .obtain⟨gb,cb,V',e,h'⟩:=h.ap37 hXl rfl (k:=kb) (by simp) HVS.out HONE.out hp1
                refine zB_ rfl _ _ 29 29 rfl _ _ rfl rfl (e _) ?_
                clear e
                have s1:=HSof.out _ h' (by simp)
                refine hK.out _ _ (fun _=>s1) ?_
                try simp only[Act.put,zze_,zzi_,zzj_]
                exact H21100 V' kb gb cb ku kr (h'.perm (by simp))
               refine z3_ rfl (fun K hK=>?_) ?_
               .refine zm_ rfl (zI_ 31 _ rfl (u:=.slice (some ⟨kr,0,none⟩) n n) rfl (xo_ _ kr n)) ?_
                obtain⟨V',km,e,e1,h'⟩:=h.alloc hXl #[.slice (some ⟨kr,0,none⟩) n n] 66
                rw[e,e1]
                clear e e1
                have s1:=HSof.out _ h' (by simp)
                refine hK.out _ _ (fun _=>s1) ?_
                try simp only[Act.put,zze_,zzi_,zzj_]
                exact H11200 V' kb ku kr km (h'.perm (by simp))
               exact AllG.nil
             .intro V kb ku kr km h
              refine y9_ (rs:=[9]) (by decide +kernel) ?_
              refine z3_ rfl (fun K hK=>?_) ?_
              .obtain⟨gb,cb,V',e,h'⟩:=h.ap37 hXl rfl (k:=kb) (by simp) HVS.out HONE.out hp1
               refine zB_ rfl _ _ 29 29 rfl _ _ rfl rfl (e _) ?_
               clear e
               have s1:=HSof.out _ h' (by simp)
               refine hK.out _ _ (fun _=>s1) ?_
               try simp only[Act.put,zze_,zzi_,zzj_]
               exact H21200 V' kb gb cb ku kr km (h'.perm (by simp))
              exact AllG.nil
            .intro V kb gb cb h
             refine y9_ (rs:=[14,21]) (by decide +kernel) ?_
             refine z3_ rfl (fun K hK=>?_) ?_
             .refine zm_ rfl (zI_ 30 _ rfl (u:=.bool true) rfl (xp_ _)) ?_
              obtain⟨V',ku,e,e1,h'⟩:=h.alloc hXl #[.bool true] 4
              rw[e,e1]
              clear e e1
              have s1:=HSof.out _ h' (by simp)
              refine hK.out _ _ (fun _=>s1) ?_
              try simp only[Act.put,zze_,zzi_,zzj_]
              exact H21000 V' kb gb cb ku (h'.perm (by simp))
             refine z3_ rfl (fun K hK=>?_) ?_
             .refine zm_ rfl (by go_simp;rw[xn_ hn9];rfl) ?_
              obtain⟨V',kr,e,e1,h'⟩:=h.alloc hXl (nils n) 58
              rw[e,e1]
              clear e e1
              have s1:=HSof.out _ h' (by simp)
              refine hK.out _ _ (fun _=>s1) ?_
              try simp only[Act.put,zze_,zzi_,zzj_]
              exact H20100 V' kb gb cb kr (h'.perm (by simp))
             exact AllG.nil
           .intro V kb gb cb kr h
            refine y9_ (rs:=[14,22]) (by decide +kernel) ?_
            refine z3_ rfl (fun K hK=>?_) ?_
            .refine zm_ rfl (zI_ 30 _ rfl (u:=.bool true) rfl (xp_ _)) ?_
             obtain⟨V',ku,e,e1,h'⟩:=h.alloc hXl #[.bool true] 4
             rw[e,e1]
             clear e e1
             have s1:=HSof.out _ h' (by simp)
             refine hK.out _ _ (fun _=>s1) ?_
             try simp only[Act.put,zze_,zzi_,zzj_]
             exact H21100 V' kb gb cb ku kr (h'.perm (by simp))
            refine z3_ rfl (fun K hK=>?_) ?_
            .refine zm_ rfl (zI_ 31 _ rfl (u:=.slice (some ⟨kr,0,none⟩) n n) rfl (xo_ _ kr n)) ?_
             obtain⟨V',km,e,e1,h'⟩:=h.alloc hXl #[.slice (some ⟨kr,0,none⟩) n n] 66
             rw[e,e1]
             clear e e1
             have s1:=HSof.out _ h' (by simp)
             refine hK.out _ _ (fun _=>s1) ?_
             try simp only[Act.put,zze_,zzi_,zzj_]
             exact H20200 V' kb gb cb kr km (h'.perm (by simp))
            exact AllG.nil
          .intro V kb gb cb kr km h
           refine y9_ (rs:=[14]) (by decide +kernel) ?_
           refine z3_ rfl (fun K hK=>?_) ?_
           .refine zm_ rfl (zI_ 30 _ rfl (u:=.bool true) rfl (xp_ _)) ?_
            obtain⟨V',ku,e,e1,h'⟩:=h.alloc hXl #[.bool true] 4
            rw[e,e1]
            clear e e1
            have s1:=HSof.out _ h' (by simp)
            refine hK.out _ _ (fun _=>s1) ?_
            try simp only[Act.put,zze_,zzi_,zzj_]
            exact H21200 V' kb gb cb ku kr km (h'.perm (by simp))
           exact AllG.nil
         .intro V kb gb cb ku h
          refine y9_ (rs:=[15,21]) (by decide +kernel) ?_
          refine z3_ rfl (fun K hK=>?_) ?_
          .obtain⟨gu,cu,V',e,h'⟩:=h.ap4 hXl rfl (k:=ku) (by simp) hp1
           refine zB_ rfl _ _ 30 30 rfl _ _ rfl rfl (e _) ?_
           clear e
           have s1:=HSof.out _ h' (by simp)
           refine hK.out _ _ (fun _=>s1) ?_
           try simp only[Act.put,zze_,zzi_,zzj_]
           exact H21010 V' kb gb cb ku gu cu (h'.perm (by simp))
          refine z3_ rfl (fun K hK=>?_) ?_
          .refine zm_ rfl (by go_simp;rw[xn_ hn9];rfl) ?_
           obtain⟨V',kr,e,e1,h'⟩:=h.alloc hXl (nils n) 58
           rw[e,e1]
           clear e e1
           have s1:=HSof.out _ h' (by simp)
           refine hK.out _ _ (fun _=>s1) ?_
           try simp only[Act.put,zze_,zzi_,zzj_]
           exact H21100 V' kb gb cb ku kr (h'.perm (by simp))
          exact AllG.nil
        .intro V kb gb cb ku kr h
         refine y9_ (rs:=[15,22]) (by decide +kernel) ?_
         refine z3_ rfl (fun K hK=>?_) ?_
         .obtain⟨gu,cu,V',e,h'⟩:=h.ap4 hXl rfl (k:=ku) (by simp) hp1
          refine zB_ rfl _ _ 30 30 rfl _ _ rfl rfl (e _) ?_
          clear e
          have s1:=HSof.out _ h' (by simp)
          refine hK.out _ _ (fun _=>s1) ?_
          try simp only[Act.put,zze_,zzi_,zzj_]
          exact H21110 V' kb gb cb ku gu cu kr (h'.perm (by simp))
         refine z3_ rfl (fun K hK=>?_) ?_
         .refine zm_ rfl (zI_ 31 _ rfl (u:=.slice (some ⟨kr,0,none⟩) n n) rfl (xo_ _ kr n)) ?_
          obtain⟨V',km,e,e1,h'⟩:=h.alloc hXl #[.slice (some ⟨kr,0,none⟩) n n] 66
          rw[e,e1]
          clear e e1
          have s1:=HSof.out _ h' (by simp)
          refine hK.out _ _ (fun _=>s1) ?_
          try simp only[Act.put,zze_,zzi_,zzj_]
          exact H21200 V' kb gb cb ku kr km (h'.perm (by simp))
         exact AllG.nil
       .intro V kb gb cb ku kr km h
        refine y9_ (rs:=[15]) (by decide +kernel) ?_
        refine z3_ rfl (fun K hK=>?_) ?_
        .obtain⟨gu,cu,V',e,h'⟩:=h.ap4 hXl rfl (k:=ku) (by simp) hp1
         refine zB_ rfl _ _ 30 30 rfl _ _ rfl rfl (e _) ?_
         clear e
         have s1:=HSof.out _ h' (by simp)
         refine hK.out _ _ (fun _=>s1) ?_
         try simp only[Act.put,zze_,zzi_,zzj_]
         exact H21210 V' kb gb cb ku gu cu kr km (h'.perm (by simp))
        exact AllG.nil
      .intro V kb gb cb ku gu cu h
       refine y9_ (rs:=[21]) (by decide +kernel) ?_
       refine z3_ rfl (fun K hK=>?_) ?_
       .refine zm_ rfl (by go_simp;rw[xn_ hn9];rfl) ?_
        obtain⟨V',kr,e,e1,h'⟩:=h.alloc hXl (nils n) 58
        rw[e,e1]
        clear e e1
        have s1:=HSof.out _ h' (by simp)
        refine hK.out _ _ (fun _=>s1) ?_
        try simp only[Act.put,zze_,zzi_,zzj_]
        exact H21110 V' kb gb cb ku gu cu kr (h'.perm (by simp))
       exact AllG.nil
     .intro V kb gb cb ku gu cu kr h
      refine y9_ (rs:=[22]) (by decide +kernel) ?_
      refine z3_ rfl (fun K hK=>?_) ?_
      .refine zm_ rfl (zI_ 31 _ rfl (u:=.slice (some ⟨kr,0,none⟩) n n) rfl (xo_ _ kr n)) ?_
       obtain⟨V',km,e,e1,h'⟩:=h.alloc hXl #[.slice (some ⟨kr,0,none⟩) n n] 66
       rw[e,e1]
       clear e e1
       have s1:=HSof.out _ h' (by simp)
       refine hK.out _ _ (fun _=>s1) ?_
       try simp only[Act.put,zze_,zzi_,zzj_]
       exact H21210 V' kb gb cb ku gu cu kr km (h'.perm (by simp))
      exact AllG.nil
    .intro V kb gb cb ku gu cu kr km h
     refine y9_ (rs:=[23]) (by decide +kernel) ?_
     refine z3_ rfl (fun K hK=>?_) ?_
     .obtain⟨gm,cm,V',e,h'⟩:=h.ap66 hXl rfl (k:=km) (kr:=kr) (by simp) hp1
      refine zB_ rfl _ _ 31 31 rfl _ _ rfl rfl (e _) ?_
      clear e
      have s1:=HSof.out _ h' (by simp)
      refine hK.out _ _ (fun _=>s1) ?_
      try simp only[Act.put,zze_,zzi_,zzj_]
      exact H21211 V' kb gb cb ku gu cu kr km gm cm (h'.perm (by simp))
     exact AllG.nil
   .intro V kb gb cb ku gu cu kr km gm cm h
    have s0:=HSof.out _ h (by simp)
    refine z1_ (i:=24) (v:=?_) rfl (by kernel_rfl) (fun _ _ _ h=>h) (by kernel_rfl) ?_ (fun _=>s0) ?_
    rotate_left
    ·(intro w9;go_simp;first|done|with_reducible rfl)
    try simp only[Act.put,zze_,zzi_,zzj_]
    refine z1_ (i:=25) (v:=?_) rfl (by kernel_rfl) (fun _ _ _ h=>h) (by kernel_rfl) ?_ (fun _=>s0) ?_
    rotate_left
    ·(intro w9;go_simp;first|done|with_reducible rfl)
    try simp only[Act.put,zze_,zzi_,zzj_]
    refine zY_ (by kernel_rfl) (by kernel_rfl) (by decide) ?_
    simp only[List.drop_succ_cons,List.drop_zero]
    obtain⟨V7,V8,V9,⟨q2,f2⟩,e7,⟨q3,f3⟩,e8,⟨q4,f4⟩,e9,hm9⟩:=h.st hXl rfl (by simp) HSTS.out HF.out
    have HM1:=Lib.hid hm9
    clear h s0 hm9
    go_wp2
    go_roundg (gk-1)
    case measure=>have:=HP.out;omega
    case rel=>exact⟨p+1,rfl,by have:=HP.out;omega,HM1.out⟩
  .have hpz:¬(p:Int)<(n:Int):=by omega
   have hpe:p=n:=by have:=HP.out;omega
   subst hpe
   obtain⟨T,hd,hnet,hT0,hbel⟩:=mN_ (g1:=g) (w1:=w) HI.out h1n h4n HB.out.1 HB.out.2.1 HB.out.2.2 HLT.out
   obtain⟨W,hW⟩:∃W,wr.alloc (.cells #[.slice LA l.length LC,.int .i64 0] 69)=W:=⟨_,rfl⟩
   have hbW:Below wr.heap.size wr W:=by rw[<-hW];exact zV_ wr _
   have hKb:W.heap[wr.heap.size]?=some (.cells #[.slice LA l.length LC,.int .i64 0] 69 (0,0)):=by rw[<-hW];exact heap_alloc_new wr _
   have hWs:W.heap.size=wr.heap.size+1:=by rw[<-hW];simp
   obtain⟨K,hK⟩:∃K,wr.heap.size=K:=⟨_,rfl⟩
   rw[hK]at hKb hWs
   have hnW:=hnet.below hbW
   have hKT:T K=0:=by
    by_cases h0:T K=0
    .exact h0
    .have:=(hnet.tz K h0).1;omega
   have hIk:∀b o,o<g.I b->o<g.I b/\W.cell? ⟨b,o,none⟩=w.cell? ⟨b,o,none⟩:=fun b o ho=>by
    have hb:=HLT.out b (by omega)
    refine⟨ho,yyb_ (a:=⟨b,o,none⟩) ((hbW.block b ?_).trans (hbel.block b hb))⟩
    have:=hbel.size
    show b<wr.heap.size
    omega
   have hpl:Pl g w K X p l 0 0 (R0 p) (fun _=>true) (fun _ _=>[]) T g hd W:=by
    refine⟨hnW,⟨⟨.slice LA l.length LC,69,hKb,zO_ HLV.out rfl hIk⟩,hnW.Ilt,?_⟩,hKT,⟨by have:=hbel.size;omega,by omega⟩,hbel.trans (Below.mono1 hbW hbel.size),hT0,fun _ _=>rfl,h1n,.start⟩
    by_cases h0:0<g.I K
    .have:=HLT.out K h0;have:=hbel.size;omega
    .omega
   have HPL:=Lib.hid hpl
   have hXK:wr.heap.size=K:=hK
   clear hnet hT0 hbel hbW hKb hnW hKT hIk hpl hWs HBs HXc HSTS HI HB HMK HP HLV
   go_wp2
   clear hW hXK hK
   go_loopg [] l.length (fun kx wx=>∃k j R U M T g' h,k+kx=l.length/\(3*j<=k\/(k=l.length/\3*j<=k+2))/\Pl g w K X p l k j R U M T g' h wx)
   case atStart=>exact⟨0,0,R0 p,fun _=>true,fun _ _=>[],T,g,hd,by omega,.inl (by omega),HPL.out⟩
   case round =>
    obtain⟨k,j,R,U,M,T',g',h',hk,hc3,hI⟩:=hrel
    have HI:=Lib.hid hI
    have HK1:=Lib.hid hk
    by_cases hm:k<l.length
    .obtain⟨c,hc,hc8⟩:=p4_ l k (m:=10) (by omega)
     obtain⟨a,ha,ha2⟩:=p4_ l (nat1 l k) (m:=12) (by omega)
     obtain⟨b,hb,hb2⟩:=p4_ l (nat1 l (nat1 l k)) (m:=12) (by omega)
     have hc':nxt l k 10=(c:Int):=hc
     have ha':nxt l (nat1 l k) 12=(a:Int):=ha
     have hb':nxt l (nat1 l (nat1 l k)) 12=(b:Int):=hb
     have hn1:nat1 l k=k+1:=by simp[nat1,hm]
     have hn2:=p8_ (xs:=l) (k:=nat1 l k) (by omega)
     have hn3:=p8_ (xs:=l) (k:=nat1 l (nat1 l k)) (by omega)
     have z0:k<=1000:=by omega
     have z1:nat1 l k<=1000:=by omega
     have z2:nat1 l (nat1 l k)<=1000:=by omega
     have z3:l.length<=1000:=by omega
     have Z:k+1<=nat1 l (nat1 l (nat1 l k))/\nat1 l (nat1 l (nat1 l k))<=l.length:=by omega
     have hd1:decide (k<l.length)=true:=by simp[hm]
     have HH:=Lib.hid Z
     have hj:j<=1000:=by omega
     have Z4:3*(j+1)<=nat1 l (nat1 l (nat1 l k))\/(nat1 l (nat1 l (nat1 l k))=l.length/\3*(j+1)<=nat1 l (nat1 l (nat1 l k))+2):=by
      exact mL_ hm (by omega)
     have HZ4:=Lib.hid Z4
     clear hc3 Z4
     clear hI hk hc ha hb hn1 hn2 hn3 Z
     go_wp2_with (first
      | (go_at_call 16
         refine(HI.out.more z0 z3).mono ?_
         rintro e w2 ⟨rfl,hp⟩
         have HI:=Lib.hid hp
         clear hp)
      | (go_at_call 18
         refine(HI.out.next (by assumption) z3 (by omega) (by omega)).mono ?_
         rintro e w2 ⟨g2,rfl,hp⟩
         have HI:=Lib.hid hp
         clear hp)
      | (go_at_call 17
         (try rw[hc',ha',hb'])
         refine(HI.out.step (by omega) hc8 (by omega) (by omega)).mono ?_
         rintro e w2 ⟨R2,U2,M2,T2,g2,h2,rfl,hp⟩
         have HI:=Lib.hid hp
         clear hp)
      | (go_at_call 19
         refine(HI.out.one (by omega)).mono ?_
         rintro e w2 ⟨rfl,hp⟩
         have HI:=Lib.hid hp
         clear hp))
     all_goals go_wp2
     all_goals go_roundg (l.length-nat1 l (nat1 l (nat1 l k)))
     case measure=>have:=HH.out;have:=HK1.out;omega
     case rel=>exact⟨nat1 l (nat1 l (nat1 l k)),j+1,R2,U2,M2,T2,g2,h2,by have:=HH.out;omega,HZ4.out,HI.out⟩
    .have hd1:decide (k<l.length)=false:=by simp;omega
     have z0:k<=1000:=by omega
     have z3:l.length<=1000:=by omega
     have hke:k=l.length:=by omega
     have HJ:=Lib.hid (And.intro hke hc3)
     clear hI hk hc3 hke
     go_wp2_with (go_at_call 16
                  refine(HI.out.more z0 z3).mono ?_
                  rintro e w2 ⟨rfl,hp⟩
                  have HI:=Lib.hid hp
                  clear hp)
     go_wp2
     go_ret2
     exact⟨X,K,j,R,U,M,T',g',h',rfl,by have:=HJ.out;omega,by have:=HI.out;rwa [HJ.out.1]at this⟩
theorem oS_(l:List Int):PC Try.prog 6 [.list 1 (iv l)] (fun r=>r=.s (.bool (decide (l.length<=400)))):=by
 refine zx_ c6 zN_ rfl ?_
 have e:((l.length:Int)<=400)↔l.length<=400:=by omega
 simp -implicitDefEqProofs [a6,F6,e,iv_length]
def s0W:RG.Rs:=⟨0,false,false,[],newT 0⟩
def s1W:RG.Rs:=⟨0,false,false,[],newT 1⟩
def b1W:RG.Rs:=⟨1,false,true,[false,true],⟨false,false,false,-1,-1⟩⟩
def p0W:RG.Rs:=⟨1,false,false,[],⟨false,false,false,1,-1⟩⟩
def m1W:RG.Rs:=⟨1,false,false,[],⟨true,false,false,-1,-1⟩⟩
theorem wB:RG.beginR 2 1 s1W=(b1W,[(0,⟨.prm,1,0⟩)]):=by decide
theorem wH0:RG.hearR s0W 0 1 ⟨.prm,1,0⟩=some (p0W,[(1,⟨.prd,1,0⟩)]):=by decide
theorem wH1:RG.hearR b1W 1 0 ⟨.prd,1,0⟩=some (m1W,[]):=by decide
theorem k0:s0W.ok 2 0:=by constructor<;>first|decide|(simp[s0W,Tk.ok,newT];done)|(simp[s0W];constructor<;>decide)
theorem k1:s1W.ok 2 1:=by constructor<;>first|decide|(simp[s1W,Tk.ok,newT];done)|(simp[s1W];constructor<;>decide)
theorem kb:b1W.ok 2 1:=by constructor<;>first|decide|(simp[b1W,Tk.ok,newT];done)|(simp[b1W];constructor<;>decide)
theorem kp:p0W.ok 2 0:=by constructor<;>first|decide|(simp[p0W,Tk.ok,newT];done)|(simp[p0W];constructor<;>decide)
theorem km:m1W.ok 2 1:=by constructor<;>first|decide|(simp[m1W,Tk.ok,newT];done)|(simp[m1W];constructor<;>decide)
theorem oN_:PC Try.prog 7 [] (fun r=>r=.s (.bool true)):=by
 have cN0:=sE_ 0 2 (by decide)
 have cN1:=sE_ 1 2 (by decide)
 have cB:=vT_ k1 (by decide)
 rw[wB]at cB
 have cH0:=uZ_ (m:=⟨.prm,1,0⟩) (j:=1) k0 (by constructor<;>decide) (by decide) (by decide) (by decide) (by decide)
 rw[xv_,wH0]at cH0
 have cH1:=uZ_ (m:=⟨.prd,1,0⟩) (j:=0) kb (by constructor<;>decide) (by decide) (by decide) (by decide) (by decide)
 rw[xv_,wH1]at cH1
 have cV0:=zW_ kp
 have cV1:=zW_ km
 have z0:((0:Nat):Int)=0:=rfl
 have z1:((1:Nat):Int)=1:=rfl
 have z2:((2:Nat):Int)=2:=rfl
 have n0:newT 0=⟨true,false,false,-1,-1⟩:=by decide
 have n1:newT 1=⟨false,false,false,0,-1⟩:=by decide
 simp only[rv,rw_,lv,ou,mv,pc,mc,kk,s0W,s1W,b1W,p0W,m1W,z0,z1,z2,n0,n1,List.map_nil,List.map_cons]at cN0 cN1 cB cH0 cH1 cV0 cV1
 refine zx_ c7 zN_ rfl ?_
 simp -implicitDefEqProofs [a7,F7]
 refine z5_ ?_
 simp -implicitDefEqProofs
 refine zj_ cN0 (by simp) (by simp) ?_
 rintro _ rfl
 simp -implicitDefEqProofs
 refine z5_ ?_
 simp -implicitDefEqProofs
 refine zj_ cN1 (by simp) (by simp) ?_
 rintro _ rfl
 simp -implicitDefEqProofs
 refine z5_ ?_
 simp -implicitDefEqProofs
 refine zj_ cB (by simp) (by simp) ?_
 rintro _ rfl
 simp -implicitDefEqProofs
 refine sF_ ?_
 simp -implicitDefEqProofs
 refine oW_ cH0 (by simp) (by simp) ?_
 simp -implicitDefEqProofs
 refine sF_ ?_
 simp -implicitDefEqProofs
 refine oW_ cH1 (by simp) (by simp) ?_
 simp -implicitDefEqProofs
 refine z5_ ?_
 simp -implicitDefEqProofs
 refine zj_ cV0 (by simp) (by simp) ?_
 rintro _ rfl
 simp -implicitDefEqProofs
 refine z5_ ?_
 simp -implicitDefEqProofs
 refine zj_ cV1 (by simp) (by simp) ?_
 rintro _ rfl
 simp -implicitDefEqProofs
theorem wh_{g:Gh}{w:World}(hlt:∀k,0<g.I k->k<w.heap.size):Calls Try.prog 7 #[] w fun e w'=>e=.returned (.bool true)/\Below w.heap.size w w':=by
 refine(xL_ oN_ (g:=g) (w:=w) (vals:=#[]) rfl (by intro x hx;simp at hx) (by intro i x v hx;simp at hx) hlt).mono ?_
 rintro e w' ⟨v,r,g',rfl,rfl,hr,hb,_⟩
 have:=hr.of_s rfl
 subst this
 exact⟨rfl,hb⟩
theorem ss_{g:Gh}{w:World}(hlt:∀k,0<g.I k->k<w.heap.size){l:List Int}{lv:Value}(hlv:Rep g w (.list 1 (iv l)) lv):Calls Try.prog 6 #[lv] w fun e w'=>e=.returned (.bool (decide (l.length<=400)))/\Below w.heap.size w w':=by
 refine(xL_ (oS_ l) (g:=g) (w:=w) (vals:=#[lv]) rfl ?_ ?_ hlt).mono ?_
 .intro x hx
  simp at hx
  subst hx
  rfl
 .intro i x v hx hv
  match i,hx,hv with
  |0,hx,hv=>cases hx;cases hv;exact hlv
 .rintro e w' ⟨v,r,g',rfl,rfl,hr,hb,_⟩
  have:=hr.of_s rfl
  subst this
  exact⟨rfl,hb⟩
theorem rQ_{g:Gh}{w w':World}{l:List Int}{lv:Value}(hlt:∀k,0<g.I k->k<w.heap.size)(hlv:Rep g w (.list 1 (iv l)) lv)(hb:Below w.heap.size w w'):Rep g w' (.list 1 (iv l)) lv :=
 zO_ hlv rfl fun b o ho=>⟨ho,yyb_ (a:=⟨b,o,none⟩) (hb.block b (hlt b (by omega)))⟩
end Go.Proofs.Ytnbppaolinopeaa
namespace Go.Proofs.Ytnbppaolinopeaa.RG
def sw(c:Rm->Nat)(l:List Rm):Nat:=(l.map c).sum
def SS(n:Nat)(c:Rm->Nat)(M:Nat->Nat->List Rm):Nat:=sumN n fun i=>sumN n fun j=>sw c (M i j)
def so(c:Rm->Nat)(o:Out):Nat:=(o.map fun p=>c p.2).sum
def uN(n:Nat)(R:Nat->Rs):Nat:=sumN n fun i=>(R i).tk.using_.toNat
def w1:Rm->Nat:=fun _=>1
def w2:Rm->Nat:=fun m=>if m.k=.prm then 2 else 1
def QQ(n:Nat)(R:Nat->Rs)(M:Nat->Nat->List Rm):Nat:=SS n w2 M+uN n R
section
variable{n:Nat}{c:Rm->Nat}{R:Nat->Rs}{M M':Nat->Nat->List Rm}
theorem ng_{i j:Nat}(hi:i<n)(hj:j<n)(h:∀a b,¬(a=i/\b=j)->M' a b=M a b):SS n c M'+sw c (M i j)=SS n c M+sw c (M' i j):=by
 unfold SS
 have h1:sumN n (fun b=>sw c (M' i b))+sw c (M i j)=sumN n (fun b=>sw c (M i b))+sw c (M' i j) :=
  wj_ (f:=fun b=>sw c (M i b)) (g:=fun b=>sw c (M' i b)) hj fun k _ hk=>by
   show sw c _=sw c _
   rw[h i k fun q=>hk q.2]
 have h2:=wj_ (f:=fun a=>sumN n fun b=>sw c (M a b)) (g:=fun a=>sumN n fun b=>sw c (M' a b)) hi fun k _ hk=>by
  refine wH_ fun b _=>?_
  rw[h k b fun q=>hk q.1]
 omega
theorem pN_{i j:Nat}{m:Rm}{r:List Rm}(hi:i<n)(hj:j<n)(hM:M i j=m::r):SS n c (pop M i j)+c m=SS n c M:=by
 have h:=ng_ (c:=c) (M:=M) (M':=pop M i j) hi hj fun a b q=>by unfold pop;rw[if_neg q]
 have e1:pop M i j i j=r:=by unfold pop;rw[if_pos ⟨rfl,rfl⟩,hM];rfl
 rw[e1,hM]at h
 simp only[sw,List.map_cons,List.sum_cons]at h
 omega
theorem ma_{i j:Nat}{m:Rm}(hi:i<n)(hj:j<n):SS n c (put1 M i ((j:Int),m))=SS n c M+c m:=by
 have h:=ng_ (c:=c) (M:=M) (M':=put1 M i ((j:Int),m)) hi hj fun a b q=>by
  unfold put1
  rw[if_neg]
  rintro⟨q1,q2⟩
  simp only at q2
  exact q ⟨q1,by omega⟩
 have e1:put1 M i ((j:Int),m) i j=M i j++[m]:=by unfold put1;rw[if_pos ⟨rfl,rfl⟩]
 rw[e1]at h
 simp only[sw,List.map_append,List.map_cons,List.map_nil,List.sum_append,List.sum_cons,List.sum_nil]at h
 omega
theorem rv_{s:Nat}(hs:s<n):∀ {o:Out} {M:Nat->Nat->List Rm},(∀p∈o,0<=p.1/\p.1<n)->SS n c (put M s o)=SS n c M+so c o
 |[],M,_=>by simp[put,so]
 | p :: r, M, h => by
   have h1:=rv_ hs (o:=r) (M:=put1 M s p) fun q hq=>h q (by simp[hq])
   obtain⟨a,b⟩:=h p (by simp)
   obtain⟨k,m⟩:=p
   obtain⟨j,rfl⟩:∃j:Nat,k=j:=⟨k.toNat,by simp only at a;omega⟩
   have h2:=ma_ (c:=c) (M:=M) (m:=m) hs (show j<n by simp only at b;omega)
   show SS n c (put (put1 M s ((j:Int),m)) s r)=_
   rw[h1,h2]
   simp only[so,List.map_cons,List.sum_cons]
   omega
theorem qp_{s:Nat}(hs:s<n)(r:Rs):uN n (updR R s r)+(R s).tk.using_.toNat=uN n R+r.tk.using_.toNat:=by
 have h:=wj_ (f:=fun i=>(R i).tk.using_.toNat) (g:=fun i=>(updR R s r i).tk.using_.toNat) hs fun k _ hk=>by
  show (updR R s r k).tk.using_.toNat=_
  rw[updR_ne hk]
 simp only[updR_s]at h
 exact h
theorem sb_{f g:Nat->Nat}:∀ {n:Nat},(∀i,i<n->f i<=g i)->sumN n f<=sumN n g
 |0,_=>zzl_ _
 | n + 1, h => by
   rw[yu_,yu_]
   have:=sb_ (n:=n) fun i hi=>h i (by omega)
   have:=h n (by omega)
   omega
theorem lg_:SS n w1 M<=SS n w2 M:=by
 refine sb_ fun i _=>sb_ fun j _=>?_
 unfold sw
 induction M i j with
 |nil=>exact zzl_ _
 | cons m r ih =>
   simp only[List.map_cons,List.sum_cons]
   have:w1 m<=w2 m:=by unfold w1 w2;split<;>omega
   omega
theorem so1(o:Out):so w1 o=o.length:=by
 unfold so w1
 induction o with
 |nil=>rfl
 |cons p r ih=>simp only[List.map_cons,List.sum_cons,List.length_cons]at ih ⊢;omega
theorem rE_{o:Out}(h:∀p∈o,p.2.k≠.prm):so w2 o=o.length:=by
 unfold so
 induction o with
 |nil=>rfl
 | cons p r ih =>
   have h1:=ih fun q hq=>h q (by simp[hq])
   have h2:w2 p.2=1:=by unfold w2;rw[if_neg (h p (by simp))]
   simp only[List.map_cons,List.sum_cons,List.length_cons,h2]
   omega
theorem x2_(e:Nat)(l:List Ms):∀p∈posts e l,p.2.k≠.prm:=fun p hp=>by
 unfold posts at hp
 obtain⟨m,_,rfl⟩:=List.mem_map.1 hp
 unfold toRm
 simp only
 split<;>simp
theorem n4_(r:Rs):(made r).2.length+(made r).1.tk.using_.toNat<=1+r.tk.using_.toNat/\(∀p∈(made r).2,p.2.k≠.prm):=by
 unfold made
 split
 .refine⟨?_,fun p hp=>by cases hp⟩
  simp only[List.length_nil]
  show 0+1<=_
  omega
 .split
  .exact⟨by simp only[List.length_nil];omega,fun p hp=>by cases hp⟩
  .refine⟨by simp only[List.length_cons,List.length_nil];omega,fun p hp=>?_⟩
   rw[List.mem_singleton]at hp
   subst hp
   simp
theorem r7_{r r':Rs}{i j:Nat}{m:Rm}{o:Out}(h:hearR r i j m=some (r',o)):so w2 o+r'.tk.using_.toNat<=w2 m+r.tk.using_.toNat/\(∀p∈o,p.2.k≠.prm):=by
 unfold hearR at h
 obtain⟨k,e,s⟩:=m
 cases k with
 | prm =>
   simp only at h
   split at h
   .cases h
   .injection h with h
    unfold promR at h
    simp only at h
    split at h
    .injection h with h1 h2
     subst h1 h2
     refine⟨?_,fun p hp=>?_⟩
     .show 1+(1+0)+0<=2+_
      omega
     .simp only[List.mem_cons,List.not_mem_nil,or_false]at hp
      rcases hp with rfl|rfl<;>simp
    .injection h with h1 h2
     subst h1 h2
     refine⟨?_,fun p hp=>?_⟩
     .show 1+0+0<=2+_
      omega
     .rw[List.mem_singleton]at hp
      subst hp
      simp
 | prd =>
   simp only at h
   split at h
   .cases h
   .injection h with h
    unfold prdR at h
    simp only at h
    split at h
    .have:=n4_ { r with prom:=r.prom.set j true }
     rw[h]at this
     rw[rE_ this.2]
     exact⟨this.1,this.2⟩
    .injection h with h1 h2
     subst h1 h2
     refine⟨?_,fun p hp=>by cases hp⟩
     show 0+r.tk.using_.toNat<=1+r.tk.using_.toNat
     omega
 | tok =>
   simp only at h
   split at h
   .cases h
   .injection h with h
    injection h with h1 h2
    subst h1 h2
    refine⟨?_,x2_ _ _⟩
    show 0+_<=1+_
    have:∀b:Bool,b.toNat<=1:=fun b=>by cases b<;>decide
    have:=this (hearT r.tk ⟨i,true,0⟩).using_
    show 0+(hearT r.tk ⟨i,true,0⟩).using_.toNat<=_
    omega
 | req =>
   simp only at h
   split at h
   .cases h
   .split at h
    .injection h with h
     injection h with h1 h2
     subst h1 h2
     rw[rE_ (x2_ _ _),yx_]
     refine⟨?_,x2_ _ _⟩
     have h3:=yR_ { r.tk with want:=true } ⟨i,false,s⟩
     have h4:=(wv_ (t:={ r.tk with want:=true }) (m:=⟨i,false,s⟩) rfl).2.1
     have h5:(hearT { r.tk with want:=true } ⟨i,false,s⟩).using_=r.tk.using_:=h4
     show _+(hearT { r.tk with want:=true } ⟨i,false,s⟩).using_.toNat<=1+_
     rw[h5]
     omega
    .injection h with h
     injection h with h1 h2
     subst h1 h2
     rw[rE_ (x2_ _ _),yx_]
     refine⟨?_,x2_ _ _⟩
     have h3:=yR_ r.tk ⟨i,false,s⟩
     have h4:=(wv_ (t:=r.tk) (m:=⟨i,false,s⟩) rfl).2.1
     show _+(hearT r.tk ⟨i,false,s⟩).using_.toNat<=1+_
     rw[h4]
     omega
theorem rl_{r:Rs}(hu:r.tk.using_=true):so w2 (doneR r).2+(doneR r).1.tk.using_.toNat<=r.tk.using_.toNat/\(∀p∈(doneR r).2,p.2.k≠.prm):=by
 refine⟨?_,x2_ _ _⟩
 unfold doneR
 simp only
 rw[rE_ (x2_ _ _),yx_,hu]
 unfold xh_ xx_
 split<;>simp[Tk.rest,Tk.pass]
theorem mh_(r:Rs)(i:Nat):so w2 (wantR r i).2+(wantR r i).1.tk.using_.toNat<=1+r.tk.using_.toNat:=by
 unfold wantR
 split
 .show 0+_<=_
  simp only
  omega
 .simp only
  rw[rE_ (x2_ _ _),yx_]
  unfold xC_ w1_
  split
  .simp[Tk.use]
  .simp[Tk.ask]
theorem pK_{i:Nat}(hn:n<=4)(r:Rs):so w2 (beginR n i r).2+(beginR n i r).1.tk.using_.toNat<=8:=by
 unfold beginR
 simp only
 split
 .have:=n4_ (promised r (nextE n i r.ep))
  rw[rE_ this.2]
  have h2:(promised r (nextE n i r.ep)).tk.using_.toNat=0:=rfl
  omega
 .show so w2 _+0<=8
  have:∀o:Out,so w2 o<=2*o.length:=fun o=>by
   unfold so
   induction o with
   |nil=>exact zzl_ _
   | cons p q ih =>
     simp only[List.map_cons,List.sum_cons,List.length_cons]
     have:w2 p.2<=2:=by unfold w2;split<;>omega
     omega
  have h1:=this (((List.range n).filter fun s=>s≠i).map fun (s:Nat)=>((s:Int),(⟨.prm,nextE n i r.ep,0⟩:Rm)))
  rw[List.length_map]at h1
  have h2:=List.length_filter_le (fun s=>decide (s≠i)) (List.range n)
  rw[List.length_range]at h2
  refine yyd_ h1 ?_
  omega
end
end Go.Proofs.Ytnbppaolinopeaa.RG
namespace Go.Proofs.Ytnbppaolinopeaa.RG
section
variable{n j:Nat}{R R':Nat->Rs}{U U':Nat->Bool}{M M':Nat->Nat->List Rm}{D:Id}{E:Nat}
theorem vS_{s:Nat}(hs:s<n){r:Rs}{o:Out}{E':Nat}(ho:Outs n s E' o):QQ n (updR R s r) (put M s o)+(R s).tk.using_.toNat=QQ n R M+so w2 o+r.tk.using_.toNat:=by
 have h1:=rv_ (c:=w2) (M:=M) hs (o:=o) fun p hp=>⟨(ho.to p hp).1,(ho.to p hp).2.1⟩
 have h2:=qp_ (R:=R) hs r
 unfold QQ
 omega
theorem rx_{i j:Nat}{m:Rm}{l:List Rm}(hi:i<n)(hj:j<n)(hM:M i j=m::l):QQ n R (pop M i j)+w2 m=QQ n R M:=by
 have:=pN_ (c:=w2) hi hj hM
 unfold QQ
 omega
theorem Stp.qq(hG:GI n R M D E)(hs:Stp n R U M R' U' M'):QQ n R' M'<=QQ n R M+8:=by
 cases hs with
 |idle=>omega
 | hear hi hj hu hM he =>
   rename_i i j m l r o
   have h1:=vS_ (R:=R) (M:=pop M i j) hj (hG.inv.hear_out (E:=E) hi hj hM he) (r:=r)
   have h2:=rx_ (R:=R) hi hj hM
   have h3:=(r7_ he).1
   omega
 | drop hi hj hu hM he =>
   have h2:=rx_ (R:=R) hi hj hM
   omega
 |crash hi hu=>omega
 | restart hi hu =>
   rename_i i
   have h2:=qp_ (R:=R) hi (restartR (R i))
   have h3:(restartR (R i)).tk.using_.toNat=0:=rfl
   unfold QQ
   omega
 | begin hi hu =>
   rename_i i
   have h1:=vS_ (R:=R) (M:=M) hi (begin_out (n:=n) (s:=i) (E:=E) hG.inv.n4 (R i)) (r:=(beginR n i (R i)).1)
   have h3:=pK_ (n:=n) (i:=i) hG.inv.n4 (R i)
   omega
 | done hi hu hh =>
   rename_i i
   have h1:=vS_ (R:=R) (M:=M) hi (hG.inv.done_out (E:=E) hi hh) (r:=(doneR (R i)).1)
   have h3:=(rl_ hh).1
   omega
 | want hi hu h1 h2 h3 =>
   rename_i i
   have h4:=vS_ (R:=R) (M:=M) hi (hG.inv.want_out (E:=E) hi h1 h2 h3) (r:=(wantR (R i) i).1)
   have h5:=mh_ (R i) i
   omega
theorem wk_{f:Nat->Nat}:∀ {n:Nat},(∀i,i<n->f i=0)->sumN n f=0
 |0,_=>rfl
 |n+1,h=>by rw[yu_,wk_ fun i hi=>h i (by omega),h n (by omega)]
theorem Rch.qq(h:Rch n j R U M)(h1:1<=n)(h4:n<=4):QQ n R M<=8*j:=by
 induction h with
 | start =>
   have e1:SS n w2 (fun _ _=>[])=0:=wk_ fun i _=>wk_ fun j _=>rfl
   have e2:uN n (fun s=>⟨0,false,false,[],idT n 0 s⟩)=0:=wk_ fun i _=>by
    show (idT n 0 i).using_.toNat=0
    unfold idT
    split
    .split<;>rfl
    .rfl
   unfold QQ
   omega
 | step h hs ih =>
   obtain⟨D,hD⟩:=h.gi h1 h4
   have:=hs.qq hD
   omega
def NoP(n:Nat)(M:Nat->Nat->List Rm):Prop:=∀a b,a<n->b<n->∀m∈M a b,m.k≠.prm
theorem GI.same_ep(h:GI n R M D E)(hp:NoP n M){s x:Nat}(hs:s<n)(hx:x<n):(R s).ep=(R x).ep:=by
 have key:∀s x,s<n->x<n->(R s).ep<=(R x).ep:=fun s x hs hx=>by
  have hb:(R s).ep%n<n:=Nat.mod_lt _ (by omega)
  -- up to owners
  have up:∀k s,s<n->E-(R s).ep<=k->(R s).ep<=(R x).ep:=by
   intro k
   induction k with
   | zero =>
     intro s hs hk
     have hb:(R s).ep%n<n:=Nat.mod_lt _ (by omega)
     have h1:=h.inv.owns s hs
     have h2:=h.bd _ hb
     have h3:=h.bd s hs
     have e:(R ((R s).ep%n)).ep=(R s).ep:=by omega
     apply Classical.byContradiction
     intro hlt
     obtain⟨m,hm,k1,_⟩:=h.pend ((R s).ep%n) x hb hx (fun q=>by rw[q]at e;omega) (by rw[e]) (by omega)
     exact hp _ _ hb hx m hm k1
   | succ k ih =>
     intro s hs hk
     have hb:(R s).ep%n<n:=Nat.mod_lt _ (by omega)
     have h1:=h.inv.owns s hs
     by_cases e:(R ((R s).ep%n)).ep=(R s).ep
     .apply Classical.byContradiction
      intro hlt
      obtain⟨m,hm,k1,_⟩:=h.pend ((R s).ep%n) x hb hx (fun q=>by rw[q]at e;omega) (by rw[e]) (by omega)
      exact hp _ _ hb hx m hm k1
     .have:=ih _ hb (by have:=h.bd s hs;omega)
      omega
  exact up _ s hs (zzl_ _)
 have:=key s x hs hx
 have:=key x s hx hs
 omega
def PB(n:Nat)(B:Nat->Nat->Nat)(M:Nat->Nat->List Rm):Prop:=∀a b,a<n->b<n->∀(p:Nat) (m:Rm),(M a b)[p]?=some m->m.k=.prm->p<B a b
theorem PB.weak{B B':Nat->Nat->Nat}(h:PB n B M)(hB:∀a b,a<n->b<n->M a b≠[]->B a b<=B' a b):PB n B' M:=fun a b ha hb p m hp hk=>by
 have h1:=h a b ha hb p m hp hk
 have h2:=hB a b ha hb (fun q=>by rw[q]at hp;cases hp)
 omega
theorem PB.put1{B:Nat->Nat->Nat}(h:PB n B M){s:Nat}{x:Int×Rm}(hx:x.2.k≠.prm):PB n B (RG.put1 M s x):=fun a b ha hb p m hp hk=>by
 unfold RG.put1 at hp
 split at hp
 .by_cases q:p<(M a b).length
  .rw[zzo_ q]at hp
   exact h a b ha hb p m hp hk
  .rw[zzv_ (by omega)]at hp
   have:m=x.2:=by
    have h2:=zzd_ hp
    rw[List.mem_singleton]at h2
    exact h2
   rw[<-this]at hx
   exact absurd hk hx
 .exact h a b ha hb p m hp hk
theorem PB.put{B:Nat->Nat->Nat}{s:Nat}:∀ {o:Out} {M:Nat->Nat->List Rm},PB n B M->(∀p∈o,p.2.k≠.prm)->PB n B (RG.put M s o)
 |[],_,h,_=>h
 | x :: r, M, h, ho => by
   show PB n B (RG.put (RG.put1 M s x) s r)
   exact PB.put (o:=r) (h.put1 (ho x (by simp))) fun p hp=>ho p (by simp[hp])
theorem PB.pop{B B':Nat->Nat->Nat}(h:PB n B M){i j:Nat}(hB:∀a b,a<n->b<n->B a b<=B' a b+if a=i/\b=j then 1 else 0):PB n B' (RG.pop M i j):=fun a b ha hb p x hp hk=>by
 have h2:=hB a b ha hb
 unfold RG.pop at hp
 split at hp
 .next q =>
  rw[if_pos q]at h2
  have h1:=h a b ha hb (p+1) x (by rw[<-hp,List.getElem?_tail]) hk
  omega
 .next q =>
  rw[if_neg q]at h2
  have h1:=h a b ha hb p x hp hk
  omega
theorem PB.no{B:Nat->Nat->Nat}(h:PB n B M)(hB:∀a b,a<n->b<n->B a b=0):NoP n M:=fun a b ha hb m hm hk=>by
 obtain⟨p,hp,rfl⟩:=List.getElem_of_mem hm
 have:=h a b ha hb p _ (zzf_ hp) hk
 have:=hB a b ha hb
 omega
theorem NoP.put{s:Nat}{o:Out}(h:NoP n M)(ho:∀p∈o,p.2.k≠.prm):NoP n (RG.put M s o):=fun a b ha hb m hm=>by
 rcases wO_ hm with g|⟨_,g⟩
 .exact h a b ha hb m g
 .exact ho _ g
inductive Ev(n:Nat)(R:Nat->Rs)(M:Nat->Nat->List Rm):(Nat->Rs)->(Nat->Nat->List Rm)->Prop
 |hear {i j:Nat} {m:Rm} {l:List Rm} {r:Rs} {o:Out} (hi:i<n) (hj:j<n) (hM:M i j=m::l) (h:hearR (R j) j i m=some (r,o)):Ev n R M (updR R j r) (put (pop M i j) j o)
 |drop {i j:Nat} {m:Rm} {l:List Rm} (hi:i<n) (hj:j<n) (hM:M i j=m::l) (h:hearR (R j) j i m=none):Ev n R M R (pop M i j)
 |done {i:Nat} (hi:i<n) (h:(R i).tk.using_=true):Ev n R M (updR R i (doneR (R i)).1) (put M i (doneR (R i)).2)
structure Sc(n e:Nat)(R:Nat->Rs)(M:Nat->Nat->List Rm)(D:Id):Prop where
 top:∀s,s<n->(R s).ep<=e
 own:(R (e%n)).ep=e
 ex:∀x,(D e).2.1.count x<=cnt n M e x+RG.due n R e x
 nl:∀s,s<n->(R s).ep=e->(R s).lost=false
 ak:(R (e%n)).ask=true->∀x,x<n->x≠e%n->(R (e%n)).prom[x]?=some true\/(R x).ep<e\/∃m∈M x (e%n),m.k=.prd/\m.e=e
theorem tC_(r:Rs):(made r).1.lost=r.lost/\(made r).1.ask=false:=by
 unfold made
 split
 .exact⟨rfl,rfl⟩
 .split<;>exact⟨rfl,rfl⟩
theorem rY_{r r':Rs}{i j:Nat}{m:Rm}{o:Out}(h:hearR r i j m=some (r',o)):(r'.lost=r.lost\/r'.lost=false) /\
 (m.k≠.prm->r'.ask=true->r.ask=true/\(∀x:Nat,r.prom[x]?=some true->r'.prom[x]?=some true)/\(m.k=.prd->j<r.prom.length->r'.prom[j]?=some true)):=by
 unfold hearR at h
 obtain⟨k,e,s⟩:=m
 cases k with
 | prm =>
   simp only at h
   split at h
   .cases h
   .injection h with h
    unfold promR at h
    simp only at h
    split at h
    .injection h with h1 h2
     subst h1
     exact⟨.inr rfl,fun q=>absurd rfl q⟩
    .injection h with h1 h2
     subst h1
     exact⟨.inr rfl,fun q=>absurd rfl q⟩
 | prd =>
   simp only at h
   split at h
   .cases h
   .next q =>
    injection h with h
    unfold prdR at h
    simp only at h
    split at h
    .have:=tC_ { r with prom:=r.prom.set j true }
     rw[h]at this
     exact⟨.inl this.1,fun _ q=>by have:=this.2;simp only at this;rw[this]at q;cases q⟩
    .injection h with h1 h2
     subst h1
     refine⟨.inl rfl,fun _ qa=>⟨qa,fun x hx=>?_,fun _ hl=>?_⟩⟩
     .show (r.prom.set j true)[x]?=some true
      by_cases qx:x=j
      .subst qx
       rw[List.getElem?_set_self (zzc_.1 hx).1]
      .rw[List.getElem?_set_ne (fun z=>qx z.symm)]
       exact hx
     .show (r.prom.set j true)[j]?=some true
      rw[List.getElem?_set_self hl]
 | tok =>
   simp only at h
   split at h
   .cases h
   .injection h with h
    injection h with h1 h2
    subst h1
    exact⟨.inl rfl,fun _ qa=>⟨qa,fun x hx=>hx,fun q=>by cases q⟩⟩
 | req =>
   simp only at h
   split at h
   .cases h
   .split at h
    .injection h with h
     injection h with h1 h2
     subst h1
     exact⟨.inl rfl,fun _ qa=>⟨qa,fun x hx=>hx,fun q=>by cases q⟩⟩
    .injection h with h
     injection h with h1 h2
     subst h1
     exact⟨.inl rfl,fun _ qa=>⟨qa,fun x hx=>hx,fun q=>by cases q⟩⟩
theorem ow_{r r':Rs}{i j:Nat}{m:Rm}{o:Out}(h:hearR r i j m=some (r',o))(hk:m.k=.prm):((j:Int),(⟨.prd,m.e,0⟩:Rm))∈o:=by
 unfold hearR at h
 obtain⟨k,e,s⟩:=m
 simp only at hk
 subst hk
 simp only at h
 split at h
 .cases h
 .injection h with h
  unfold promR at h
  simp only at h
  split at h
  .injection h with h1 h2
   subst h2
   simp
  .injection h with h1 h2
   subst h2
   simp
end
end Go.Proofs.Ytnbppaolinopeaa.RG
namespace Go.Proofs.Ytnbppaolinopeaa.RG
section
variable{n:Nat}{R R':Nat->Rs}{M M':Nat->Nat->List Rm}{D D':Id}{E e:Nat}
theorem Sc.hear(h:Sc n e R M D)(hG:GI n R M D E){i j:Nat}{m:Rm}{l:List Rm}{r:Rs}{o:Out}(hi:i<n)(hj:j<n)(hM:M i j=m::l)(he:hearR (R j) j i m=some (r,o))
 (hS:Slk n (fun _ _=>0) R M D (updR R j r) (put (pop M i j) j o) D'):Sc n e (updR R j r) (put (pop M i j) j o) D':=by
 have hmm:m∈M i j:=by rw[hM];simp
 have hb:e%n<n:=Nat.mod_lt _ (by omega)
 obtain⟨e1,e2⟩:=uH_ he
 obtain⟨k1,k2⟩:=rY_ he
 have hme:m.e<=e:=yyd_ (hG.inv.ownm i j hi hj m hmm) (h.top _ (Nat.mod_lt _ (by omega)))
 have hrep:r.ep<=e:=by
  by_cases hk:m.k=.prm
  .rw[(e1 hk).2];exact hme
  .rw[(e2 hk).2];exact h.top j hj
 have top:∀s,s<n->(updR R j r s).ep<=e:=fun s hs=>by
  by_cases q:s=j
  .subst q;rw[updR_s];exact hrep
  .rw[updR_ne q];exact h.top s hs
 -- at the owner no promise of another epoch comes
 have hbj:e%n=j->m.k≠.prm:=fun q hk=>by
  have:=e1 hk
  have:=h.own
  rw[q]at this
  omega
 have own:(updR R j r (e%n)).ep=e:=by
  by_cases q:e%n=j
  .rw[q,updR_s,(e2 (hbj q)).2,<-q];exact h.own
  .rw[updR_ne q];exact h.own
 refine⟨top,own,fun x=>?_,fun s hs hse=>?_,fun hask x hx hxb=>?_⟩
 .have h1:=hS e top x
  have h2:=h.ex x
  simp only at h1
  omega
 .by_cases q:s=j
  .subst q
   rw[updR_s]at hse ⊢
   rcases k1 with k1|k1
   .by_cases hk:m.k=.prm
    · -- promised: not lost
      unfold hearR at he
      rw[hk]at he
      simp only at he
      split at he
      .cases he
      .injection he with he
       unfold promR at he
       simp only at he
       split at he
       .injection he with z1 z2;rw[<-z1];rfl
       .injection he with z1 z2;rw[<-z1];rfl
    .rw[k1]
     exact h.nl s hs (by rw[<-(e2 hk).2];exact hse)
   .exact k1
  .rw[updR_ne q]at hse ⊢
   exact h.nl s hs hse
 .by_cases q:e%n=j
  · -- the owner hears
    have hk:=hbj q
    rw[q,updR_s]at hask ⊢
    obtain⟨a1,a2,a3⟩:=k2 hk hask
    have hxj:x≠j:=fun z=>hxb (z.trans q.symm)
    rw[updR_ne hxj]
    have old:=h.ak (by rw[q];exact a1) x hx hxb
    rw[q]at old
    rcases old with old|old|⟨m',hm',hk',he'⟩
    .exact .inl (a2 x old)
    .exact .inr (.inl old)
    .by_cases z:x=i/\m'=m
     .obtain⟨z1,z2⟩:=z
      subst z1
      have hlen:=(hG.inv.asks j hj a1).2.1
      exact .inl (a3 (by rw[<-z2];exact hk') (by rw[hlen];exact hx))
     .refine .inr (.inr ⟨m',xI_ (vy_ hM hm' ?_),hk',he'⟩)
      rintro⟨z1,_,z3⟩
      exact z ⟨z1,z3⟩
  .rw[updR_ne q]at hask ⊢
   rcases h.ak hask x hx hxb with old|old|⟨m',hm',hk',he'⟩
   .exact .inl old
   .by_cases z:x=j
    .subst z
     rw[updR_s]
     by_cases hk:m.k=.prm
     .by_cases hz:m.e=e
      .have hp:=hG.inv.prm i x hi hj m hmm hk
       have hpr:=ow_ he hk
       rw[hz]at hp
       refine .inr (.inr ⟨⟨.prd,e,0⟩,?_,rfl,rfl⟩)
       rw[hp.1]
       refine qK_ ?_
       rw[hz]at hpr
       exact hpr
      .rw[(e1 hk).2]
       exact .inr (.inl (by omega))
     .rw[(e2 hk).2]
      exact .inr (.inl old)
    .rw[updR_ne z]
     exact .inr (.inl old)
   .refine .inr (.inr ⟨m',xI_ (vy_ hM hm' ?_),hk',he'⟩)
    rintro⟨_,z2,_⟩
    exact q z2
theorem lb_{i j:Nat}(hi:i<n)(hj:j<n){m:Rm}(hm:m∈M i j){x:Ms}(hx:toMs j m=some (e,x))(h:RInv n R M D):x∈(D e).2.1:=by
 have h1:=sB_ hi hj hm hx
 have h2:=h.due e x
 exact List.count_pos_iff.1 (by omega)
theorem Sc.at(h:Sc n e R M D)(hG:GI n R M D E){i j:Nat}(hi:i<n)(hj:j<n){m:Rm}(hm:m∈M i j){x:Ms}(hx:toMs j m=some (e,x))(hto:x.to=j):(R j).ep=e:=by
 apply Classical.byContradiction
 intro hne
 have h1:=h.top j hj
 have hb:j≠e%n:=fun q=>hne (by rw[q];exact h.own)
 have hL:=hG.inv.leaf e j hj (by omega) hb
 exact(hL.2 x (lb_ hi hj hm hx hG.inv)).1 hto
theorem Sc.drop(h:Sc n e R M D)(hG:GI n R M D E){i j:Nat}{m:Rm}{l:List Rm}(hi:i<n)(hj:j<n)(hM:M i j=m::l)(he:hearR (R j) j i m=none):Sc n e R (pop M i j) D:=by
 have hmm:m∈M i j:=by rw[hM];simp
 have hno:∀x,toMs j m≠some (e,x):=fun x hx=>by
  obtain⟨k,e',s⟩:=m
  unfold toMs at hx
  cases k with
  |prm=>cases hx
  |prd=>cases hx
  | tok =>
    simp only at hx
    injection hx with hx
    injection hx with z1 z2
    subst z1
    have hep:=h.at hG hi hj hmm (x:=x) (by unfold toMs;simp only;rw[z2]) (by rw[<-z2])
    have hl:=h.nl j hj hep
    obtain⟨t1,t2⟩:=hG.inv.tok_ok hi hj hmm rfl hep.symm
    have t3:=t2 hl
    unfold hearR at he
    simp only at he
    rw[if_neg]at he
    .cases he
    .rintro(q|q|q|q)
     .exact q hep.symm
     .rw[t1]at q;cases q
     .rw[hl]at q;cases q
     .rw[t3]at q;cases q
  | req =>
    simp only at hx
    injection hx with hx
    injection hx with z1 z2
    subst z1
    have hep:=h.at hG hi hj hmm (x:=x) (by unfold toMs;simp only;rw[z2]) (by rw[<-z2])
    have hl:=h.nl j hj hep
    unfold hearR at he
    simp only at he
    rw[if_neg]at he
    .split at he<;>cases he
    .rintro(q|q)
     .exact q hep.symm
     .rw[hl]at q;cases q
 refine⟨h.top,h.own,fun x=>?_,h.nl,fun hask x hx hxb=>?_⟩
 .have h1:=uT_ (e:=e) (x:=x) hi hj hM
  rw[if_neg (hno x)]at h1
  have h2:=h.ex x
  omega
 .rcases h.ak hask x hx hxb with old|old|⟨m',hm',hk',he'⟩
  .exact .inl old
  .exact .inr (.inl old)
  .refine .inr (.inr ⟨m',vy_ hM hm' ?_,hk',he'⟩)
   rintro⟨z1,z2,z3⟩
   subst z3
   unfold hearR at he
   rw[hk']at he
   simp only at he
   rw[if_neg]at he
   .cases he
   .rintro(q|q)
    .rw[he',<-z2,h.own]at q
     exact q rfl
    .rw[<-z2,hask]at q;cases q
theorem Sc.done(h:Sc n e R M D)(hG:GI n R M D E){s:Nat}(hs:s<n)(hu:(R s).tk.using_=true)(hS:Slk n (fun _ _=>0) R M D (updR R s (doneR (R s)).1) (put M s (doneR (R s)).2) D'):Sc n e (updR R s (doneR (R s)).1) (put M s (doneR (R s)).2) D':=by
 have hep:∀x,(updR R s (doneR (R s)).1 x).ep=(R x).ep:=fun x=>by
  by_cases q:x=s
  .subst q;rw[updR_s];rfl
  .rw[updR_ne q]
 have top:∀x,x<n->(updR R s (doneR (R s)).1 x).ep<=e:=fun x hx=>by rw[hep];exact h.top x hx
 refine⟨top,by rw[hep];exact h.own,fun x=>?_,fun x hx hxe=>?_,fun hask x hx hxb=>?_⟩
 .have h1:=hS e top x
  have h2:=h.ex x
  simp only at h1
  omega
 .rw[hep]at hxe
  have:=h.nl x hx hxe
  by_cases q:x=s
  .subst q;rw[updR_s];exact this
  .rw[updR_ne q];exact this
 .rw[hep]
  by_cases q:e%n=s
  .rw[q,updR_s]at hask
   have:=(hG.inv.using_ hs hu).2
   have h3:(doneR (R s)).1.ask=(R s).ask:=rfl
   rw[h3,this]at hask
   cases hask
  .rw[updR_ne q]at hask ⊢
   rcases h.ak hask x hx hxb with old|old|⟨m',hm',hk',he'⟩
   .exact .inl old
   .exact .inr (.inl old)
   .exact .inr (.inr ⟨m',xI_ hm',hk',he'⟩)
theorem Ev.keep(h:GI n R M D E){X:Prop}(hx:X->Sc n e R M D){V:Nat->List Bool}(hV:∀ε,Vis n (D ε).1 (D ε).2.1 (D ε).2.2 (V ε))(hev:Ev n R M R' M') :
 ∃ D', GI n R' M' D' E ∧ (X → Sc n e R' M' D') ∧ QQ n R' M' ≤ QQ n R M ∧ ∀ ε, (∀ s, s < n → (R s).ep = ε) → NoP n M →
   (∀s,s<n->(R' s).ep=ε)/\∃V',Vis n (D' ε).1 (D' ε).2.1 (D' ε).2.2 V'/\SS n w1 M'+2*mu (D' ε).1 V'+1<=SS n w1 M+2*mu (D ε).1 (V ε):=by
 cases hev with
 | hear hi hj hM he =>
   rename_i i j m l r o
   obtain⟨D',q1,q2,q3⟩:=h.hear hi hj hM he (hV _)
   have ho:=h.inv.hear_out (E:=E) hi hj hM he
   have hw:=r7_ he
   have hp:=rx_ (R:=R) hi hj hM
   have ha:=vS_ (R:=R) (M:=pop M i j) hj ho (r:=r)
   refine⟨D',q1,fun x=>(hx x).hear h hi hj hM he q2,by omega,fun ε hε hno=>?_⟩
   have hk:=hno i j hi hj m (by rw[hM];simp)
   obtain⟨p1,V',p2,p3⟩:=q3 hk
   have hεj:=hε j hj
   refine⟨fun s hs=>?_,V',?_,?_⟩
   .by_cases q:s=j
    .subst q;rw[updR_s,p1];exact hεj
    .rw[updR_ne q];exact hε s hs
   .rw[<-hεj];exact p2
   .have h1:=pN_ (c:=w1) hi hj hM
    have h2:=rv_ (c:=w1) (M:=pop M i j) hj (o:=o) fun p hp=>⟨(ho.to p hp).1,(ho.to p hp).2.1⟩
    rw[so1]at h2
    have h3:w1 m=1:=rfl
    rw[<-hεj]
    omega
 | drop hi hj hM he =>
   rename_i i j m l
   have hp:=rx_ (R:=R) hi hj hM
   refine⟨D,h.drop hi hj hM he,fun x=>(hx x).drop h hi hj hM he,by omega,fun ε hε _=>⟨hε,V ε,hV ε,?_⟩⟩
   have h1:=pN_ (c:=w1) hi hj hM
   have h3:w1 m=1:=rfl
   omega
 | done hi hu =>
   rename_i i
   obtain⟨D',q1,q2,V',q3,q4⟩:=h.done hi hu (hV _)
   have ho:=h.inv.done_out (E:=E) hi hu
   have hw:=rl_ hu
   have ha:=vS_ (R:=R) (M:=M) hi ho (r:=(doneR (R i)).1)
   refine⟨D',q1,fun x=>(hx x).done h hi hu q2,by omega,fun ε hε hno=>?_⟩
   have hεj:=hε i hi
   refine⟨fun s hs=>?_,V',?_,?_⟩
   .by_cases q:s=i
    .subst q;rw[updR_s];exact hεj
    .rw[updR_ne q];exact hε s hs
   .rw[<-hεj];exact q3
   .have h2:=rv_ (c:=w1) (M:=M) hi (o:=(doneR (R i)).2) fun p hp=>⟨(ho.to p hp).1,(ho.to p hp).2.1⟩
    rw[so1]at h2
    have h3:(doneR (R i)).2.length<=1:=by
     unfold doneR
     simp only
     rw[yx_]
     unfold xh_
     split<;>simp
    rw[<-hεj]
    omega
theorem Ev.nop(hev:Ev n R M R' M')(hn:NoP n M):NoP n M':=by
 cases hev with
 |hear hi hj hM he=>exact NoP.put (fun a b ha hb m hm=>hn a b ha hb m (vz_ hm)) (r7_ he).2
 |drop hi hj hM he=>exact fun a b ha hb m hm=>hn a b ha hb m (vz_ hm)
 |done hi hu=>exact NoP.put hn (rl_ hu).2
end
end Go.Proofs.Ytnbppaolinopeaa.RG
namespace Go.Proofs.Ytnbppaolinopeaa.RG
def Was(i j a b:Nat):Prop:=a<i\/(a=i/\b<j)
instance(i j a b:Nat):Decidable (Was i j a b):=by unfold Was;infer_instance
def bd(L k i j:Nat):Nat->Nat->Nat:=fun a b=>L-k-if Was i j a b then 1 else 0
structure Dr(n E q L e:Nat)(X:Prop)(k i j u:Nat)(z:Bool)(R:Nat->Rs)(M:Nat->Nat->List Rm):Prop where
 ex:∃D,GI n R M D E/\(X->Sc n e R M D)/\(L<=k->∃ε V,(∀s,s<n->(R s).ep=ε)/\Vis n (D ε).1 (D ε).2.1 (D ε).2.2 V/\SS n w1 M+2*mu (D ε).1 V+(k-L)+z.toNat<=q+56)
 qq:QQ n R M<=q
 pb:PB n (bd L k i j) M
 un:z=false->(∀a b,a<n->b<n->Was i j a b->M a b=[])/\∀a,a<n->a<u->(R a).tk.using_=false
section
variable{n E q L e k i j u:Nat}{X:Prop}{z:Bool}{R R':Nat->Rs}{M M':Nat->Nat->List Rm}
theorem lH_{t:List Tk}(h:t.length<=4):mu t (List.replicate 16 false)<=28:=by
 unfold mu
 have h1:(List.replicate 16 false).countP (fun b=>!b)=16:=by decide
 have h2:=List.countP_le_length (p:=(·.want)) (l:=t)
 have h3:=List.countP_le_length (p:=(·.using_)) (l:=t)
 omega
theorem last{D:Id}(h:GI n R M D E)(hno:NoP n M)(hq:QQ n R M<=q):∃ε V,(∀s,s<n->(R s).ep=ε)/\Vis n (D ε).1 (D ε).2.1 (D ε).2.2 V/\SS n w1 M+2*mu (D ε).1 V<=q+56:=by
 have h1:=h.inv.n1
 refine⟨(R 0).ep,_,fun s hs=>h.same_ep hno hs (by omega),Vis.none _ _ _ _,?_⟩
 have h2:=(h.inv.inv (R 0).ep).len
 have h3:=lH_ (t:=(D (R 0).ep).1) (by have:=h.inv.n4;omega)
 have h4:=lg_ (n:=n) (M:=M)
 unfold QQ at hq
 omega
theorem Dr.start{D:Id}(h:GI n R M D E)(hx:X->Sc n e R M D)(hq:QQ n R M<=q)(hL:∀a b,a<n->b<n->(M a b).length<=L):Dr n E q L e X 0 0 0 0 false R M:=by
 have hpb:PB n (bd L 0 0 0) M:=fun a b ha hb p m hp _=>by
  have h1:=(zzc_.1 hp).1
  have h2:=hL a b ha hb
  unfold bd
  rw[if_neg (fun c=>by unfold Was at c;omega)]
  omega
 refine⟨⟨D,h,hx,fun hl=>?_⟩,hq,hpb,fun _=>⟨fun a b _ _ hw=>?_,fun a _ ha=>?_⟩⟩
 .have hno:NoP n M:=hpb.no fun a b _ _=>by unfold bd;omega
  obtain⟨ε,V,q1,q2,q3⟩:=last h hno hq
  exact⟨ε,V,q1,q2,by simp;omega⟩
 .unfold Was at hw;omega
 .omega
theorem Dr.gi(h:Dr n E q L e X k i j u z R M):∃D,GI n R M D E:=by
 obtain⟨D,h1,_⟩:=h.ex
 exact⟨D,h1⟩
theorem Dr.nop(h:Dr n E q L e X k i j u z R M)(hk:L<=k):NoP n M:=h.pb.no fun a b _ _=>by unfold bd;omega
theorem Dr.le(h:Dr n E q L e X k i j u z R M):k+z.toNat<=L+q+56:=by
 obtain⟨D,_,_,h3⟩:=h.ex
 by_cases hk:L<=k
 .obtain⟨ε,V,_,_,h6⟩:=h3 hk
  omega
 .have:z.toNat<=1:=by cases z<;>decide
  omega
theorem mk_(l:List Rm):sw w1 l=l.length:=by
 unfold sw w1
 induction l with
 |nil=>rfl
 |cons p r ih=>simp only[List.map_cons,List.sum_cons,List.length_cons]at ih ⊢;omega
theorem sc_{f:Nat->Nat}:∀ {n k:Nat},k<n->f k<=sumN n f
 |0,k,h=>by omega
 | n + 1, k, h => by
   rw[yu_]
   by_cases q:k=n
   .subst q;omega
   .have:=sc_ (f:=f) (n:=n) (k:=k) (by omega);omega
theorem lh_{a b:Nat}(ha:a<n)(hb:b<n):(M a b).length<=QQ n R M:=by
 have h1:=lg_ (n:=n) (M:=M)
 have h2:=sc_ (f:=fun i=>sumN n fun j=>sw w1 (M i j)) ha
 have h3:=sc_ (f:=fun j=>sw w1 (M a j)) hb
 have h4:=mk_ (M a b)
 unfold QQ SS at *
 have h2':sumN n (fun j=>sw w1 (M a j))<=sumN n fun i=>sumN n fun j=>sw w1 (M i j):=h2
 have h3':sw w1 (M a b)<=sumN n (fun j=>sw w1 (M a j)):=h3
 omega
theorem Dr.ev(h:Dr n E q L e X k i j u z R M){i' j' u':Nat}(hev:Ev n R M R' M')(hpb:PB n (bd L k i' j') M'):Dr n E q L e X k i' j' u' true R' M':=by
 obtain⟨D,h1,h2,h3⟩:=h.ex
 have key:∀V:Nat->List Bool,(∀ε,Vis n (D ε).1 (D ε).2.1 (D ε).2.2 (V ε))->(L<=k->∃ε,(∀s,s<n->(R s).ep=ε)/\SS n w1 M+2*mu (D ε).1 (V ε)+(k-L)<=q+56)->Dr n E q L e X k i' j' u' true R' M':=fun V hV hm=>by
  obtain⟨D',g1,g2,g3,g4⟩:=hev.keep h1 h2 hV
  refine⟨⟨D',g1,g2,fun hk=>?_⟩,yyd_ g3 h.qq,hpb,fun q=>by cases q⟩
  obtain⟨ε,m1,m2⟩:=hm hk
  obtain⟨p1,V',p2,p3⟩:=g4 ε m1 (h.nop hk)
  exact⟨ε,V',p1,p2,by simp;omega⟩
 by_cases hk:L<=k
 .obtain⟨ε,V,v1,v2,v3⟩:=h3 hk
  refine key (fun ε'=>if ε'=ε then V else List.replicate 16 false) (fun ε'=>?_) fun _=>⟨ε,v1,?_⟩
  .by_cases q:ε'=ε
   .simp only[q,if_true];exact v2
   .simp only[q,if_false];exact Vis.none _ _ _ _
  .simp only[if_true]
   omega
 .exact key (fun _=>List.replicate 16 false) (fun _=>Vis.none _ _ _ _) fun q=>absurd q hk
theorem Dr.done(h:Dr n E q L e X k i j u z R M){s u':Nat}(hs:s<n)(hu:(R s).tk.using_=true):Dr n E q L e X k i j u' true (updR R s (doneR (R s)).1) (put M s (doneR (R s)).2) :=
 h.ev (.done hs hu) (h.pb.put (rl_ hu).2)
theorem Dr.idle(h:Dr n E q L e X k i j u z R M)(hi:u<n)(hu:(R u).tk.using_=false):Dr n E q L e X k i j (u+1) z R M:=by
 refine⟨h.ex,h.qq,h.pb,fun q=>⟨(h.un q).1,fun a ha hau=>?_⟩⟩
 by_cases e:a=u
 .subst e;exact hu
 .exact(h.un q).2 a ha (by omega)
theorem sC_{a b:Nat}(hb:Was i (j+1) a b->¬Was i j a b->a=i/\b=j):bd L k i j a b<=bd L k i (j+1) a b+if a=i/\b=j then 1 else 0:=by
 unfold bd
 by_cases h1:Was i (j+1) a b
 .by_cases h2:Was i j a b
  .rw[if_pos h1,if_pos h2];omega
  .rw[if_pos (hb h1 h2),if_pos h1,if_neg h2];omega
 .have h2:¬Was i j a b:=fun q=>h1 (by unfold Was at q ⊢;omega)
  rw[if_neg h1,if_neg h2];omega
theorem v8_{a b:Nat}(h1:Was i (j+1) a b)(h2:¬Was i j a b):a=i/\b=j:=by unfold Was at h1 h2;omega
theorem Dr.hear(h:Dr n E q L e X k i j u z R M)(hi:i<n)(hj:j<n){m:Rm}{l:List Rm}(hM:M i j=m::l){r:Rs}{o:Out}(he:hearR (R j) j i m=some (r,o)):Dr n E q L e X k i (j+1) u true (updR R j r) (put (pop M i j) j o) :=
 h.ev (.hear hi hj hM he) (PB.put (h.pb.pop (i:=i) (j:=j) fun _ _ _ _=>sC_ v8_) (r7_ he).2)
theorem Dr.drop(h:Dr n E q L e X k i j u z R M)(hi:i<n)(hj:j<n){m:Rm}{l:List Rm}(hM:M i j=m::l)(he:hearR (R j) j i m=none):Dr n E q L e X k i (j+1) u true R (pop M i j) :=
 h.ev (.drop hi hj hM he) (h.pb.pop (i:=i) (j:=j) fun _ _ _ _=>sC_ v8_)
theorem Dr.skip(h:Dr n E q L e X k i j u z R M)(hM:M i j=[]):Dr n E q L e X k i (j+1) u z R M:=by
 refine⟨h.ex,h.qq,h.pb.weak fun a b _ _ hne=>?_,fun q=>⟨fun a b ha hb hw=>?_,(h.un q).2⟩⟩
 .have:=sC_ (L:=L) (k:=k) (a:=a) (b:=b) (v8_ (i:=i) (j:=j))
  rw[if_neg (fun c=>hne (by rw[c.1,c.2];exact hM))]at this
  exact this
 .by_cases c:Was i j a b
  .exact(h.un q).1 a b ha hb c
  .obtain⟨rfl,rfl⟩:=v8_ hw c
   exact hM
theorem Dr.row(h:Dr n E q L e X k i n u z R M):Dr n E q L e X k (i+1) 0 u z R M:=by
 have hw:∀a b,b<n->(Was (i+1) 0 a b↔Was i n a b):=fun a b hb=>by unfold Was;omega
 refine⟨h.ex,h.qq,h.pb.weak fun a b _ hb _=>?_,fun q=>⟨fun a b ha hb c=>(h.un q).1 a b ha hb ((hw a b hb).1 c),(h.un q).2⟩⟩
 unfold bd
 by_cases c:Was i n a b
 .rw[if_pos c,if_pos ((hw a b hb).2 c)];exact zzl_ _
 .rw[if_neg c,if_neg (fun d=>c ((hw a b hb).1 d))];exact zzl_ _
theorem Dr.round(h:Dr n E q L e X k n 0 u true R M):Dr n E q L e X (k+1) 0 0 0 false R M:=by
 have hpb:PB n (bd L (k+1) 0 0) M:=h.pb.weak fun a b ha hb _=>by
  unfold bd
  rw[if_pos (show Was n 0 a b from .inl ha),if_neg (fun c=>by unfold Was at c;omega)]
  omega
 obtain⟨D,h1,h2,h3⟩:=h.ex
 refine⟨⟨D,h1,h2,fun hk=>?_⟩,h.qq,hpb,fun _=>⟨fun a b _ _ hw=>(by unfold Was at hw;omega),fun a _ ha=>by omega⟩⟩
 by_cases c:L<=k
 .obtain⟨ε,V,v1,v2,v3⟩:=h3 c
  refine⟨ε,V,v1,v2,?_⟩
  simp only[Bool.toNat_true]at v3
  simp only[Bool.toNat_false]
  omega
 .obtain⟨ε,V,q1,q2,q3⟩:=last h1 (hpb.no fun a b _ _=>by unfold bd;omega) h.qq
  refine⟨ε,V,q1,q2,?_⟩
  simp only[Bool.toNat_false]
  omega
structure Qu(n E e:Nat)(X:Prop)(R:Nat->Rs)(M:Nat->Nat->List Rm):Prop where
 ex:∃D,GI n R M D E/\(X->Sc n e R M D)
 box:∀a b,a<n->b<n->M a b=[]
 un:∀a,a<n->(R a).tk.using_=false
theorem Dr.quiet(h:Dr n E q L e X k n 0 n false R M):Qu n E e X R M:=by
 obtain⟨D,h1,h2,_⟩:=h.ex
 obtain⟨u1,u2⟩:=h.un rfl
 exact⟨⟨D,h1,h2⟩,fun a b ha hb=>u1 a b ha hb (.inl ha),fun a ha=>u2 a ha ha⟩
theorem Qu.nop(h:Qu n E e X R M):NoP n M:=fun a b ha hb m hm=>by rw[h.box a b ha hb]at hm;cases hm
theorem Qu.qq(h:Qu n E e X R M):QQ n R M=0:=by
 have h1:SS n w2 M=0:=wk_ fun i hi=>wk_ fun j hj=>by rw[h.box i j hi hj];rfl
 have h2:uN n R=0:=wk_ fun i hi=>by
  show (R i).tk.using_.toNat=0
  rw[h.un i hi];rfl
 unfold QQ
 omega
theorem Qu.begin(h:Qu n E e X R M){s:Nat}(hs:s<n):∃D,GI n (updR R s (beginR n s (R s)).1) (put M s (beginR n s (R s)).2) D (E+4) /\
 Sc n (beginR n s (R s)).1.ep (updR R s (beginR n s (R s)).1) (put M s (beginR n s (R s)).2) D:=by
 obtain⟨D,hD,_⟩:=h.ex
 obtain⟨D',g1,g2⟩:=hD.begin hs
 have hx:=nextE_lt (n:=n) (i:=s) (e:=(R s).ep) (by omega)
 have hm:=nextE_mod (n:=n) (i:=s) (e:=(R s).ep) hs
 have hep:=wC_ n s (R s)
 refine⟨D',g1,?_⟩
 rw[hep]
 have hlost:(beginR n s (R s)).1.lost=false:=by
  unfold beginR
  simp only
  split
  .exact(tC_ _).1
  .rfl
 refine⟨fun x hx'=>?_,?_,g2,fun x hx' hxe=>?_,fun hask x hx' hxb=>?_⟩
 .by_cases q:x=s
  .subst q;rw[updR_s,hep];exact zzl_ _
  .rw[updR_ne q,hD.same_ep h.nop hx' hs];omega
 .rw[hm,updR_s,hep]
 .by_cases q:x=s
  .subst q;rw[updR_s];exact hlost
  .rw[updR_ne q,hD.same_ep h.nop hx' hs]at hxe;omega
 .rw[hm]at hxb
  rw[updR_ne hxb,hD.same_ep h.nop hx' hs]
  exact .inr (.inl (by omega))
theorem Qu.begin_q(h:Qu n E e X R M){s:Nat}(hs:s<n)(hn:n<=4):QQ n (updR R s (beginR n s (R s)).1) (put M s (beginR n s (R s)).2)<=8:=by
 have h1:=vS_ (R:=R) (M:=M) hs (begin_out (n:=n) (s:=s) (E:=E) hn (R s)) (r:=(beginR n s (R s)).1)
 have h3:=pK_ (n:=n) (i:=s) hn (R s)
 have h4:=h.qq
 omega
theorem sA_{p:Tk->Bool}:∀(t:List Tk) (k:Nat),k<t.length->(t.take (k+1)).countP p=(t.take k).countP p+if p (tAt t k)=true then 1 else 0:=fun t k hk=>by
 rw[List.take_add_one,List.countP_append]
 have:tAt t (k:Int)=t[k]:=by simp[tAt,yyk_,hk]
 rw[this,zzf_ hk]
 simp[List.countP_cons]
def hasN(R:Nat->Rs):Nat->Nat
 |0=>0
 |k+1=>hasN R k+if (R k).tk.has=true then 1 else 0
theorem Qu.fin(h:Qu n E e True R M):(∀s,s<n->(R s).tk.want=false/\(R s).lost=false/\(R s).ask=false/\(R s).ep=e)/\hasN R n=1:=by
 obtain⟨D,hD,hX⟩:=h.ex
 have hX:=hX trivial
 have h1:=hD.inv.n1
 have hb:e%n<n:=Nat.mod_lt _ (by omega)
 have hep:∀s,s<n->(R s).ep=e:=fun s hs=>(hD.same_ep h.nop hs hb).trans hX.own
 have hl:∀s,s<n->(R s).lost=false:=fun s hs=>hX.nl s hs (hep s hs)
 have ha:∀s,s<n->(R s).ask=false:=fun s hs=>by
  cases q:(R s).ask
  .rfl
  exfalso
  obtain⟨a1,a2,a3,a4,_⟩:=hD.inv.asks s hs q
  rw[hep s hs]at a1
  subst a1
  have:∀x:Nat,x<n->(R (e%n)).prom[x]?=some true:=fun x hx=>by
   by_cases c:x=e%n
   .rw[c];exact a3
   .rcases hX.ak q x hx c with d|d|⟨m,hm,_⟩
    .exact d
    .have:=hep x hx;omega
    .rw[h.box x _ hx hb]at hm;cases hm
  have hall:(R (e%n)).prom.all id=true:=by
   rw[zzh_]
   intro b hbm
   obtain⟨x,hx,rfl⟩:=List.getElem_of_mem hbm
   have:=this x (by omega)
   rw[zzf_ hx]at this
   injection this
  rw[hall]at a4;cases a4
 have hml:(D e).2.1=[]:=by
  apply Classical.byContradiction
  intro hne
  obtain⟨x,hx⟩:=List.exists_mem_of_ne_nil _ hne
  have h2:=List.count_pos_iff.2 hx
  have h3:=hX.ex x
  have h4:cnt n M e x=0:=wk_ fun i hi=>wk_ fun j hj=>by rw[h.box i j hi hj];rfl
  have h5:RG.due n R e x=0:=by
   unfold RG.due
   rw[if_neg]
   rintro⟨q,_⟩
   rw[ha _ hb]at q;cases q
  omega
 have htk:∀s,s<n->(R s).tk=tAt (D e).1 s:=fun s hs=>by
  have:=hD.inv.same s hs (hl s hs) (ha s hs)
  rw[hep s hs]at this
  exact this
 have hI:=hD.inv.inv e
 rw[hml]at hI
 have hq:=hI.quiet fun i hi=>by
  obtain⟨i0,i1⟩:=hi
  obtain⟨k,rfl⟩:∃k:Nat,i=k:=⟨i.toNat,by omega⟩
  rw[<-htk k (by omega)]
  exact h.un k (by omega)
 refine⟨fun s hs=>⟨?_,hl s hs,ha s hs,hep s hs⟩,?_⟩
 .rw[htk s hs]
  exact hq s ⟨by omega,by omega⟩
 .have hlen:=hI.len
  have ho:=hI.one
  have key:∀k,k<=n->hasN R k=((D e).1.take k).countP (·.has):=by
   intro k
   induction k with
   |zero=>intro _;simp[hasN]
   | succ k ih =>
     intro hk
     rw[sA_ _ _ (by omega),<-ih (by omega),hasN,htk k (by omega)]
  rw[key n (zzl_ _),zzx_ (by omega)]
  simpa using ho
end
section
variable{n E q L e k i j u:Nat}{X:Prop}{z:Bool}{R R':Nat->Rs}{M M':Nat->Nat->List Rm}
theorem put_out{s:Nat}(hs:s<n){a b:Nat}(h:¬(a<n/\b<n)):∀ {o:Out} {M:Nat->Nat->List Rm},(∀p∈o,0<=p.1/\p.1<n)->put M s o a b=M a b
 |[],_,_=>rfl
 | x :: r, M, ho => by
   show put (put1 M s x) s r a b=_
   rw[put_out hs h (o:=r) fun p hp=>ho p (by simp[hp])]
   unfold put1
   obtain⟨h1,h2⟩:=ho x (by simp)
   rw[if_neg]
   rintro⟨q1,q2⟩
   omega
theorem Ev.out{D:Id}(hG:GI n R M D E)(hev:Ev n R M R' M'){a b:Nat}(h:¬(a<n/\b<n)):(M' a b).length<=(M a b).length:=by
 cases hev with
 | hear hi hj hM he =>
   have ho:=hG.inv.hear_out (E:=E) hi hj hM he
   rw[put_out hj h fun p hp=>⟨(ho.to p hp).1,(ho.to p hp).2.1⟩]
   exact uA_ _ _ _ _ _
 |drop hi hj hM he=>exact uA_ _ _ _ _ _
 | done hi hu =>
   have ho:=hG.inv.done_out (E:=E) hi hu
   rw[put_out hi h fun p hp=>⟨(ho.to p hp).1,(ho.to p hp).2.1⟩]
   exact zzl_ _
theorem Dr.len(h:Dr n E q L e X k i j u z R M)(hq:q<=90000)(ho:∀a b,¬(a<n/\b<n)->(M a b).length<=90000):∀a b,(M a b).length<=90000:=fun a b=>by
 by_cases c:a<n/\b<n
 .have:=lh_ (R:=R) (M:=M) c.1 c.2
  have:=h.qq
  omega
 .exact ho a b c
theorem QQ_up{s:Nat}(hs:s<n):QQ n (updR R s (restartR (R s))) M<=QQ n R M:=by
 have h2:=qp_ (R:=R) hs (restartR (R s))
 have h3:(restartR (R s)).tk.using_.toNat=0:=rfl
 unfold QQ
 omega
end
end Go.Proofs.Ytnbppaolinopeaa.RG
namespace Go.Proofs.Ytnbppaolinopeaa
open Go.RowKit Go.Proofs
section
structure NK(T:Nat->Nat)(g:Gh)(w:World)(X n:Nat)(R:Nat->RG.Rs)(U:Nat->Bool)(M:Nat->Nat->List RG.Rm)(T':Nat->Nat)(g':Gh)(h':Hd)(w':World):Prop where
 net:Net T' g' w' X n R U M h'
 kp:Kp T g w T' g' w'
structure Ua(n E q e:Nat)(Y:Prop)(p:Nat)(R:Nat->RG.Rs)(U:Nat->Bool)(M:Nat->Nat->List RG.Rm):Prop where
 ex:∃D,RG.GI n R M D E/\(Y->RG.Sc n e R M D)
 qq:RG.QQ n R M<=q
 up:∀a,a<p->U a=true
 all:Y->∀a,a<n->U a=true
structure Dw(T:Nat->Nat)(g:Gh)(w:World)(X n E q L e:Nat)(Y:Prop)(k i j u:Nat)(z:Bool)(R:Nat->RG.Rs)(U:Nat->Bool)(M:Nat->Nat->List RG.Rm)(T':Nat->Nat)(g':Gh)(h':Hd)(w':World):Prop where
 nk:NK T g w X n R U M T' g' h' w'
 dr:RG.Dr n E q L e Y k i j u z R M
 up:∀a,a<n->U a=true
 E1:E<=1000000000
 q1:q<=90000
 out:∀a b,¬(a<n/\b<n)->(M a b).length<=90000
section
variable{T:Nat->Nat}{g:Gh}{w:World}{X n E q L e k i j u:Nat}{Y:Prop}{z:Bool}{R:Nat->RG.Rs}{U:Nat->Bool}{M:Nat->Nat->List RG.Rm}{T':Nat->Nat}{g':Gh}{h':Hd}{w':World}
theorem NK.bel(h:NK T g w X n R U M T' g' h' w'){w2:World}(hb:Below w'.heap.size w' w2):NK T g w X n R U M T' g' h' w2 :=
 ⟨h.net.below hb,h.kp.trans ⟨hb.os,hb.tape,hb.output,hb.size,fun k hk h0=>⟨h0,hb.block k hk⟩,fun _ _=>rfl⟩⟩
theorem Ua.step{p:Nat}(h:Ua n E q e Y p R U M)(hn:NK T g w X n R U M T' g' h' w')(hE:E<=1000000000)(hL:∀a b,(M a b).length<=90000)(hp:p<n)(hu:U p=false) :
 Calls Try.prog 17 #[.pointer (some ⟨X,0,none⟩),.int .i64 7,.int .i64 p,.int .i64 0] w' fun e' w2=>∃R2 U2 T2 g2 h2,e'=.returned (.bool true)/\NK T g w X n R2 U2 M T2 g2 h2 w2/\Ua n E q e Y (p+1) R2 U2 M:=by
 obtain⟨D,hG,hs⟩:=h.ex
 have n9:=hn.net.n9
 refine(wI_ (c:=7) (i:=p) (j:=0) hn.net hG hE hL (by omega) (by omega) (by omega)).mono ?_
 rintro e' w2 ⟨T2,g2,h2,R2,U2,M2,rfl,hn2,hk,_,hS⟩
 rw[Nat.mod_eq_of_lt hp]at hS
 obtain⟨rfl,rfl,rfl⟩:=(hS rfl).1 hu
 have hny:¬Y:=fun y=>by rw[h.all y p hp]at hu;cases hu
 refine⟨_,_,T2,g2,h2,rfl,⟨hn2,hn.kp.trans hk⟩,⟨D,hG.restart hp,fun y=>absurd y hny⟩,yyd_ (RG.QQ_up hp) h.qq,fun a ha=>?_,fun y=>absurd y hny⟩
 unfold RG.updU
 split
 .rfl
 .exact h.up a (by omega)
theorem Ua.skip{p:Nat}(h:Ua n E q e Y p R U M)(hu:U p=true):Ua n E q e Y (p+1) R U M :=
 ⟨h.ex,h.qq,fun a ha=>by
  by_cases c:a=p
  .rw[c];exact hu
  .exact h.up a (by omega),h.all⟩
theorem Ua.start(h:Ua n E q e Y n R U M)(hn:NK T g w X n R U M T' g' h' w')(hE:E<=1000000000)(hq:q<=90000)(hL:∀a b,(M a b).length<=90000)(hL2:∀a b,a<n->b<n->(M a b).length<=L):Dw T g w X n E q L e Y 0 0 0 0 false R U M T' g' h' w':=by
 obtain⟨D,hG,hs⟩:=h.ex
 exact⟨hn,.start hG hs h.qq hL2,h.up,hE,hq,fun a b _=>hL a b⟩
theorem Dw.bel(h:Dw T g w X n E q L e Y k i j u z R U M T' g' h' w'){w2:World}(hb:Below w'.heap.size w' w2):Dw T g w X n E q L e Y k i j u z R U M T' g' h' w2 :=
 ⟨h.nk.bel hb,h.dr,h.up,h.E1,h.q1,h.out⟩
theorem Dw.one(h:Dw T g w X n E q L e Y k i j u z R U M T' g' h' w') :
 Calls Try.prog 19 #[.pointer (some ⟨X,0,none⟩)] w' fun e' w2=>e'=.returned (.bool true)/\Dw T g w X n E q L e Y k i j u z R U M T' g' h' w2:=by
 obtain⟨D,hD⟩:=h.dr.gi
 refine(n3_ h.nk.net hD (yyd_ h.E1 (by omega))).mono ?_
 rintro e' w2 ⟨rfl,hb⟩
 exact⟨rfl,h.bel hb⟩
theorem Dw.done(h:Dw T g w X n E q L e Y k i j u z R U M T' g' h' w')(hu:u<n)(hh:(R u).tk.using_=true){u':Nat} :
 Calls Try.prog 17 #[.pointer (some ⟨X,0,none⟩),.int .i64 7,.int .i64 u,.int .i64 0] w' fun e' w2=>∃R2 M2 T2 g2 h2,e'=.returned (.bool true)/\Dw T g w X n E q L e Y k i j u' true R2 U M2 T2 g2 h2 w2:=by
 obtain⟨D,hD⟩:=h.dr.gi
 have n9:=h.nk.net.n9
 refine(wI_ (c:=7) (i:=u) (j:=0) h.nk.net hD h.E1 (h.dr.len h.q1 h.out) (by omega) (by omega) (by omega)).mono ?_
 rintro e' w2 ⟨T2,g2,h2,R2,U2,M2,rfl,hn2,hk,_,hS⟩
 rw[Nat.mod_eq_of_lt hu]at hS
 obtain⟨rfl,rfl,rfl⟩:=(hS rfl).2 (h.up u hu) hh
 exact⟨_,_,T2,g2,h2,rfl,⟨hn2,h.nk.kp.trans hk⟩,h.dr.done hu hh,h.up,h.E1,h.q1,fun a b c=>yyd_ ((RG.Ev.done hu hh).out hD c) (h.out a b c)⟩
theorem Dw.deliver(h:Dw T g w X n E q L e Y k i j u z R U M T' g' h' w')(hi:i<n)(hj:j<n)(hM:M i j≠[]) :
 Calls Try.prog 20 #[.pointer (some ⟨X,0,none⟩),.int .i64 i,.int .i64 j] w' fun e' w2=>∃R2 M2 T2 g2 h2,e'=.returned (.bool true)/\Dw T g w X n E q L e Y k i (j+1) u true R2 U M2 T2 g2 h2 w2:=by
 obtain⟨D,hD⟩:=h.dr.gi
 obtain⟨m,l,hml⟩:∃m l,M i j=m::l:=by
  cases q:M i j with
  |nil=>exact absurd q hM
  |cons m l=>exact⟨m,l,rfl⟩
 refine(um_ h.nk.net hD (yyd_ h.E1 (by omega)) (h.dr.len h.q1 h.out) hi hj hml).mono ?_
 rintro e' w2 ⟨T2,g2,h2,R2,M2,rfl,hn2,hk,hs⟩
 rcases hs with ⟨r,o,q1,rfl,rfl⟩|⟨q1,rfl,rfl⟩
 .exact⟨_,_,T2,g2,h2,rfl,⟨hn2,h.nk.kp.trans hk⟩,h.dr.hear hi hj hml q1,h.up,h.E1,h.q1,fun a b c=>yyd_ ((RG.Ev.hear hi hj hml q1).out hD c) (h.out a b c)⟩
 .exact⟨_,_,T2,g2,h2,rfl,⟨hn2,h.nk.kp.trans hk⟩,h.dr.drop hi hj hml q1,h.up,h.E1,h.q1,fun a b c=>yyd_ ((RG.Ev.drop hi hj hml q1).out hD c) (h.out a b c)⟩
theorem Dw.dr'(h:Dw T g w X n E q L e Y k i j u z R U M T' g' h' w'){k' i' j' u':Nat}{z':Bool}(hd:RG.Dr n E q L e Y k' i' j' u' z' R M):Dw T g w X n E q L e Y k' i' j' u' z' R U M T' g' h' w' :=
 ⟨h.nk,hd,h.up,h.E1,h.q1,h.out⟩
end
end
theorem wb_{T:Nat->Nat}{g:Gh}{w:World}{X n E q L e:Nat}{Y:Prop}{R:Nat->RG.Rs}{U:Nat->Bool}{M:Nat->Nat->List RG.Rm}{h:Hd}(hn:Net T g w X n R U M h)(hu0:Ua n E q e Y 0 R U M)
 (hE:E<=1000000000) (hq:L+q+56<3000) (hL:∀a b,(M a b).length<=90000) (hL2:∀a b,a<n->b<n->(M a b).length<=L) :
 Calls Try.prog 9 #[.pointer (some ⟨X,0,none⟩)] w fun e' w'=>∃R' U' M' T' g' h',e'=.returned (.bool true)/\NK T g w X n R' U' M' T' g' h' w'/\(∀a,a<n->U' a=true)/\RG.Qu n E e Y R' M'/\∀a b,(M' a b).length<=90000:=by
 have n9:=hn.n9
 have x0:=hn.x0'
 have H0:=Lib.hid (show NK T g w X n R U M T g h w/\Ua n E q e Y 0 R U M from ⟨⟨hn,.refl T g w⟩,hu0⟩)
 have HL:=Lib.hid (And.intro hL hL2)
 clear hn hu0 hL hL2
 go_enter Try.func9,Try.ntmps9
 go_wp2
 go_loopg [13] n (fun kx s13 wr=>∃(p:Nat) (R':Nat->RG.Rs) (U':Nat->Bool) (T':Nat->Nat) (g':Gh) (h':Hd),s13=.int .i64 p/\p+kx=n/\NK T g w X n R' U' M T' g' h' wr/\Ua n E q e Y p R' U' M)
 case atStart=>exact⟨0,R,U,T,g,h,rfl,by omega,H0.out⟩
 case round =>
  obtain⟨p,R1,U1,T1,g1,h1,rfl,hp,hnk,hua⟩:=hrel
  have HP:=Lib.hid hp
  have HN:=Lib.hid hnk
  have HU:=Lib.hid hua
  clear x0 H0 hnk hua hp
  by_cases hm:p<n
  .have hpz:(p:Int)<(n:Int):=by omega
   have hp0:¬(p:Int)<0:=by omega
   have hwp:IntKind.i64.wrap ((p:Int)+1)=(p:Int)+1:=by rw[yye_];omega
   have x1:=HN.out.net.x1
   have yu:=HN.out.net.u1 hm
   cases hu:U1 p with
   | true =>
     rw[hu]at yu
     go_wp2
     go_roundg (n-(p+1))
     case measure=>have:=HP.out;omega
     case rel=>exact⟨p+1,R1,U1,T1,g1,h1,rfl,by have:=HP.out;omega,HN.out,HU.out.skip hu⟩
   | false =>
     rw[hu]at yu
     go_wp2_with (go_at_call 17
                  refine(HU.out.step HN.out hE HL.out.1 hm hu).mono ?_
                  rintro e' w2 ⟨R2,U2,T2,g2,h2,rfl,hn2,hu2⟩
                  have HN2:=Lib.hid hn2
                  have HU2:=Lib.hid hu2
                  clear hn2 hu2)
     all_goals go_wp2
     all_goals go_roundg (n-(p+1))
     case measure=>have:=HP.out;omega
     case rel=>exact⟨p+1,R2,U2,T2,g2,h2,rfl,by have:=HP.out;omega,HN2.out,HU2.out⟩
  .have hpe:p=n:=by have:=HP.out;omega
   subst hpe
   have hpz:¬(p:Int)<(p:Int):=by omega
   have hdw:=HU.out.start HN.out hE (by omega) HL.out.1 HL.out.2
   have HD:=Lib.hid hdw
   clear hdw HU HN HP hm
   go_wp2
   go_loopg [4] 3000 (fun kx s4 wr=>∃(k:Nat) (R':Nat->RG.Rs) (U':Nat->Bool) (M':Nat->Nat->List RG.Rm) (T':Nat->Nat) (g':Gh) (h':Hd),s4=.int .i64 k/\k+kx=3000/\Dw T g w X p E q L e Y k 0 0 0 false R' U' M' T' g' h' wr)
   case atStart=>exact⟨0,_,_,_,T1,g1,h1,rfl,rfl,HD.out⟩
   case round =>
    obtain⟨k,R2,U2,M2,T2,g2,h2,rfl,hk,hd⟩:=hrel
    have hkl:=hd.dr.le
    have HK:=Lib.hid hk
    have HK2:=Lib.hid hkl
    have HD2:=Lib.hid hd
    have hkz:(k:Int)<3000:=by simp at hkl;omega
    have hwk:IntKind.i64.wrap ((k:Int)+1)=(k:Int)+1:=by rw[yye_];simp at hkl;omega
    have x0:=hd.nk.net.x0'
    clear hk hd hkl HD
    go_wp2
    go_loopg [5,40] p (fun kx s5 s40 wx=>∃(i:Nat) (z:Bool) (R':Nat->RG.Rs) (U':Nat->Bool) (M':Nat->Nat->List RG.Rm) (T':Nat->Nat) (g':Gh) (h':Hd),s5=.bool z/\s40=.int .i64 i/\i+kx=p/\Dw T g w X p E q L e Y k i 0 i z R' U' M' T' g' h' wx)
    case atStart=>exact⟨0,false,R2,U2,M2,T2,g2,h2,rfl,rfl,by omega,HD2.out⟩
    case round =>
     obtain⟨i,z,R3,U3,M3,T3,g3,h3,rfl,rfl,hi,hd⟩:=hrel
     have HI:=Lib.hid hi
     have HD3:=Lib.hid hd
     clear hi hd HD2 x0
     by_cases hm:i<p
     .have hiz:(i:Int)<(p:Int):=by omega
      have hi0:¬(i:Int)<0:=by omega
      have hwi:IntKind.i64.wrap ((i:Int)+1)=(i:Int)+1:=by rw[yye_];omega
      have y0:=HD3.out.nk.net.x0'
      have hbcn:=HD3.out.nk.net.bcn
      obtain⟨_,_,_,_,_,_,_,_,_,_,c6⟩:=HD3.out.nk.net.st hm
      cases hu:(R3 i).tk.using_ with
      | true =>
        rw[hu]at c6
        go_wp2_with (go_at_call 17
                     refine(HD3.out.done hm hu (u':=i+1)).mono ?_
                     rintro e' w4 ⟨R4,M4,T4,g4,h4,rfl,hd4⟩
                     have HD4:=Lib.hid hd4
                     have z0:=hd4.nk.net.x0'
                     clear hd4)
        clear HD3 y0 c6
        go_wp2
        go_loopg [5,61] p (fun kx s5 s61 wx=>∃(j:Nat) (z:Bool) (R':Nat->RG.Rs) (U':Nat->Bool) (M':Nat->Nat->List RG.Rm) (T':Nat->Nat) (g':Gh) (h':Hd),s5=.bool z/\s61=.int .i64 j/\j+kx=p/\Dw T g w X p E q L e Y k i j (i+1) z R' U' M' T' g' h' wx)
        case atStart=>exact⟨0,true,R4,U3,M4,T4,g4,h4,rfl,rfl,by omega,HD4.out⟩
        case round =>
         obtain⟨j,z5,R5,U5,M5,T5,g5,h5,rfl,rfl,hj,hd⟩:=hrel
         have HJ:=Lib.hid hj
         have HD5:=Lib.hid hd
         clear hj hd HD4 z0
         by_cases hm2:j<p
         .have hjz:(j:Int)<(p:Int):=by omega
          have hj0:¬(j:Int)<0:=by omega
          have hwj:IntKind.i64.wrap ((j:Int)+1)=(j:Int)+1:=by rw[yye_];omega
          have x2:=HD5.out.nk.net.x2'
          have m1:=HD5.out.nk.net.m1 hm
          have m2:=HD5.out.nk.net.m2 hm hm2
          have hmcn:=HD5.out.nk.net.mcn
          have hrcn:=HD5.out.nk.net.rcn i hm
          obtain⟨A,C,hmv⟩:∃A C,h5.mv i j=.slice A (M5 i j).length C:=by
           rcases HD5.out.nk.net.vv i j hm hm2 with ⟨e1,A,e2⟩|⟨k,off,cap,cur,e2,_⟩
           .exact⟨A,0,by rw[e2,e1];rfl⟩
           .exact⟨_,_,e2⟩
          rw[hmv]at m2
          clear hmv
          by_cases hM:M5 i j=[]
          .have hl0:¬(0:Int)<((M5 i j).length:Int):=by rw[hM];simp
           obtain⟨ml,hml⟩:∃ml,(M5 i j).length=ml:=⟨_,rfl⟩
           rw[hml]at m2 hl0
           clear hml
           go_wp2
           go_roundg (p-(j+1))
           case measure=>have:=HJ.out;omega
           case rel=>exact⟨j+1,z5,R5,U5,M5,T5,g5,h5,rfl,rfl,by have:=HJ.out;omega,HD5.out.dr' (HD5.out.dr.skip hM)⟩
          ·have hl0:(0:Int)<((M5 i j).length:Int):=by
            have:=List.length_pos_iff.2 hM
            omega
           obtain⟨ml,hml⟩:∃ml,(M5 i j).length=ml:=⟨_,rfl⟩
           rw[hml]at m2 hl0
           clear hml
           go_wp2_with (first
            | (go_at_call 20
               refine(HD5.out.deliver hm hm2 hM).mono ?_
               rintro e' w6 ⟨R6,M6,T6,g6,h6,rfl,hd6⟩
               have HD6:=Lib.hid hd6
               clear hd6)
            | (go_at_call 19
               refine(HD6.out.one).mono ?_
               rintro e' w7 ⟨rfl,hd7⟩
               have HD6:=Lib.hid hd7
               clear hd7))
           all_goals go_wp2
           all_goals go_roundg (p-(j+1))
           case measure=>have:=HJ.out;omega
           case rel=>exact⟨j+1,true,R6,U5,M6,T6,g6,h6,rfl,rfl,by have:=HJ.out;omega,HD6.out⟩
         .have hje:j=p:=by have:=HJ.out;omega
          subst hje
          have hjz:¬(j:Int)<(j:Int):=by omega
          go_wp2
          go_roundg (j-(i+1))
          case measure=>have:=HI.out;omega
          case rel=>exact⟨i+1,z5,R5,U5,M5,T5,g5,h5,rfl,rfl,by have:=HI.out;omega,HD5.out.dr' HD5.out.dr.row⟩
      | false =>
        rw[hu]at c6
        have HD4:=Lib.hid (HD3.out.dr' (HD3.out.dr.idle hm hu))
        have z0:=y0
        clear HD3
        go_wp2
        go_loopg [5,61] p (fun kx s5 s61 wx=>∃(j:Nat) (z:Bool) (R':Nat->RG.Rs) (U':Nat->Bool) (M':Nat->Nat->List RG.Rm) (T':Nat->Nat) (g':Gh) (h':Hd),s5=.bool z/\s61=.int .i64 j/\j+kx=p/\Dw T g w X p E q L e Y k i j (i+1) z R' U' M' T' g' h' wx)
        case atStart=>exact⟨0,z,R3,U3,M3,T3,g3,h3,rfl,rfl,by omega,HD4.out⟩
        case round =>
         obtain⟨j,z5,R5,U5,M5,T5,g5,h5,rfl,rfl,hj,hd⟩:=hrel
         have HJ:=Lib.hid hj
         have HD5:=Lib.hid hd
         clear hj hd HD4 z0
         by_cases hm2:j<p
         .have hjz:(j:Int)<(p:Int):=by omega
          have hj0:¬(j:Int)<0:=by omega
          have hwj:IntKind.i64.wrap ((j:Int)+1)=(j:Int)+1:=by rw[yye_];omega
          have x2:=HD5.out.nk.net.x2'
          have m1:=HD5.out.nk.net.m1 hm
          have m2:=HD5.out.nk.net.m2 hm hm2
          have hmcn:=HD5.out.nk.net.mcn
          have hrcn:=HD5.out.nk.net.rcn i hm
          obtain⟨A,C,hmv⟩:∃A C,h5.mv i j=.slice A (M5 i j).length C:=by
           rcases HD5.out.nk.net.vv i j hm hm2 with ⟨e1,A,e2⟩|⟨k,off,cap,cur,e2,_⟩
           .exact⟨A,0,by rw[e2,e1];rfl⟩
           .exact⟨_,_,e2⟩
          rw[hmv]at m2
          clear hmv
          by_cases hM:M5 i j=[]
          .have hl0:¬(0:Int)<((M5 i j).length:Int):=by rw[hM];simp
           obtain⟨ml,hml⟩:∃ml,(M5 i j).length=ml:=⟨_,rfl⟩
           rw[hml]at m2 hl0
           clear hml
           go_wp2
           go_roundg (p-(j+1))
           case measure=>have:=HJ.out;omega
           case rel=>exact⟨j+1,z5,R5,U5,M5,T5,g5,h5,rfl,rfl,by have:=HJ.out;omega,HD5.out.dr' (HD5.out.dr.skip hM)⟩
          ·have hl0:(0:Int)<((M5 i j).length:Int):=by
            have:=List.length_pos_iff.2 hM
            omega
           obtain⟨ml,hml⟩:∃ml,(M5 i j).length=ml:=⟨_,rfl⟩
           rw[hml]at m2 hl0
           clear hml
           go_wp2_with (first
            | (go_at_call 20
               refine(HD5.out.deliver hm hm2 hM).mono ?_
               rintro e' w6 ⟨R6,M6,T6,g6,h6,rfl,hd6⟩
               have HD6:=Lib.hid hd6
               clear hd6)
            | (go_at_call 19
               refine(HD6.out.one).mono ?_
               rintro e' w7 ⟨rfl,hd7⟩
               have HD6:=Lib.hid hd7
               clear hd7))
           all_goals go_wp2
           all_goals go_roundg (p-(j+1))
           case measure=>have:=HJ.out;omega
           case rel=>exact⟨j+1,true,R6,U5,M6,T6,g6,h6,rfl,rfl,by have:=HJ.out;omega,HD6.out⟩
         .have hje:j=p:=by have:=HJ.out;omega
          subst hje
          have hjz:¬(j:Int)<(j:Int):=by omega
          go_wp2
          go_roundg (j-(i+1))
          case measure=>have:=HI.out;omega
          case rel=>exact⟨i+1,z5,R5,U5,M5,T5,g5,h5,rfl,rfl,by have:=HI.out;omega,HD5.out.dr' HD5.out.dr.row⟩
     .have hie:i=p:=by have:=HI.out;omega
      subst hie
      have hiz:¬(i:Int)<(i:Int):=by omega
      cases z with
      | true =>
        have HR:=Lib.hid (HD3.out.dr' HD3.out.dr.round)
        go_wp2
        go_roundg (3000-(k+1))
        case measure=>have:=HK.out;omega
        case rel=>exact⟨k+1,R3,U3,M3,T3,g3,h3,rfl,by have:=HK.out;omega,HR.out⟩
      | false =>
        go_wp2
        go_ret
        first
         |exact⟨rfl,R3,U3,M3,T3,g3,h3,HD3.out.nk,HD3.out.up,HD3.out.dr.quiet,HD3.out.dr.len HD3.out.q1 HD3.out.out⟩
         |exact⟨rfl,R3,U3,M3,⟨T3,g3,h3,HD3.out.nk⟩,HD3.out.up,HD3.out.dr.quiet,HD3.out.dr.len HD3.out.q1 HD3.out.out⟩
         |exact⟨R3,U3,M3,T3,g3,h3,rfl,HD3.out.nk,HD3.out.up,HD3.out.dr.quiet,HD3.out.dr.len HD3.out.q1 HD3.out.out⟩
theorem Pl.nk{g:Gh}{w:World}{K X n:Nat}{xs:List Int}{k j:Nat}{R:Nat->RG.Rs}{U:Nat->Bool}{M:Nat->Nat->List RG.Rm}{T:Nat->Nat}{g':Gh}{h:Hd}{w':World}(hp:Pl g w K X n xs k j R U M T g' h w'){T2:Nat->Nat}{g2:Gh}{w2:World}(hk:Kp T g' w' T2 g2 w2):Below w.heap.size w w2 :=
 hp.below.trans ⟨hk.os,hk.tape,hk.output,hk.size,fun b hb=>(hk.fr b (zzk_ hb hp.below.size) (hp.T0 b hb)).2⟩
theorem Rch.ua{n j:Nat}{R:Nat->RG.Rs}{U:Nat->Bool}{M:Nat->Nat->List RG.Rm}(h:RG.Rch n j R U M)(h1:1<=n)(h4:n<=4):Ua n (4*j) (8*j) 0 False 0 R U M:=by
 obtain⟨D,hD⟩:=h.gi h1 h4
 exact⟨⟨D,hD,fun y=>y.elim⟩,h.qq h1 h4,fun a ha=>by omega,fun y=>y.elim⟩
theorem Qu.ua{n E e s:Nat}{Y:Prop}{R:Nat->RG.Rs}{U:Nat->Bool}{M:Nat->Nat->List RG.Rm}(h:RG.Qu n E e Y R M)(hu:∀a,a<n->U a=true)(hs:s<n)(hn:n<=4) :
 Ua n (E+4) 8 (RG.beginR n s (R s)).1.ep True 0 (RG.updR R s (RG.beginR n s (R s)).1) U (RG.put M s (RG.beginR n s (R s)).2):=by
 obtain⟨D,h1,h2⟩:=h.begin hs
 exact⟨⟨D,h1,fun _=>h2⟩,h.begin_q hs hn,fun a ha=>by omega,fun _=>hu⟩
theorem Qu.lens{n E e s:Nat}{Y:Prop}{R:Nat->RG.Rs}{M:Nat->Nat->List RG.Rm}(h:RG.Qu n E e Y R M)(hM:∀a b,(M a b).length<=90000)(hs:s<n)(hn:n<=4) :
 (∀a b,a<n->b<n->(RG.put M s (RG.beginR n s (R s)).2 a b).length<=4)/\∀a b,(RG.put M s (RG.beginR n s (R s)).2 a b).length<=90000:=by
 have ho:=RG.begin_out (n:=n) (s:=s) (E:=E) hn (R s)
 have key:∀a b,a<n->b<n->(RG.put M s (RG.beginR n s (R s)).2 a b).length<=4:=fun a b ha hb=>by
  have h1:=RG.put_len' s a b (RG.beginR n s (R s)).2 M
  rw[h.box a b ha hb]at h1
  have:=ho.len
  simp only[List.length_nil]at h1
  omega
 refine⟨key,fun a b=>?_⟩
 by_cases c:a<n/\b<n
 .have:=key a b c.1 c.2;omega
 .rw[RG.put_out hs c fun p hp=>⟨(ho.to p hp).1,(ho.to p hp).2.1⟩];exact hM a b
theorem bel6{X n:Nat}{R:Nat->RG.Rs}{U:Nat->Bool}{M:Nat->Nat->List RG.Rm}{T T5 T6:Nat->Nat}{g g' g6:Gh}{h:Hd}{w W0 W w5 w6:World}{b:RG.Rs}{l:RG.Out}{rs:Array Value}{A:Option Addr}{C Kb:Nat}(hB0:Below w.heap.size w W0)(ha:Aft T g W0 X n R U M h b l g' W rs A C Kb)(hT:∀k,k<w.heap.size->T k=0)
 (t2:w5.os=W.os) (t3:w5.tape=W.tape) (t4:w5.output=W.output) (t5:W.heap.size<=w5.heap.size) (t6:∀k,k<W.heap.size->T k=0->T5 k=0/\w5.heap[k]?=W.heap[k]?) (hk:Kp T5 g' w5 T6 g6 w6):Below w.heap.size w w6 :=
 ⟨hk.os.trans (t2.trans (ha.os.trans hB0.os)),hk.tape.trans (t3.trans (ha.tape.trans hB0.tape)),hk.output.trans (t4.trans (ha.output.trans hB0.output)),yyd_ hB0.size (yyd_ ha.size (yyd_ t5 hk.size)),fun k hkl=>by
  have h0:k<W0.heap.size:=zzk_ hkl hB0.size
  have h1:k<W.heap.size:=zzk_ h0 ha.size
  obtain⟨q1,q2⟩:=t6 k h1 (hT k hkl)
  exact(hk.fr k (zzk_ h1 t5) q1).2.trans (q2.trans ((ha.fr k h0).trans (hB0.block k hkl)))⟩
theorem mr_{g:Gh}{w:World}{b:RG.Rs}{vs:Array Value}(h:Rep g w (rv b) (.agg vs)):vs[0]?=some (.int .i64 b.ep):=by
 obtain⟨h1,h2,h3⟩:=xD_ h
 have hc:vs.toList[0]?=some (vs.toList[0]'(by simp;omega)):=zzf_ _
 have:=(h3 0 _ _ (show (sc b)[0]?=some (.s (.int .i64 b.ep)) from rfl) hc).of_s rfl
 rw[this,Array.getElem?_toList]at hc
 exact hc
theorem sv_(R:Nat->RG.Rs):∀k,RG.hasN R k<=k
 |0=>zzl_ _
 | k + 1 => by
   have:=sv_ R k
   simp only[RG.hasN]
   split<;>omega
theorem uY_(l:List Int)(n who:Nat)(hn:n<256)(hwho:who<256):PC Try.prog 4 [.list 1 (iv l),.s (.int .u8 n),.s (.int .u8 who)] (fun r=>r=.s (.bool true)):=by
 refine n2_ (by intro x hx;simp at hx;rcases hx with rfl|rfl|rfl<;>rfl) fun g w vs hl hr hlt=>?_
 obtain⟨lv,nv,ov,rfl⟩:∃a b c,vs=#[a,b,c]:=by
  have:vs.toList.length=3:=by simpa using hl.symm
  match hv:vs.toList,this with
  |[a,b,c],_=>exact⟨a,b,c,Array.ext' (by simpa using hv)⟩
 have hlv:=hr 0 _ lv rfl rfl
 have hnv:=(hr 1 _ nv rfl rfl).of_s rfl
 subst hnv
 have hov:=(hr 2 _ ov rfl rfl).of_s rfl
 subst hov
 have fin:∀w',Below w.heap.size w w'->∃(v:Value) (r:V) (I':Nat->Nat),Ending.returned (.bool true)=.returned v/\r=.s (.bool true)/\immT r=true/\okV r=true/\(∀b,b<w.heap.size->I' b=g.I b)/\(∀b,0<I' b->b<w'.heap.size)/\Rep ⟨I',g.φ⟩ w' r v/\Below w.heap.size w w':=fun w' hb =>
  ⟨_,_,g.I,rfl,rfl,rfl,rfl,fun _ _=>rfl,fun b hb'=>zzk_ (hlt b hb') hb.size,.s rfl,hb⟩
 have HF0:=Lib.hid fin
 have mx:=zN_
 have HL:=Lib.hid hlv
 have H0:=Lib.hid (ss_ hlt hlv)
 have c1:IntKind.i64.wrap (n:Int)=n:=by rw[yye_];omega
 have c2:(n:Int).tmod 4=((n%4:Nat):Int):=by rw[Int.tmod_eq_emod_of_nonneg (by omega)];rfl
 have c3:IntKind.i64.wrap ((n%4:Nat):Int)=((n%4:Nat):Int):=by rw[yye_];omega
 obtain⟨N,hN⟩:∃N,N=1+n%4:=⟨_,rfl⟩
 have c5:(1:Int)+((n%4:Nat):Int)=(N:Int):=by omega
 have c4:IntKind.i64.wrap (1+((n%4:Nat):Int))=(N:Int):=by rw[yye_];omega
 have hN2:1<=N/\N<=4:=by omega
 have c7:(1:Int)+(n:Int)%4=(N:Int):=by omega
 have c6:IntKind.i64.wrap (N:Int)=(N:Int):=by rw[yye_];omega
 have c8:IntKind.i64.wrap (who:Int)=(who:Int):=by rw[yye_];omega
 obtain⟨s,hs0⟩:∃s,s=who%N:=⟨_,rfl⟩
 have hs:s<N:=by rw[hs0];exact Nat.mod_lt _ (by omega)
 have hN0:¬(N:Int)=0:=by omega
 have hNb:((N:Int)==0)=false:=by simp;omega
 have c9:(who:Int).tmod (N:Int)=(s:Int):=by rw[Int.tmod_eq_emod_of_nonneg (by omega),hs0];rfl
 have c10:IntKind.i64.wrap (s:Int)=(s:Int):=by rw[yye_];omega
 have c11:(who:Int)%(N:Int)=(s:Int):=by rw[hs0];rfl
 have hsz:(s:Int)<(N:Int):=by omega
 have hsn:¬(s:Int)<0:=by omega
 clear hN hs0
 clear hr hlv fin
 have hd:decide (l.length<=400)=true\/decide (l.length<=400)=false:=by cases decide (l.length<=400)<;>simp
 rcases hd with hd|hd
 .have h4:l.length<=400:=of_decide_eq_true hd
  go_enter Try.func4,Try.ntmps4
  go_wp2_with (first
   | (go_at_call 6
      refine H0.out.mono ?_
      rintro e w1 ⟨rfl,hb1⟩
      have hlt1:∀k,0<g.I k->k<w1.heap.size:=fun k hk=>zzk_ (hlt k hk) hb1.size
      have HB1:=Lib.hid hb1
      have HLT:=Lib.hid hlt1
      clear hb1 hlt1)
   | (go_at_call 8
      (try rw[c7])
      refine(nF_ HLT.out (rQ_ hlt HL.out HB1.out) h4 (n:=N) (by omega) (by omega)).mono ?_
      rintro e w2 ⟨X,K,j,R,U,M,T,g2,h2,rfl,hj,hp⟩
      have HJ:=Lib.hid hj
      have HP:=Lib.hid hp
      clear hp hj)
   | (go_at_call 9
      refine(wb_ (L:=4*j) HP.out.net (Rch.ua HP.out.rch (by omega) (by omega)) (by have:=HJ.out;omega) (by have:=HJ.out;omega) (fun a b=>by have:=HP.out.rch.len (by omega) (by omega) a b;have:=HJ.out;omega) (fun a b _ _=>HP.out.rch.len (by omega) (by omega) a b)).mono ?_
      rintro e w3 ⟨R1,U1,M1,T1,g1,h1,rfl,hnk,hup,hqu,hln⟩
      have x0:=hnk.net.x0'
      have hT1:∀k,k<w.heap.size->T1 k=0:=fun k hk=>(hnk.kp.fr k (zzk_ (zzk_ hk HB1.out.size) HP.out.below.size) (HP.out.T0 k (zzk_ hk HB1.out.size))).1
      have HT1:=Lib.hid hT1
      have hb3:=HB1.out.trans (Below.mono1 (HP.out.nk hnk.kp) HB1.out.size)
      have HB3:=Lib.hid hb3
      have HNK:=Lib.hid hnk
      have HQ:=Lib.hid (And.intro hup (And.intro hqu hln))
      clear hnk hup hqu hln hb3 hT1))
  all_goals clear HLT
  all_goals go_wp2
  have hbcn:=HNK.out.net.bcn
  obtain⟨W0,hW⟩:∃W0,W0=w3:=⟨_,rfl⟩
  rw[<-hW]
  rw[<-hW]at x0
  have hnW:Net T1 g1 W0 X N R1 U1 M1 h1:=by rw[hW];exact HNK.out.net
  have hB0:Below w.heap.size w W0:=by rw[hW];exact HB3.out
  clear hW HB3 HNK
  have HN:=Lib.hid hnW
  have HB0:=Lib.hid hB0
  obtain⟨vs,hvs,hV,hrv,hv1,k0,_⟩:=hnW.st hs
  have HVS:=Lib.hid hvs
  have hS:∀wx,Below W0.heap.size W0 wx->wx.cell? ⟨X,0,none⟩=some (.slice (some ⟨h1.bk,0,none⟩) N h1.bc)/\Hs wx h1.bk (s*9) vs:=fun wx hb=>⟨xi_ hb x0 hnW.lt.1,hV.below hb hnW.lt.2.1⟩
  have HS:=Lib.hid hS
  obtain⟨D,hD,_⟩:=HQ.out.2.1.ex
  have hE2:4*j<=1000:=by have:=HJ.out;omega
  have hbd:=hD.bd s hs
  have hok:=hD.inv.ok hs (by omega)
  have hnx:=RG.nextE_lt (n:=N) (i:=s) (e:=(R1 s).ep) (by omega)
  have hpc:=vT_ (r:=R1 s) (n:=N) (i:=s) hok (by omega)
  obtain⟨b,hb⟩:∃b,b=(RG.beginR N s (R1 s)).1:=⟨_,rfl⟩
  obtain⟨lo,hlo⟩:∃lo,lo=(RG.beginR N s (R1 s)).2:=⟨_,rfl⟩
  have hcall:∀wx,Below W0.heap.size W0 wx->Calls Try.prog 10 #[.agg vs,.int .i64 s,.int .i64 N] wx fun e w'=>∃g' rs A C,e=.returned (.tuple #[.agg rs,.slice A lo.length C,.int .i64 0])/\Gv g1 wx b lo w' g' rs A C:=by
   intro wx hbx
   have hI:=hnW.keepI hbx
   refine(xL_ hpc (g:=g1) (w:=wx) (vals:=#[.agg vs,.int .i64 s,.int .i64 N]) rfl ?_ ?_ fun k hk=>zzk_ (hnW.Ilt k hk) hbx.size).mono ?_
   .intro x hx
    simp at hx
    rcases hx with rfl|rfl|rfl<;>rfl
   .intro x u c hu hc
    match x,hu,hc with
    |0,hu,hc=>cases hu;cases hc;exact x5_ hrv hI
    |1,hu,hc=>cases hu;cases hc;exact .s rfl
    |2,hu,hc=>cases hu;cases hc;exact .s rfl
   .rintro e w' ⟨v,r,g',rfl,rfl,hr,hbel,hg,hlt⟩
    obtain⟨rs,A,C,rfl,hv⟩:=q1_ hr hbel hg hlt
    rw[hb,hlo]
    exact⟨g',rs,A,C,rfl,hv⟩
  have HCALL:=Lib.hid hcall
  have ho:=RG.begin_out (n:=N) (s:=s) (E:=4*j) (by omega) (R1 s)
  have hua:=Qu.ua HQ.out.2.1 HQ.out.1 hs (by omega)
  have hle:=Qu.lens HQ.out.2.1 HQ.out.2.2 hs (by omega)
  rw[<-hb,<-hlo]at hua
  rw[<-hlo]at ho hle
  have HO:=Lib.hid ho
  have HUA:=Lib.hid hua
  have HLE:=Lib.hid hle
  have HLN:=Lib.hid HQ.out.2.2
  have hB1:Below W0.heap.size W0 W0.drew:=⟨rfl,rfl,rfl,zzl_ _,fun _ _=>rfl⟩
  have hB2:Below W0.heap.size W0 (W0.drew.alloc (.cells #[.int .i64 0,.bool false,.bool false,.slice none 0 0,.bool false,.bool false,.bool false,.int .i64 0,.int .i64 0] 37)):=⟨rfl,rfl,rfl,by simp,fun k hk=>Below.heap_alloc W0.drew _ k hk⟩
  have hZ2:(W0.drew.alloc (.cells #[.int .i64 0,.bool false,.bool false,.slice none 0 0,.bool false,.bool false,.bool false,.int .i64 0,.int .i64 0] 37)).heap[W0.heap.size]?=some (.cells #[.int .i64 0,.bool false,.bool false,.slice none 0 0,.bool false,.bool false,.bool false,.int .i64 0,.int .i64 0] 37 (0,0)):=heap_alloc_new W0.drew _
  have HB1:=Lib.hid hB1
  have HB2:=Lib.hid hB2
  have HZ2:=Lib.hid hZ2
  clear hB1 hB2 hZ2
  clear hV hrv hv1 k0 hnW hB0 hS hbd hok hnx hpc hcall ho hua hle hb hlo hvs hD
  have s0:=HS.out _ HB1.out
  refine zA_ (fun wx=>wx.cell? ⟨X,0,none⟩=some (.slice (some ⟨h1.bk,0,none⟩) N h1.bc)/\Hs wx h1.bk (s*9) vs) 19 mx ?_
  refine z1_ (i:=0) (v:=?_) rfl (by kernel_rfl) (fun _ _ _ h=>h) (by kernel_rfl) ?_ (fun _=>s0) ?_
  rotate_left
  ·(intro w9;go_simp;first|done|with_reducible rfl)
  try simp only[Act.put,zze_,zzi_,zzj_]
  refine z1_ (i:=1) (v:=?_) rfl (by kernel_rfl) (fun _ _ _ h=>h) (by kernel_rfl) ?_ (fun _=>s0) ?_
  rotate_left
  ·(intro w9;go_simp;first|done|with_reducible rfl)
  try simp only[Act.put,zze_,zzi_,zzj_]
  refine z1_ (i:=2) (v:=?_) rfl (by kernel_rfl) (fun _ _ _ h=>h) (by kernel_rfl) ?_ (fun _=>s0) ?_
  rotate_left
  ·(intro w9;go_simp;first|done|with_reducible rfl)
  try simp only[Act.put,zze_,zzi_,zzj_]
  refine zs_ (i:=3) (v:=?_) rfl (by kernel_rfl) (by kernel_rfl) (fun _ _ _ h=>h) (by kernel_rfl) ?_ (fun _=>s0) ?_
  rotate_left
  ·(intro w9 hSw;(try dsimp only at hSw);obtain⟨S1,S0⟩:=hSw;clear S0;go_simp;first|done|with_reducible rfl)
  try simp only[Act.put,zze_,zzi_,zzj_]
  refine z1_ (i:=4) (v:=?_) rfl (by kernel_rfl) (fun _ _ _ h=>h) (by kernel_rfl) ?_ (fun _=>s0) ?_
  rotate_left
  ·(intro w9;go_simp;first|done|with_reducible rfl)
  try simp only[Act.put,zze_,zzi_,zzj_]
  refine z1_ (i:=5) (v:=?_) rfl (by kernel_rfl) (fun _ _ _ h=>h) (by kernel_rfl) ?_ (fun _=>s0) ?_
  rotate_left
  ·(intro w9;go_simp;first|done|with_reducible rfl)
  try simp only[Act.put,zze_,zzi_,zzj_]
  refine zs_ (i:=6) (v:=.agg vs) rfl (by kernel_rfl) (by kernel_rfl) (fun _ _ _ h=>h) (by kernel_rfl) (fun w9 hSw=>yG_ 37 _ rfl (u:=.pointer (some ⟨h1.bk,s*9,none⟩)) rfl (sz37.ld HVS.out hSw.2)) (fun _=>s0) ?_
  try simp only[Act.put,zze_,zzi_,zzj_]
  refine z1_ (i:=7) (v:=?_) rfl (by kernel_rfl) (fun _ _ _ h=>h) (by kernel_rfl) ?_ (fun _=>s0) ?_
  rotate_left
  ·(intro w9;go_simp;first|done|with_reducible rfl)
  try simp only[Act.put,zze_,zzi_,zzj_]
  refine z1_ (i:=8) (v:=?_) rfl (by kernel_rfl) (fun _ _ _ h=>h) (by kernel_rfl) ?_ (fun _=>s0) ?_
  rotate_left
  ·(intro w9;go_simp;first|done|with_reducible rfl)
  try simp only[Act.put,zze_,zzi_,zzj_]
  refine z1_ (i:=9) (v:=?_) rfl (by kernel_rfl) (fun _ _ _ h=>h) (by kernel_rfl) ?_ (fun _=>s0) ?_
  rotate_left
  ·(intro w9;go_simp;first|done|with_reducible rfl)
  try simp only[Act.put,zze_,zzi_,zzj_]
  refine z1_ (i:=10) (v:=?_) rfl (by kernel_rfl) (fun _ _ _ h=>h) (by kernel_rfl) ?_ (fun _=>s0) ?_
  rotate_left
  ·(intro w9;go_simp;first|done|with_reducible rfl)
  try simp only[Act.put,zze_,zzi_,zzj_]
  refine zs_ (i:=11) (v:=?_) rfl (by kernel_rfl) (by kernel_rfl) (fun _ _ _ h=>h) (by kernel_rfl) ?_ (fun _=>s0) ?_
  rotate_left
  ·(intro w9 hSw;(try dsimp only at hSw);obtain⟨S1,S0⟩:=hSw;clear S0;go_simp;first|done|with_reducible rfl)
  try simp only[Act.put,zze_,zzi_,zzj_]
  refine z1_ (i:=12) (v:=?_) rfl (by kernel_rfl) (fun _ _ _ h=>h) (by kernel_rfl) ?_ (fun _=>s0) ?_
  rotate_left
  ·(intro w9;go_simp;first|done|with_reducible rfl)
  try simp only[Act.put,zze_,zzi_,zzj_]
  refine za_ (rs:=[13,18]) (by decide +kernel) (by simp) ?_
  refine z3_ rfl (fun K hK=>?_) (z3_ rfl (fun K hK=>?_) AllG.nil)
  .go_simp
   refine(HCALL.out _ HB1.out).mono ?_
   rintro e w' ⟨g',rs,A,C,rfl,hv⟩
   have hB3:=HB1.out.trans (Below.mono1 hv.below HB1.out.size)
   have s1:=HS.out _ hB3
   go_simp
   refine hK.out _ _ (fun _=>s1) ?_
   clear hK K
   try simp only[Act.put,zze_,zzi_,zzj_]
   refine z1_ (i:=14) (v:=?_) rfl (by kernel_rfl) (fun _ _ _ h=>h) (by kernel_rfl) ?_ (fun _=>s1) ?_
   rotate_left
   ·(intro w9;go_simp;first|done|with_reducible rfl)
   try simp only[Act.put,zze_,zzi_,zzj_]
   refine z1_ (i:=15) (v:=?_) rfl (by kernel_rfl) (fun _ _ _ h=>h) (by kernel_rfl) ?_ (fun _=>s1) ?_
   rotate_left
   ·(intro w9;go_simp;first|done|with_reducible rfl)
   try simp only[Act.put,zze_,zzi_,zzj_]
   refine z1_ (i:=16) (v:=?_) rfl (by kernel_rfl) (fun _ _ _ h=>h) (by kernel_rfl) ?_ (fun _=>s1) ?_
   rotate_left
   ·(intro w9;go_simp;first|done|with_reducible rfl)
   try simp only[Act.put,zze_,zzi_,zzj_]
   refine z1_ (i:=17) (v:=?_) rfl (by kernel_rfl) (fun _ _ _ h=>h) (by kernel_rfl) ?_ (fun _=>s1) ?_
   rotate_left
   ·(intro w9;go_simp;first|done|with_reducible rfl)
   try simp only[Act.put,zze_,zzi_,zzj_]
   obtain⟨W,hW,hA⟩:=hv.aft1 HN.out HB1.out (zs:=#[.int .i64 0,.bool false,.bool false,.slice none 0 0,.bool false,.bool false,.bool false,.int .i64 0,.int .i64 0]) rfl
   have s2:=HS.out _ (hB3.trans (Below.mono1 (zV_ w' (.cells #[.int .i64 0,.bool false,.bool false,.slice none 0 0,.bool false,.bool false,.bool false,.int .i64 0,.int .i64 0] 37)) hB3.size))
   refine za_ (rs:=[18]) (by decide +kernel) (by simp) ?_
   refine z3_ rfl (fun K hK=>?_) AllG.nil
   go_simp
   refine hK.out _ _ (fun _=>s2) ?_
   clear hK K s2
   try simp only[Act.put,zze_,zzi_,zzj_]
   refine zY_ (by kernel_rfl) (by kernel_rfl) (by decide) ?_
   simp only[List.drop_succ_cons,List.drop_zero]
   refine zq_ rfl rfl 37 _ _ rfl _ _ rfl rfl hW ?_
   clear s0 s1 hW hv
   have hKs:=hB3.size
   generalize w'.heap.size=Kb at hA hKs ⊢
   have HKS:=Lib.hid hKs
   have HA:=Lib.hid hA
   clear hA
   have hcall2:=zK_ HA.out.net hs HA.out.rb HA.out.rl HO.out.to (by have:=HO.out.len;omega) (fun a b=>by have:=HLN.out a b;have:=HO.out.len;omega)
   have HC2:=Lib.hid hcall2
   have HLD:=Lib.hid (sz37.ld (xD_ HA.out.rb).1 (zw_ HA.out.box))
   clear hcall2
   go_wp2_with (first
    |(refine zG_ rfl 37 _ rfl _ _ rfl HLD.out ?_)
    |(refine zX_ 37 _ rfl (by kernel_rfl) _ _ rfl HLD.out ?_)
    | (go_at_call 11
       refine HC2.out.mono ?_
       rintro e w5 ⟨T5,h5,rfl,hk5⟩
       have HK5:=Lib.hid hk5
       clear hk5)
    | (go_at_call 9
       refine(wb_ (L:=4) HK5.out.1 HUA.out (by omega) (by omega) HLE.out.2 HLE.out.1).mono ?_
       rintro e w6 ⟨R6,U6,M6,T6,g6,h6,rfl,hnk6,_,hqu6,_⟩
       have HN6:=Lib.hid hnk6
       have hf6:=hqu6.fin
       have HF6:=Lib.hid hf6
       have z0:=hnk6.net.x0'
       obtain⟨t1,t2,t3,t4,t5,t6⟩:=HK5.out
       have ha:=HA.out
       have hkl:Kb<W.heap.size:=(zzm_.1 ha.box).1
       have hTK:T1 Kb=0:=by
        apply Classical.byContradiction
        intro q
        have:=(HN.out.tz Kb q).1
        have:=HKS.out
        omega
       have f5:=t6 Kb hkl hTK
       have f6:=hnk6.kp.fr Kb (zzk_ hkl t5) f5.1
       have hbx:w6.heap[Kb]?=some (.cells rs 37 (0,0)):=f6.2.trans (f5.2.trans ha.box)
       have q3:w6.cell? ⟨Kb,0,none⟩=some (.int .i64 (b.ep:Nat)):=(cell_of_row w6 Kb 0 rs 37 (0,0) hbx).trans (mr_ ha.rb)
       have HQ3:=Lib.hid (And.intro q3 (zzm_.1 hbx).1)
       have hb6:=bel6 HB0.out ha HT1.out t2 t3 t4 t5 t6 hnk6.kp
       have HB6:=Lib.hid hb6
       clear hnk6 hqu6 hf6 t1 t2 t3 t4 t5 t6 ha hkl hTK f5 f6 hbx hb6 q3))
   all_goals go_wp2
   go_loopg [13,81] N (fun kx s13 s81 wx=>∃p:Nat,s13=.int .i64 (RG.hasN R6 p:Nat)/\s81=.int .i64 p/\p+kx=N/\Below w6.heap.size w6 wx)
   case atStart=>exact⟨0,rfl,rfl,by omega,Below.refl _ _⟩
   case round =>
    obtain⟨p,rfl,rfl,hp,hbel⟩:=hrel
    have HPK:=Lib.hid hp
    have HBR:=Lib.hid hbel
    have hnr:=HN6.out.net.below hbel
    clear z0
    by_cases hm:p<N
    .have hpz:(p:Int)<(N:Int):=by omega
     have hp0:¬(p:Int)<0:=by omega
     have hwp:IntKind.i64.wrap ((p:Int)+1)=(p:Int)+1:=by rw[yye_];omega
     have y0:=hnr.x0'
     have hbcn:=hnr.bcn
     obtain⟨_,_,_,_,_,k0,k1,k2,k4,k5,_⟩:=hnr.st hm
     obtain⟨f1,f2,f3,f4⟩:=HF6.out.1 p hm
     rw[f4]at k0
     rw[f2]at k1
     rw[f3]at k2
     rw[f1]at k5
     have kb:=xi_ hbel HQ3.out.1 HQ3.out.2
     have hle:=sv_ R6 p
     have hwh:IntKind.i64.wrap ((RG.hasN R6 p:Int)+1)=(RG.hasN R6 p:Int)+1:=by rw[yye_];omega
     have hs1:RG.hasN R6 (p+1)=RG.hasN R6 p+if (R6 p).tk.has=true then 1 else 0:=rfl
     have HS1:=Lib.hid hs1
     have d0:wr.drew.cell? ⟨X,0,none⟩=some (.slice (some ⟨h6.bk,0,none⟩) N h6.bc):=y0
     have d1:wr.drew.cell? ⟨h6.bk,p*9,none⟩=some (.int .i64 b.ep):=k0
     have d2:wr.drew.cell? ⟨h6.bk,p*9+1,none⟩=some (.bool false):=k1
     have d3:wr.drew.cell? ⟨h6.bk,p*9+2,none⟩=some (.bool false):=k2
     have d5:wr.drew.cell? ⟨h6.bk,p*9+5,none⟩=some (.bool false):=k5
     have d6:wr.drew.cell? ⟨Kb,0,none⟩=some (.int .i64 b.ep):=kb
     clear hnr hbel hp f1 f2 f3 f4 hle hs1
     cases hh:(R6 p).tk.has
     all_goals
      rw[hh]at k4
      go_wp2
      go_region
      go_wp2
      go_roundg (N-(p+1))
      case measure=>have:=HPK.out;omega
      case rel =>
       have h1:=HS1.out
       rw[hh]at h1
       exact⟨p+1,by simp[h1],rfl,by have:=HPK.out;omega,HBR.out.trans ⟨rfl,rfl,rfl,zzl_ _,fun _ _=>rfl⟩⟩
    .have hpe:p=N:=by have:=HPK.out;omega
     have hpz:¬(p:Int)<(N:Int):=by omega
     have hone:=HF6.out.2
     rw[hpe,hone]
     rw[hpe]at hpz
     clear hnr hbel hp hm hone
     go_wp2_with (go_at_call 7
                  refine(wh_ (g:=g) (fun k hk=>zzk_ (hlt k hk) (yyd_ HB6.out.size HBR.out.size))).mono ?_
                  rintro e w9 ⟨rfl,hb9⟩
                  have HB9:=Lib.hid (HB6.out.trans (Below.mono1 (HBR.out.trans (Below.mono1 hb9 HBR.out.size)) HB6.out.size))
                  clear hb9)
     all_goals go_wp2
     all_goals go_ret
     all_goals exact HF0.out _ HB9.out
  .go_simp
   have s1:=HS.out _ HB2.out
   refine hK.out _ _ (fun _=>s1) ?_
   clear hK K
   try simp only[Act.put,zze_,zzi_,zzj_]
   refine za_ (rs:=[13]) (by decide +kernel) (by simp) ?_
   refine z3_ rfl (fun K hK=>?_) AllG.nil
   go_simp
   refine(HCALL.out _ HB2.out).mono ?_
   rintro e w' ⟨g',rs,A,C,rfl,hv⟩
   have hB3:=HB2.out.trans (Below.mono1 hv.below HB2.out.size)
   have s2:=HS.out _ hB3
   go_simp
   refine hK.out _ _ (fun _=>s2) ?_
   clear hK K
   try simp only[Act.put,zze_,zzi_,zzj_]
   refine z1_ (i:=14) (v:=?_) rfl (by kernel_rfl) (fun _ _ _ h=>h) (by kernel_rfl) ?_ (fun _=>s2) ?_
   rotate_left
   ·(intro w9;go_simp;first|done|with_reducible rfl)
   try simp only[Act.put,zze_,zzi_,zzj_]
   refine z1_ (i:=15) (v:=?_) rfl (by kernel_rfl) (fun _ _ _ h=>h) (by kernel_rfl) ?_ (fun _=>s2) ?_
   rotate_left
   ·(intro w9;go_simp;first|done|with_reducible rfl)
   try simp only[Act.put,zze_,zzi_,zzj_]
   refine z1_ (i:=16) (v:=?_) rfl (by kernel_rfl) (fun _ _ _ h=>h) (by kernel_rfl) ?_ (fun _=>s2) ?_
   rotate_left
   ·(intro w9;go_simp;first|done|with_reducible rfl)
   try simp only[Act.put,zze_,zzi_,zzj_]
   refine z1_ (i:=17) (v:=?_) rfl (by kernel_rfl) (fun _ _ _ h=>h) (by kernel_rfl) ?_ (fun _=>s2) ?_
   rotate_left
   ·(intro w9;go_simp;first|done|with_reducible rfl)
   try simp only[Act.put,zze_,zzi_,zzj_]
   obtain⟨W,hW,hA⟩:=hv.aft2 HN.out HB2.out (zs:=#[.int .i64 0,.bool false,.bool false,.slice none 0 0,.bool false,.bool false,.bool false,.int .i64 0,.int .i64 0]) rfl (zzl_ _) HZ2.out
   refine zY_ (by kernel_rfl) (by kernel_rfl) (by decide) ?_
   simp only[List.drop_succ_cons,List.drop_zero]
   refine zq_ rfl rfl 37 _ _ rfl _ _ rfl rfl hW ?_
   clear s0 s1 s2 hW hv
   obtain⟨Kb,hKb⟩:∃Kb,W0.heap.size=Kb:=⟨_,rfl⟩
   rw[hKb]at hA
   try rw[hKb]
   have HA:=Lib.hid hA
   have HKS:=Lib.hid (Nat.le_of_eq hKb)
   clear hA hKb hB3
   have hcall2:=zK_ HA.out.net hs HA.out.rb HA.out.rl HO.out.to (by have:=HO.out.len;omega) (fun a b=>by have:=HLN.out a b;have:=HO.out.len;omega)
   have HC2:=Lib.hid hcall2
   have HLD:=Lib.hid (sz37.ld (xD_ HA.out.rb).1 (zw_ HA.out.box))
   clear hcall2
   go_wp2_with (first
    |(refine zG_ rfl 37 _ rfl _ _ rfl HLD.out ?_)
    |(refine zX_ 37 _ rfl (by kernel_rfl) _ _ rfl HLD.out ?_)
    | (go_at_call 11
       refine HC2.out.mono ?_
       rintro e w5 ⟨T5,h5,rfl,hk5⟩
       have HK5:=Lib.hid hk5
       clear hk5)
    | (go_at_call 9
       refine(wb_ (L:=4) HK5.out.1 HUA.out (by omega) (by omega) HLE.out.2 HLE.out.1).mono ?_
       rintro e w6 ⟨R6,U6,M6,T6,g6,h6,rfl,hnk6,_,hqu6,_⟩
       have HN6:=Lib.hid hnk6
       have hf6:=hqu6.fin
       have HF6:=Lib.hid hf6
       have z0:=hnk6.net.x0'
       obtain⟨t1,t2,t3,t4,t5,t6⟩:=HK5.out
       have ha:=HA.out
       have hkl:Kb<W.heap.size:=(zzm_.1 ha.box).1
       have hTK:T1 Kb=0:=by
        apply Classical.byContradiction
        intro q
        have:=(HN.out.tz Kb q).1
        have:=HKS.out
        omega
       have f5:=t6 Kb hkl hTK
       have f6:=hnk6.kp.fr Kb (zzk_ hkl t5) f5.1
       have hbx:w6.heap[Kb]?=some (.cells rs 37 (0,0)):=f6.2.trans (f5.2.trans ha.box)
       have q3:w6.cell? ⟨Kb,0,none⟩=some (.int .i64 (b.ep:Nat)):=(cell_of_row w6 Kb 0 rs 37 (0,0) hbx).trans (mr_ ha.rb)
       have HQ3:=Lib.hid (And.intro q3 (zzm_.1 hbx).1)
       have hb6:=bel6 HB0.out ha HT1.out t2 t3 t4 t5 t6 hnk6.kp
       have HB6:=Lib.hid hb6
       clear hnk6 hqu6 hf6 t1 t2 t3 t4 t5 t6 ha hkl hTK f5 f6 hbx hb6 q3))
   all_goals go_wp2
   go_loopg [13,81] N (fun kx s13 s81 wx=>∃p:Nat,s13=.int .i64 (RG.hasN R6 p:Nat)/\s81=.int .i64 p/\p+kx=N/\Below w6.heap.size w6 wx)
   case atStart=>exact⟨0,rfl,rfl,by omega,Below.refl _ _⟩
   case round =>
    obtain⟨p,rfl,rfl,hp,hbel⟩:=hrel
    have HPK:=Lib.hid hp
    have HBR:=Lib.hid hbel
    have hnr:=HN6.out.net.below hbel
    clear z0
    by_cases hm:p<N
    .have hpz:(p:Int)<(N:Int):=by omega
     have hp0:¬(p:Int)<0:=by omega
     have hwp:IntKind.i64.wrap ((p:Int)+1)=(p:Int)+1:=by rw[yye_];omega
     have y0:=hnr.x0'
     have hbcn:=hnr.bcn
     obtain⟨_,_,_,_,_,k0,k1,k2,k4,k5,_⟩:=hnr.st hm
     obtain⟨f1,f2,f3,f4⟩:=HF6.out.1 p hm
     rw[f4]at k0
     rw[f2]at k1
     rw[f3]at k2
     rw[f1]at k5
     have kb:=xi_ hbel HQ3.out.1 HQ3.out.2
     have hle:=sv_ R6 p
     have hwh:IntKind.i64.wrap ((RG.hasN R6 p:Int)+1)=(RG.hasN R6 p:Int)+1:=by rw[yye_];omega
     have hs1:RG.hasN R6 (p+1)=RG.hasN R6 p+if (R6 p).tk.has=true then 1 else 0:=rfl
     have HS1:=Lib.hid hs1
     have d0:wr.drew.cell? ⟨X,0,none⟩=some (.slice (some ⟨h6.bk,0,none⟩) N h6.bc):=y0
     have d1:wr.drew.cell? ⟨h6.bk,p*9,none⟩=some (.int .i64 b.ep):=k0
     have d2:wr.drew.cell? ⟨h6.bk,p*9+1,none⟩=some (.bool false):=k1
     have d3:wr.drew.cell? ⟨h6.bk,p*9+2,none⟩=some (.bool false):=k2
     have d5:wr.drew.cell? ⟨h6.bk,p*9+5,none⟩=some (.bool false):=k5
     have d6:wr.drew.cell? ⟨Kb,0,none⟩=some (.int .i64 b.ep):=kb
     clear hnr hbel hp f1 f2 f3 f4 hle hs1
     cases hh:(R6 p).tk.has
     all_goals
      rw[hh]at k4
      go_wp2
      go_region
      go_wp2
      go_roundg (N-(p+1))
      case measure=>have:=HPK.out;omega
      case rel =>
       have h1:=HS1.out
       rw[hh]at h1
       exact⟨p+1,by simp[h1],rfl,by have:=HPK.out;omega,HBR.out.trans ⟨rfl,rfl,rfl,zzl_ _,fun _ _=>rfl⟩⟩
    .have hpe:p=N:=by have:=HPK.out;omega
     have hpz:¬(p:Int)<(N:Int):=by omega
     have hone:=HF6.out.2
     rw[hpe,hone]
     rw[hpe]at hpz
     clear hnr hbel hp hm hone
     go_wp2_with (go_at_call 7
                  refine(wh_ (g:=g) (fun k hk=>zzk_ (hlt k hk) (yyd_ HB6.out.size HBR.out.size))).mono ?_
                  rintro e w9 ⟨rfl,hb9⟩
                  have HB9:=Lib.hid (HB6.out.trans (Below.mono1 (HBR.out.trans (Below.mono1 hb9 HBR.out.size)) HB6.out.size))
                  clear hb9)
     all_goals go_wp2
     all_goals go_ret
     all_goals exact HF0.out _ HB9.out
 .go_enter Try.func4,Try.ntmps4
  go_wp2_with (first
   | (go_at_call 6
      refine H0.out.mono ?_
      rintro e w1 ⟨rfl,hb1⟩
      have hlt1:∀k,0<g.I k->k<w1.heap.size:=fun k hk=>zzk_ (hlt k hk) hb1.size
      have HB1:=Lib.hid hb1
      have HLT:=Lib.hid hlt1
      clear hb1 hlt1)
   | (go_at_call 7
      refine(wh_ HLT.out).mono ?_
      rintro e w3 ⟨rfl,hb3⟩
      have HB3:=Lib.hid (HB1.out.trans (Below.mono1 hb3 HB1.out.size))
      clear hb3))
  all_goals go_wp2
  all_goals go_ret
  all_goals exact HF0.out _ HB3.out
section
structure Rd(w:World)(g:Gh)(cs:List Value)(xs:List V):Prop where
 len:xs.length=cs.length
 rep:∀(j:Nat) (x:V) (c:Value),xs[j]?=some x->cs[j]?=some c->Rep (allG w g) w x c/\immC x=true/\c.oneCell'=true
def wV_(P:Program)(e:TypeId)(xs:List V):V:=if aggT P e=some true then .agg xs else xs.headD .no
def xE_(P:Program):Nat->TypeId->List V->Prop
 |0,_,_=>False
 | f + 1, t, xs =>
   match P.underlying t with
   |some .bool=>∃b,xs=[.s (.bool b)]
   |some (.int k)=>∃n,(Lit.int k n).wf=true/\xs=[.s (.int k n)]
   |some .string=>∃s:ByteArray,s.size<=maxLen/\xs=[.s (.string s)]
   |some (.slice e)=>∃els:List (List V),xs=[.list (P.cellsOf e) (els.map (wV_ P e))]/\els.length<=maxLen/\∀el∈els,xE_ P f e el
   |some (.struct fs)=>∃parts:List (List V),xs=parts.flatten/\parts.length=fs.size/\∀(i:Nat) (fl:Field) (p:List V),fs[i]?=some fl->parts[i]?=some p->xE_ P f fl.type p
   |_=>False
def ro_(P:Program):List Field->Nat->Bool
 |[],_=>true
 |f::r,off=>decide (f.offset=off)&&ro_ P r (off+P.cellsOf f.type)
def wl_(P:Program):List Field->Nat
 |[]=>0
 |f::r=>P.cellsOf f.type+wl_ P r
def okTy(P:Program):Nat->TypeId->Bool
 |0,_=>false
 | f + 1, t =>
   match P.underlying t with
   |some .bool|some (.int _)|some .string=>Nat.beq (P.cellsOf t) 1
   |some (.slice e)=>Nat.beq (P.cellsOf t) 1&&okTy P f e&&((match aggT P e with|some true=>true|some false=>Nat.beq (P.cellsOf e) 1|none=>false))
   |some (.struct fs)=>ro_ P fs.toList 0&&Nat.beq (wl_ P fs.toList) (P.cellsOf t)&&fs.all fun fl=>okTy P f fl.type
   |_=>false
section
variable{H:Type}{enc:TypeId×Value->H}{P:Program}{w:World}{g:Gh}{base:Nat}{sp:Nat->Bool}{held:Bool}
theorem tW_:∀(fs:List Field) (off:Nat) (cs:List Value) (parts:List (List V)),ro_ P fs off=true->off+wl_ P fs=cs.length->parts.length=fs.length ->
 (∀(i:Nat) (fl:Field) (p:List V),fs[i]?=some fl->parts[i]?=some p->Rd w g ((cs.drop fl.offset).take (P.cellsOf fl.type)) p)->Rd w g (cs.drop off) parts.flatten
 | [], off, cs, parts, hc, hl, hp, h => by
   have:parts=[]:=List.length_eq_zero_iff.1 hp
   subst this
   simp only[wl_,Nat.add_zero]at hl
   rw[List.drop_of_length_le (by omega)]
   exact⟨rfl,fun j x c hx=>by simp at hx⟩
 |f::r,off,cs,[],hc,hl,hp,h=>by simp at hp
 | f :: r, off, cs, p :: ps, hc, hl, hp, h => by
   simp only[ro_,zzg_,zzp_]at hc
   simp only[wl_]at hl
   have h0:=h 0 f p rfl rfl
   have ih:=tW_ r (off+P.cellsOf f.type) cs ps hc.2 (by omega) (by simpa using hp) (fun i fl q hi hq=>h (i+1) fl q (by simpa using hi) (by simpa using hq))
   rw[hc.1]at h0
   have hp0:p.length=P.cellsOf f.type:=by rw[h0.len];simp;omega
   refine⟨?_,fun j x c hx hcj=>?_⟩
   .have:=ih.len
    simp only[List.flatten_cons,zzr_,List.length_drop]at this ⊢
    omega
   .simp only[List.flatten_cons,List.getElem?_append]at hx
    split at hx
    .next hj =>
     refine h0.rep j x c hx ?_
     rw[zzu_,if_pos (by omega)]
     exact hcj
    .next hj =>
     refine ih.rep (j-p.length) x c hx ?_
     rw[zzA_]at hcj ⊢
     rw[<-hcj]
     congr 1
     omega
theorem qI_{c:Value}(h:c.oneCell'=true):Rd w g [c] [.s c]:=⟨rfl,fun j x c' hx hc=>by
 cases j with
 |zero=>simp at hx hc;subst hx hc;exact⟨.s h,rfl,h⟩
 |succ j=>simp at hx⟩
theorem wd_{α:Type}{Q:Nat->α->Prop}:∀(n:Nat),(∀i,i<n->∃a,Q i a)->∃l:List α,l.length=n/\∀(i:Nat) (a:α),l[i]?=some a->Q i a
 |0,_=>⟨[],rfl,by simp⟩
 | n + 1, h => by
   obtain⟨l,h1,h2⟩:=wd_ n (fun i hi=>h i (by omega))
   obtain⟨a,ha⟩:=h n (by omega)
   refine⟨l++[a],by simp[h1],fun i b hi=>?_⟩
   rw[List.getElem?_append]at hi
   split at hi
   .exact h2 i b hi
   ·have:i=n:=by
     have:=(zzc_.1 hi).1
     simp at this
     omega
    subst this
    rw[h1]at hi
    simp at hi
    subst hi
    exact ha
theorem uv_:∀(dep:Nat) (t:TypeId),okTy P dep t=true->∀(fuel:Nat) (cs:List Value) (x:DataW H×List MemPlace),DataW.trod enc P w base sp held fuel t cs=some x->∃xs,Rd w g cs xs/\xE_ P dep t xs/\cs.length=P.cellsOf t
 |0,t,h=>by simp[okTy]at h
 | dep + 1, t, hok => fun fuel cs x h => by
   unfold okTy at hok
   unfold xE_
   cases hu:P.underlying t with
   |none=>rw[hu]at hok;simp at hok
   | some td =>
     rw[hu]at hok
     cases td with
     | bool =>
       have h1:=yyq_ hok
       obtain⟨b,rfl⟩:∃b,cs=[.bool b]:=by
        cases fuel with
        |zero=>simp[DataW.trod]at h
        | succ n =>
          unfold DataW.trod at h
          rw[hu]at h
          split at h<;>simp_all
       exact⟨[.s (.bool b)],qI_ rfl,⟨b,rfl⟩,by simp[h1]⟩
     | int k =>
       have h1:=yyq_ hok
       obtain⟨n,hn,rfl⟩:∃n,(Lit.int k n).wf=true/\cs=[.int k n]:=by
        cases fuel with
        |zero=>simp[DataW.trod]at h
        | succ n =>
          unfold DataW.trod at h
          rw[hu]at h
          split at h<;>simp_all
       exact⟨[.s (.int k n)],qI_ rfl,⟨n,hn,rfl⟩,by simp[h1]⟩
     | string =>
       have h1:=yyq_ hok
       obtain⟨s,hs,rfl⟩:∃s:ByteArray,s.size<=maxLen/\cs=[.string s]:=by
        cases fuel with
        |zero=>simp[DataW.trod]at h
        | succ n =>
          unfold DataW.trod at h
          rw[hu]at h
          split at h<;>simp_all
       exact⟨[.s (.string s)],qI_ rfl,⟨s,hs,rfl⟩,by simp[h1]⟩
     | slice e =>
       simp only[zzg_]at hok
       obtain⟨⟨h1,h2⟩,h3⟩:=hok
       have h1:=yyq_ h1
       simp only
       rcases DataW.trod_slice hu h with ⟨rfl,_⟩|⟨a,len,cap,elems,rest,n,rfl,rfl,rfl,hb,hl,hm,hel,hget,_,_⟩
       ·exact⟨[.list (P.cellsOf e) []],⟨rfl,fun j x c hx hc=>by
         cases j with
         | zero =>
           simp at hx hc
           subst hx hc
           exact⟨.list (fun _=>undef) (zzl_ _) (zzn_ _) (fun _=>rfl) (by simp) (by simp[flat]) (fun j hj=>by simp[flat]at hj) (fun j u hu=>by simp[flat]at hu),rfl,rfl⟩
         |succ j=>simp at hx⟩,⟨[],rfl,zzn_ _,by simp⟩,by simp[h1]⟩
       · -- the elements
         have hone:∀i,i<len->∃(cs':List Value) (xs:List V),w.cells? base (a.add (i*P.cellsOf e)) (P.cellsOf e)=some cs'/\Rd w g cs' xs/\xE_ P dep e xs/\cs'.length=P.cellsOf e:=by
          intro i hi
          have:=hget i hi
          rw[zzf_ (by omega)]at this
          obtain⟨cs',k1,k2⟩:=zza_.1 this
          obtain⟨xs,k3,k4,k5⟩:=uv_ dep e h2 _ _ _ k2
          exact⟨cs',xs,k1,k3,k4,k5⟩
         obtain⟨els,e1,e2⟩:=wd_ (Q:=fun i xs=>∃cs':List Value,w.cells? base (a.add (i*P.cellsOf e)) (P.cellsOf e)=some cs'/\Rd w g cs' xs/\xE_ P dep e xs/\cs'.length=P.cellsOf e) len (fun i hi=>by
          obtain⟨cs',xs,q⟩:=hone i hi
          exact⟨xs,cs',q⟩)
         have hlen:∀el∈els,el.length=P.cellsOf e:=fun el hel'=>by
          obtain⟨i,hi⟩:=List.mem_iff_getElem?.1 hel'
          obtain⟨cs',q1,q2,q3,q4⟩:=e2 i el hi
          rw[q2.len,q4]
         have hcells:∀el∈els,cellsOf (wV_ P e el)=el:=fun el hel'=>by
          have hl':=hlen el hel'
          unfold wV_
          cases hag:aggT P e with
          |none=>rw[hag]at h3;cases h3
          | some b =>
            cases b with
            |true=>simp[cellsOf]
            | false =>
              rw[hag]at h3
              have h3:=yyq_ h3
              rw[h3]at hl'
              obtain⟨y,rfl⟩:=List.length_eq_one_iff.1 hl'
              obtain⟨i,hi⟩:=List.mem_iff_getElem?.1 hel'
              obtain⟨cs',q1,q2,q3,q4⟩:=e2 i [y] hi
              have hc0:∃c,cs'[0]?=some c:=⟨cs'[0]'(by omega),by simp[(by omega:0<cs'.length)]⟩
              obtain⟨c,hc⟩:=hc0
              have hi':=(q2.rep 0 y c rfl hc).2.1
              simp only[yya_,yyi_,if_false,List.headD_cons]
              cases y<;>simp[immC]at hi'<;>rfl
         have hz:∀y∈els.map (wV_ P e),(cellsOf y).length=P.cellsOf e:=fun y hy=>by
          obtain⟨el,q1,rfl⟩:=List.mem_map.1 hy
          rw[hcells el q1,hlen el q1]
         have hfl:=zd_ hz
         rw[List.length_map,e1]at hfl
         -- one cell among all
         have hat:∀j,j<len*P.cellsOf e->∃(i o:Nat) (el:List V) (u:V) (c:Value),j=i*P.cellsOf e+o/\els[i]?=some el/\el[o]?=some u/\(flat (els.map (wV_ P e)))[j]?=some u/\w.cell? (a.add j)=some c/\Rep (allG w g) w u c/\immC u=true:=by
          intro j hj
          have hz0:0<P.cellsOf e:=by
           rcases yyo_ (P.cellsOf e) with q|q
           .rw[q]at hj;omega
           .exact q
          have hi:j/P.cellsOf e<len:=(Nat.div_lt_iff_lt_mul hz0).2 hj
          have ho:j%P.cellsOf e<P.cellsOf e:=Nat.mod_lt _ hz0
          have hje:j=j/P.cellsOf e*P.cellsOf e+j%P.cellsOf e:=by rw[Nat.mul_comm];exact(Nat.div_add_mod _ _).symm
          have hel':els[j/P.cellsOf e]?=some (els[j/P.cellsOf e]'(by omega)):=zzf_ (by omega)
          generalize els[j/P.cellsOf e]'(by omega)=el at hel'
          obtain⟨cs',q1,q2,q3,q4⟩:=e2 _ el hel'
          have hm:=zzd_ hel'
          have hu:el[j%P.cellsOf e]?=some (el[j%P.cellsOf e]'(by rw[hlen el hm];exact ho)):=by simp
          generalize el[j%P.cellsOf e]'(by rw[hlen el hm];exact ho)=u at hu
          have hc:cs'[j%P.cellsOf e]?=some (cs'[j%P.cellsOf e]'(by rw[q4];exact ho)):=by simp
          generalize cs'[j%P.cellsOf e]'(by rw[q4];exact ho)=c at hc
          obtain⟨_,_,q5⟩:=World.cells?_some q1
          have q6:=q5 _ ho
          rw[Addr.add_add,<-hje,hc]at q6
          obtain⟨r1,r2,_⟩:=q2.rep _ u c hu hc
          refine⟨_,_,el,u,c,hje,hel',hu,?_,q6,r1,r2⟩
          have hx:(els.map (wV_ P e))[j/P.cellsOf e]?=some (wV_ P e el):=by rw[zzs_,hel'];rfl
          have:=xZ_ hz hx ho
          rw[hcells el hm,<-hje]at this
          rw[this,hu]
         have hrd:Rep (allG w g) w (.list (P.cellsOf e) (els.map (wV_ P e))) (.slice (some a) (els.map (wV_ P e)).length cap):=by
          refine .list (fun j=>(w.cell? (a.add j)).getD undef) (by simp;omega) hm (fun q=>by cases q) hz (fun u hu=>?_) (fun j hj=>?_) (fun j u hu=>?_)
          .obtain⟨j,hj⟩:=List.mem_iff_getElem?.1 hu
           have hjl:=(zzc_.1 hj).1
           obtain⟨_,_,_,u',c,_,_,_,q4,_,_,q7⟩:=hat j (by omega)
           rw[hj]at q4
           cases q4
           exact q7
          .obtain⟨_,_,_,u',c,_,_,_,_,q5,_,_⟩:=hat j (by omega)
           have h0:∃c0,w.cell? (a.add 0)=some c0:=by
            obtain⟨_,_,_,_,c0,_,_,_,_,q,_,_⟩:=hat 0 (by omega)
            exact⟨c0,q⟩
           obtain⟨c0,h0⟩:=h0
           have ha:a=⟨a.block,a.off,none⟩:=by
            have e0:a.add 0=a:=by simp[Addr.add]
            rw[e0]at h0
            obtain⟨b,o,s⟩:=a
            cases s with
            |none=>rfl
            | some q =>
              unfold World.cell? at h0
              split at h0
              .simp at h0
              .cases h0
           have hadd:a.add j=⟨a.block,a.off+j,none⟩:=by rw[ha,zJ_]
           rw[hadd]at q5
           refine⟨a.block,a.off,congrArg some ha,pM_ q5,?_⟩
           rw[hadd,q5]
           rfl
          .have hjl:=(zzc_.1 hu).1
           obtain⟨_,_,_,u',c,_,_,_,q4,q5,q6,_⟩:=hat j (by omega)
           rw[hu]at q4
           cases q4
           rw[q5]
           exact q6
         refine⟨[.list (P.cellsOf e) (els.map (wV_ P e))],⟨rfl,fun j x c hx hc=>?_⟩,⟨els,rfl,by omega,fun el hel'=>?_⟩,by simp[h1]⟩
         .cases j with
          | zero =>
            simp only[List.getElem?_cons_zero,yya_]at hx hc
            subst hx hc
            rw[List.length_map,e1]at hrd
            exact⟨hrd,rfl,rfl⟩
          |succ j=>simp at hx
         .obtain⟨i,hi⟩:=List.mem_iff_getElem?.1 hel'
          obtain⟨_,_,_,q,_⟩:=e2 i el hi
          exact q
     | struct fs =>
       simp only[zzg_]at hok
       obtain⟨⟨h1,h2⟩,h3⟩:=hok
       have h2:=yyq_ h2
       obtain⟨xs,n,rfl,rfl,k1,k2,k3⟩:=DataW.trod_struct hu h
       have hone:∀(i:Nat) (fl:Field),fs[i]?=some fl->∃p,Rd w g ((cs.drop fl.offset).take (P.cellsOf fl.type)) p/\xE_ P dep fl.type p:=by
        intro i fl hi
        have hi':=(zzm_.1 hi).1
        have:=k3 i fl hi
        rw[zzf_ (by omega)]at this
        obtain⟨p,q1,q2,_⟩:=uv_ dep fl.type (by
         rw[Array.all_eq_true]at h3
         have:=h3 i hi'
         have e:fs[i]=fl:=by simpa[hi'] using hi
         rw[e]at this
         exact this) _ _ _ this
        exact⟨p,q1,q2⟩
       have hex:∃parts:List (List V),parts.length=fs.size/\∀(i:Nat) (fl:Field) (p:List V),fs[i]?=some fl->parts[i]?=some p->Rd w g ((cs.drop fl.offset).take (P.cellsOf fl.type)) p/\xE_ P dep fl.type p:=by
        obtain⟨parts,e1,e2⟩:=wd_ (Q:=fun i p=>∀fl,fs[i]?=some fl->Rd w g ((cs.drop fl.offset).take (P.cellsOf fl.type)) p/\xE_ P dep fl.type p) fs.size (fun i hi=>by
         obtain⟨p,hp⟩:=hone i fs[i] (by simp[hi])
         refine⟨p,fun fl hfl=>?_⟩
         have:fs[i]=fl:=by simpa[hi] using hfl
         rw[<-this]
         exact hp)
        exact⟨parts,e1,fun i fl p hi hp=>e2 i p hp fl hi⟩
       obtain⟨parts,m1,m2⟩:=hex
       refine⟨parts.flatten,?_,⟨parts,rfl,m1,fun i fl p hi hp=>(m2 i fl p hi hp).2⟩,k1⟩
       have:=tW_ (w:=w) (g:=g) fs.toList 0 cs parts h1 (by omega) (by simpa using m1) (fun i fl p hi hp=>(m2 i fl p (by simpa using hi) hp).1)
       simpa using this
     |_=>simp at hok
end
end
end Go.Proofs.Ytnbppaolinopeaa
namespace Go.Proofs.Ytnbppaolinopeaa
open Go.RowKit Go.WideShapes
def g00:Gh:=⟨fun _=>0,fun _=>0⟩
def x3_(P:Program)(dep:Nat)(t:TypeId)(x:V):Prop :=
 match P.underlying t with
 |some (.struct _)=>∃xs,x=.agg xs/\xE_ P dep t xs
 |_=>xE_ P dep t [x]
section
variable{H:Type}{enc:TypeId×Value->H}{P:Program}{w:World}{base:Nat}{sp:Nat->Bool}{held:Bool}
theorem uX_{dep b2:Nat}{t:TypeId}{v:Value}{d:DataW H}{ps:List MemPlace}(hok:okTy P dep t=true)(hval:Value.okWide P w .any b2 t v)(htr:DataW.Trod enc P w base sp held t v d ps) :
 ∃x,Rep (allG w g00) w x v/\immA x=true/\x3_ P dep t x:=by
 obtain⟨fuel,h⟩:=htr
 obtain⟨xs,h1,h2,h3⟩:=uv_ (g:=g00) dep t hok _ _ _ h
 cases dep with
 |zero=>simp[okTy]at hok
 | succ dep =>
   have hone:(∀cs,v≠.agg cs)->v.cells.toList.length=1->∃x,xs=[x]/\Rep (allG w g00) w x v/\immC x=true:=by
    intro hna hl
    have hlx:xs.length=1:=by rw[h1.len,hl]
    obtain⟨x,rfl⟩:=List.length_eq_one_iff.1 hlx
    have hc:v.cells.toList[0]?=some v:=by cases v<;>first|rfl|exact absurd rfl (hna _)
    obtain⟨k1,k2,_⟩:=h1.rep 0 x v rfl hc
    exact⟨x,rfl,k1,k2⟩
   have hsc:∀td,P.underlying t=some td->(∀fs,td≠.struct fs)->(∀cs,v≠.agg cs)->∃x,Rep (allG w g00) w x v/\immA x=true/\x3_ P (dep+1) t x:=by
    intro td hu hns hna
    obtain⟨x,rfl,k1,k2⟩:=hone hna (by cases v<;>first|rfl|exact absurd rfl (hna _))
    refine⟨x,k1,by cases x<;>first|exact k2|(simp[immC]at k2),?_⟩
    unfold x3_
    rw[hu]
    cases td<;>first|exact absurd rfl (hns _)|exact h2
   cases hu:P.underlying t with
   |none=>unfold okTy at hok;rw[hu]at hok;simp at hok
   | some td =>
     cases td with
     |bool=>obtain⟨b,rfl⟩:=okWide_bool hu hval;exact hsc _ hu (by simp) (by simp)
     |int k=>obtain⟨n,rfl⟩:=okWide_int hu hval;exact hsc _ hu (by simp) (by simp)
     |string=>obtain⟨s,rfl⟩:=okWide_string hu hval;exact hsc _ hu (by simp) (by simp)
     |slice e=>obtain⟨a,l,c,rfl⟩:=okWide_slice hu hval;exact hsc _ hu (by simp) (by simp)
     | struct fs =>
       obtain⟨cs,rfl,hsz⟩:=okWide_struct hu hval
       have hcells:(Value.agg cs).cells.toList=cs.toList:=rfl
       rw[hcells]at h1
       refine⟨.agg xs,.agg (by simpa using h1.len) (fun c hc=>?_) (fun j u c hu' hc=>(h1.rep j u c hu' (by simpa using hc)).1),?_,?_⟩
       .obtain⟨j,hj⟩:=List.mem_iff_getElem?.1 hc
        have hjl:j<xs.length:=by rw[h1.len];exact(zzc_.1 hj).1
        exact(h1.rep j _ c (zzf_ hjl) hj).2.2
       .simp only[immA,zzh_]
        intro u hu'
        obtain⟨j,hj⟩:=List.mem_iff_getElem?.1 hu'
        have hjl:j<cs.toList.length:=by rw[<-h1.len];exact(zzc_.1 hj).1
        exact(h1.rep j u _ hj (zzf_ hjl)).2.1
       .unfold x3_
        rw[hu]
        exact⟨xs,rfl,h2⟩
     |_=>unfold okTy at hok;rw[hu]at hok;simp at hok
theorem pg_{f:FuncId}{args:List V}{vals:Array Value}(hpc:PC P f args (fun r=>r=.s (.bool true)))(hl:args.length=vals.size)(hr:∀(i:Nat) (x:V) (v:Value),args[i]?=some x->vals[i]?=some v->Rep (allG w g00) w x v/\immA x=true) :
 Calls P f vals w fun e w'=>e=.returned (.bool true)/\Below w.heap.size w w':=by
 have himm:∀x∈args,immA x=true:=by
  intro x hx
  obtain⟨i,hi⟩:=List.mem_iff_getElem?.1 hx
  have hil:i<vals.size:=by rw[<-hl];exact(zzc_.1 hi).1
  exact(hr i x vals[i] hi (by simp[hil])).2
 obtain⟨hbd,hno⟩:=s4_ (g:=allG w g00) (w:=w) hl himm (fun i x v h1 h2=>(hr i x v h1 h2).1) (fun k hk=>by
  simp only[allG,g00]at hk
  split at hk
  .next hk'=>exact(zzm_.1 hk').1
  .simp at hk)
 refine(hpc _ w _ hbd).mono ?_
 rintro e w' ⟨v,r,bs',g',rfl,⟨rfl,rfl⟩,_,hb,hex⟩
 have hrep:=hb.rep (.l (.var 0)) _ v ⟨rfl,by simp[z8_,Frn,Act.tv]⟩
 cases hrep
 exact⟨rfl,hex.os,hex.tape,hex.output,hex.size,fun k hk=>(hex.same k hk (hno k)).1⟩
end
end Go.Proofs.Ytnbppaolinopeaa
namespace Go.Proofs.Ytnbppaolinopeaa
open Go.RowKit Go.Proofs
theorem nu_{dep:Nat}{el:List V}(h:xE_ Try.prog (dep+1) 3 el):∃n:Int,el=[.s (.int .i64 n)]:=by
 unfold xE_ at h
 rw[Try.underlying3]at h
 obtain⟨n,_,hn⟩:=h
 exact⟨n,by simpa using hn⟩
theorem n0_{α:Type}{dep:Nat}{t:TypeId}{f:α->V}(hf:∀el,xE_ Try.prog dep t el->∃a,wV_ Try.prog t el=f a):∀(els:List (List V)),(∀el∈els,xE_ Try.prog dep t el)->∃m:List α,els.map (wV_ Try.prog t)=m.map f
 |[],_=>⟨[],rfl⟩
 | x :: r, h => by
   obtain⟨m,hm⟩:=n0_ hf r (fun el hel=>h el (by simp[hel]))
   obtain⟨a,ha⟩:=hf x (h x (by simp))
   exact⟨a::m,by rw[List.map_cons,hm,ha];rfl⟩
theorem pV_{dep:Nat}{el:List V}(h:xE_ Try.prog (dep+2) 22 el):∃l:List Int,el=[.list 1 (iv l)]:=by
 unfold xE_ at h
 rw[Try.underlying22]at h
 obtain⟨els,hx,_,hb⟩:=h
 have e1:Try.prog.cellsOf 3=1:=by kernel_rfl
 have e2:aggT Try.prog 3=some false:=by kernel_rfl
 rw[e1]at hx
 obtain⟨m,hm⟩:=n0_ (f:=fun n:Int=>V.s (.int .i64 n)) (fun el hel=>by
  obtain⟨n,rfl⟩:=nu_ hel
  exact⟨n,by simp[wV_,e2]⟩) els hb
 rw[hm]at hx
 exact⟨m,hx⟩
theorem qw_{dep:Nat}{x:V}(h:x3_ Try.prog (dep+1) 5 x):∃n:Nat,n<256/\x=.s (.int .u8 n):=by
 unfold x3_ at h
 rw[Try.underlying5]at h
 simp only at h
 unfold xE_ at h
 rw[Try.underlying5]at h
 obtain⟨n,hn,hx⟩:=h
 have hb:0<=n/\n<=255:=by simpa[Lit.wf,IntKind.min,IntKind.max,IntKind.signed,IntKind.bits] using hn
 exact⟨n.toNat,by omega,by rw[show ((n.toNat:Nat):Int)=n by omega];simpa using hx⟩
theorem nt_{dep:Nat}{x:V}(h:x3_ Try.prog (dep+2) 22 x):∃l:List Int,x=.list 1 (iv l):=by
 unfold x3_ at h
 rw[Try.underlying22]at h
 simp only at h
 obtain⟨l,hl⟩:=pV_ h
 exact⟨l,by simpa using hl⟩
end Go.Proofs.Ytnbppaolinopeaa
