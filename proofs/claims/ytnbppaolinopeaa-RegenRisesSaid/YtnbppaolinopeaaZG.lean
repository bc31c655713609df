/- Parts of the proof of a law of chapter 30, put behind one another. -/
import Derived.Test.YtnbppaolinopeaaZF
import Derived.Test.YtnbppaolinopeaaZE
import Derived.Great.FillDense
import Derived.Laws.Tables
import Derived.Test.YtnbppaolinopeaaZD
import Derived.ProofKit
import Derived.ChangeArms
import Derived.WideShapes
import Derived.Below
set_option linter.unusedVariables false
set_option maxHeartbeats 64000000
set_option maxRecDepth 100000
set_option linter.unusedSimpArgs false
namespace Go.Proofs.Ytnbppaolinopeaa
open Go.RowKit Go.Proofs
theorem mw_{l:List Int}{k j:Nat}(hm:k<l.length)(hj:3*j<=k):3*(j+1)<=nat1 l (nat1 l (nat1 l k))\/(nat1 l (nat1 l (nat1 l k))=l.length/\3*(j+1)<=nat1 l (nat1 l (nat1 l k))+2):=by
 have e:∀m,nat1 l m=if m<l.length then m+1 else m:=fun _=>rfl
 have e1:nat1 l k=k+1:=by rw[e,if_pos hm]
 rw[e1]
 by_cases h1:k+1<l.length
 .have e2:nat1 l (k+1)=k+2:=by rw[e,if_pos h1]
  rw[e2]
  by_cases h2:k+2<l.length
  .rw[e,if_pos h2];omega
  .rw[e,if_neg h2];omega
 .have e2:nat1 l (k+1)=k+1:=by rw[e,if_neg h1]
  rw[e2,e2];omega
theorem ns_{g:Gh}{w:World}(hlt:∀k,0<g.I k->k<w.heap.size){l:List Int}{lv:Value}(hlv:Rep g w (.list 1 (iv l)) lv)(hl:l.length<=400){n:Nat}(h1n:1<=n)(h4n:n<=4):Calls Try.prog 8 #[lv,.int .i64 n] w fun e w' =>
 ∃X K j R U M T g' h,e=.returned (.tuple #[.pointer (some ⟨X,0,none⟩),.bool true])/\j<=134/\Pl g w K X n l l.length j R U M T g' h w':=by
 have mx:=zN_
 obtain⟨LA,LC,rfl,hlc1,hlc2,_⟩:=uv_ hlv
 have HLV:=Lib.hid hlv
 have HLT:=Lib.hid hlt
 have hnz:(n:Int)<=4:=by omega
 obtain⟨w0,hw0⟩:∃w0,w0=w.alloc (.cells #[.slice none 0 0,.slice none 0 0,.slice none 0 0] 33):=⟨_,rfl⟩
 obtain⟨X,hX⟩:∃X,X=w.heap.size:=⟨_,rfl⟩
 have hXl:X<w0.heap.size:=by rw[hw0,hX];simp
 have hXb:w0.heap[X]?=some (.cells #[.slice none 0 0,.slice none 0 0,.slice none 0 0] 33 (0,0)):=by rw[hw0,hX];exact heap_alloc_new w _
 have hB0:Below w.heap.size w w0:=by rw[hw0];exact zI_ w _
 have h01:w0.heap.size=w.heap.size+1:=by rw[hw0];simp
 have hmk:Mk w0 X n 0 w0:=by
  refine⟨.slice none 0 0,.slice none 0 0,.slice none 0 0,fun _=>#[],fun _=>0,⟨rfl,rfl,rfl,zzl_ _,fun _ _ _=>rfl,fun r hr=>?_,fun q hq=>by simp[mkL]at hq,fun i j r s k hi hj h1 _=>?_,by simp[mkL],fun r _ q hq=>by simp[mkL]at hq⟩,hXb,fun i hi=>by omega⟩
  .simp[mkO]at hr
   rcases hr with rfl|rfl|rfl<;>exact World.ownsRow_nil ..
  .have:=zzd_ hi
   simp[mkO]at this
   rcases this with rfl|rfl|rfl<;>simp[Value.ownBlock]at h1
 have HMK:=Lib.hid hmk
 have HB:=Lib.hid (And.intro hX (And.intro hB0 h01))
 clear hmk hB0 hXb h01 hlt hlv
 go_enter Try.func8,Try.ntmps8
 go_wp2
 rw[<-hw0,<-hX]
 clear hw0 hX
 go_loopg [7] n (fun kx s7 wr=>∃p:Nat,s7=.int .i64 p/\p+kx=n/\Mk w0 X n p wr)
 case atStart=>exact⟨0,rfl,by omega,HMK.out⟩
 case round =>
  obtain⟨p,rfl,hp,hI⟩:=hrel
  obtain⟨bv,uv,mv,sts,rk,hBs,hXc,hsts⟩:=hI.ex
  have hn9:n<=9:=by omega
  have HP:=Lib.hid hp
  have HBs:=Lib.hid hBs
  have HXc:=Lib.hid hXc
  have HSTS:=Lib.hid hsts
  have HI:=Lib.hid hI
  clear hI hBs hXc hp hsts
  by_cases hm:p<n
  .have hpz:(p:Int)<(n:Int):=by omega
   have hcall:=py_ (g:=g) (w:=wr) (fun k hk=>zzk_ (HLT.out k hk) (by have:=HBs.out.size;have:=HB.out.2.2;omega)) (n:=n) (i:=p) ⟨h1n,h4n,hm⟩
   have HC:=Lib.hid hcall
   clear hcall
   have hp1:p+1<=1000:=by omega
   have hwp:IntKind.i64.wrap ((p:Int)+1)=(p:Int)+1:=by rw[yye_];omega
   go_wp2_with (first
    | (go_at_call 14
       refine HC.out.mono ?_
       rintro e wx ⟨vs,rfl,hF,hbx⟩
       have HF:=Lib.hid hF
       obtain⟨W,b8,hb8,hst8,hnd⟩:=mv_ HBs.out HXc.out hXl hbx (zs:=zR) rfl hF.sz hF.one
       simp only[zR,<-hb8]at hst8
       have HVS:=Lib.hid hF.sz
       have HONE:=Lib.hid hF.one
       have HST:=Lib.hid hst8
       have HND:=Lib.hid hnd
       have HB8:=Lib.hid hb8
       clear hF hbx hst8 hnd hb8)
    |(refine zk_ rfl rfl 37 _ _ rfl _ _ rfl rfl HST.out ?_))
   all_goals go_wp2
   try rw[HB8.out]
   have h0:=HND.out.drew
   have hSof:∀(Y:World) (O:List Orow) (ks:List (Nat×Obj)),Nd w0 X n p bv uv mv rk O ((b8,.cells vs 37 (0,0))::ks) Y->Y.cell? ⟨X,0,none⟩=some bv/\Y.cell? ⟨X,1,none⟩=some uv/\Y.cell? ⟨X,2,none⟩=some mv/\Hs Y b8 0 vs:=fun Y O ks hY=>⟨hY.s.1,hY.s.2.1,hY.s.2.2,zB_ (hY.loose (.head _))⟩
   have hSo2:∀(Y:World) {O:List Orow} {ks:List (Nat×Obj)},Nd w0 X n p bv uv mv rk O ks Y->(b8,Obj.cells vs 37 (0,0))∈ks->Y.cell? ⟨X,0,none⟩=some bv/\Y.cell? ⟨X,1,none⟩=some uv/\Y.cell? ⟨X,2,none⟩=some mv/\Hs Y b8 0 vs:=fun Y O ks hY hk=>⟨hY.s.1,hY.s.2.1,hY.s.2.2,zB_ (hY.loose hk)⟩
   have HSof:=Lib.hid hSo2
   clear hSof hSo2
   refine zw_ (fun wx=>wx.cell? ⟨X,0,none⟩=some bv/\wx.cell? ⟨X,1,none⟩=some uv/\wx.cell? ⟨X,2,none⟩=some mv/\Hs wx b8 0 vs) 26 mx ?_
   generalize W.drew=V0 at h0 ⊢
   have s0:=HSof.out _ h0 (by simp)
   refine z1_ (i:=0) (v:=?_) rfl (by kernel_rfl) (fun _ _ _ h=>h) (by kernel_rfl) ?_ (fun _=>s0) ?_
   rotate_left
   ·(intro w9;go_simp;first|done|with_reducible rfl)
   try simp only[Act.put,zze_,zzi_,zzj_]
   refine z1_ (i:=1) (v:=?_) rfl (by kernel_rfl) (fun _ _ _ h=>h) (by kernel_rfl) ?_ (fun _=>s0) ?_
   rotate_left
   ·(intro w9;go_simp;first|done|with_reducible rfl)
   try simp only[Act.put,zze_,zzi_,zzj_]
   refine z1_ (i:=2) (v:=?_) rfl (by kernel_rfl) (fun _ _ _ h=>h) (by kernel_rfl) ?_ (fun _=>s0) ?_
   rotate_left
   ·(intro w9;go_simp;first|done|with_reducible rfl)
   try simp only[Act.put,zze_,zzi_,zzj_]
   refine z1_ (i:=3) (v:=?_) rfl (by kernel_rfl) (fun _ _ _ h=>h) (by kernel_rfl) ?_ (fun _=>s0) ?_
   rotate_left
   ·(intro w9;go_simp;first|done|with_reducible rfl)
   try simp only[Act.put,zze_,zzi_,zzj_]
   refine z1_ (i:=4) (v:=?_) rfl (by kernel_rfl) (fun _ _ _ h=>h) (by kernel_rfl) ?_ (fun _=>s0) ?_
   rotate_left
   ·(intro w9;go_simp;first|done|with_reducible rfl)
   try simp only[Act.put,zze_,zzi_,zzj_]
   refine z1_ (i:=5) (v:=?_) rfl (by kernel_rfl) (fun _ _ _ h=>h) (by kernel_rfl) ?_ (fun _=>s0) ?_
   rotate_left
   ·(intro w9;go_simp;first|done|with_reducible rfl)
   try simp only[Act.put,zze_,zzi_,zzj_]
   refine zr_ (i:=6) (v:=?_) rfl (by kernel_rfl) (by kernel_rfl) (fun _ _ _ h=>h) (by kernel_rfl) ?_ (fun _=>s0) ?_
   rotate_left
   ·(intro w9 hSw;(try dsimp only at hSw);obtain⟨S0,S1,S2,S3⟩:=hSw;clear S3;go_simp;first|done|with_reducible rfl)
   try simp only[Act.put,zze_,zzi_,zzj_]
   refine zr_ (i:=7) (v:=.agg vs) rfl (by kernel_rfl) (by kernel_rfl) (fun _ _ _ h=>h) (by kernel_rfl) (fun w9 hSw=>yk_ 37 _ rfl (u:=.pointer (some ⟨b8,0,none⟩)) rfl (sz37.ld HVS.out hSw.2.2.2)) (fun _=>s0) ?_
   try simp only[Act.put,zze_,zzi_,zzj_]
   refine z1_ (i:=10) (v:=?_) rfl (by kernel_rfl) (fun _ _ _ h=>h) (by kernel_rfl) ?_ (fun _=>s0) ?_
   rotate_left
   ·(intro w9;go_simp;first|done|with_reducible rfl)
   try simp only[Act.put,zze_,zzi_,zzj_]
   refine z1_ (i:=11) (v:=?_) rfl (by kernel_rfl) (fun _ _ _ h=>h) (by kernel_rfl) ?_ (fun _=>s0) ?_
   rotate_left
   ·(intro w9;go_simp;first|done|with_reducible rfl)
   try simp only[Act.put,zze_,zzi_,zzj_]
   refine z1_ (i:=12) (v:=?_) rfl (by kernel_rfl) (fun _ _ _ h=>h) (by kernel_rfl) ?_ (fun _=>s0) ?_
   rotate_left
   ·(intro w9;go_simp;first|done|with_reducible rfl)
   try simp only[Act.put,zze_,zzi_,zzj_]
   refine zr_ (i:=13) (v:=?_) rfl (by kernel_rfl) (by kernel_rfl) (fun _ _ _ h=>h) (by kernel_rfl) ?_ (fun _=>s0) ?_
   rotate_left
   ·(intro w9 hSw;(try dsimp only at hSw);obtain⟨S0,S1,S2,S3⟩:=hSw;clear S3;go_simp;first|done|with_reducible rfl)
   try simp only[Act.put,zze_,zzi_,zzj_]
   refine z1_ (i:=16) (v:=?_) rfl (by kernel_rfl) (fun _ _ _ h=>h) (by kernel_rfl) ?_ (fun _=>s0) ?_
   rotate_left
   ·(intro w9;go_simp;first|done|with_reducible rfl)
   try simp only[Act.put,zze_,zzi_,zzj_]
   refine z1_ (i:=17) (v:=?_) rfl (by kernel_rfl) (fun _ _ _ h=>h) (by kernel_rfl) ?_ (fun _=>s0) ?_
   rotate_left
   ·(intro w9;go_simp;first|done|with_reducible rfl)
   try simp only[Act.put,zze_,zzi_,zzj_]
   refine z1_ (i:=18) (v:=?_) rfl (by kernel_rfl) (fun _ _ _ h=>h) (by kernel_rfl) ?_ (fun _=>s0) ?_
   rotate_left
   ·(intro w9;go_simp;first|done|with_reducible rfl)
   try simp only[Act.put,zze_,zzi_,zzj_]
   refine zr_ (i:=19) (v:=?_) rfl (by kernel_rfl) (by kernel_rfl) (fun _ _ _ h=>h) (by kernel_rfl) ?_ (fun _=>s0) ?_
   rotate_left
   ·(intro w9 hSw;(try dsimp only at hSw);obtain⟨S0,S1,S2,S3⟩:=hSw;clear S3;go_simp;first|done|with_reducible rfl)
   try simp only[Act.put,zze_,zzi_,zzj_]
   refine z1_ (i:=20) (v:=?_) rfl (by kernel_rfl) (fun _ _ _ h=>h) (by kernel_rfl) ?_ (fun _=>s0) ?_
   rotate_left
   ·(intro w9;go_simp;first|done|with_reducible rfl)
   try simp only[Act.put,zze_,zzi_,zzj_]
   clear s0
   apply nf_ (C:=fun V kb gb cb ku gu cu kr km gm cm=>Nd w0 X n p bv uv mv rk ((((mkO n bv uv mv p sts rk).set 0 ⟨.slice (some ⟨gb,0,none⟩) (p+1) cb,37,9,p+1,((List.range p).flatMap fun i=>(sts i).toList)++vs.toList⟩).set 1 ⟨.slice (some ⟨gu,0,none⟩) (p+1) cu,4,1,p+1,List.replicate p (.bool true)++[.bool true]⟩).set 2 ⟨.slice (some ⟨gm,0,none⟩) (p+1) cm,66,1,p+1,((List.range p).map fun i=>.slice (some ⟨rk i,0,none⟩) n n)++[.slice (some ⟨kr,0,none⟩) n n]⟩) [(b8,.cells vs 37 (0,0)),(kb,.cells vs 37 (0,0)),(ku,.cells #[.bool true] 4 (0,0)),(kr,.cells (nils n) 58 (0,0)),(km,.cells #[.slice (some ⟨kr,0,none⟩) n n] 66 (0,0))] V)
   .intro H21211
    apply m8_ (C:=fun V kb gb cb ku gu cu kr km=>Nd w0 X n p bv uv mv rk (((mkO n bv uv mv p sts rk).set 0 ⟨.slice (some ⟨gb,0,none⟩) (p+1) cb,37,9,p+1,((List.range p).flatMap fun i=>(sts i).toList)++vs.toList⟩).set 1 ⟨.slice (some ⟨gu,0,none⟩) (p+1) cu,4,1,p+1,List.replicate p (.bool true)++[.bool true]⟩) [(b8,.cells vs 37 (0,0)),(kb,.cells vs 37 (0,0)),(ku,.cells #[.bool true] 4 (0,0)),(kr,.cells (nils n) 58 (0,0)),(km,.cells #[.slice (some ⟨kr,0,none⟩) n n] 66 (0,0))] V)
    .intro H21210
     apply m9_ (C:=fun V kb gb cb ku gu cu kr=>Nd w0 X n p bv uv mv rk (((mkO n bv uv mv p sts rk).set 0 ⟨.slice (some ⟨gb,0,none⟩) (p+1) cb,37,9,p+1,((List.range p).flatMap fun i=>(sts i).toList)++vs.toList⟩).set 1 ⟨.slice (some ⟨gu,0,none⟩) (p+1) cu,4,1,p+1,List.replicate p (.bool true)++[.bool true]⟩) [(b8,.cells vs 37 (0,0)),(kb,.cells vs 37 (0,0)),(ku,.cells #[.bool true] 4 (0,0)),(kr,.cells (nils n) 58 (0,0))] V)
     .intro H21110
      apply oJ_ (C:=fun V kb gb cb ku gu cu=>Nd w0 X n p bv uv mv rk (((mkO n bv uv mv p sts rk).set 0 ⟨.slice (some ⟨gb,0,none⟩) (p+1) cb,37,9,p+1,((List.range p).flatMap fun i=>(sts i).toList)++vs.toList⟩).set 1 ⟨.slice (some ⟨gu,0,none⟩) (p+1) cu,4,1,p+1,List.replicate p (.bool true)++[.bool true]⟩) [(b8,.cells vs 37 (0,0)),(kb,.cells vs 37 (0,0)),(ku,.cells #[.bool true] 4 (0,0))] V)
      .intro H21010
       apply oJ_ (C:=fun V kb gb cb ku kr km=>Nd w0 X n p bv uv mv rk ((mkO n bv uv mv p sts rk).set 0 ⟨.slice (some ⟨gb,0,none⟩) (p+1) cb,37,9,p+1,((List.range p).flatMap fun i=>(sts i).toList)++vs.toList⟩) [(b8,.cells vs 37 (0,0)),(kb,.cells vs 37 (0,0)),(ku,.cells #[.bool true] 4 (0,0)),(kr,.cells (nils n) 58 (0,0)),(km,.cells #[.slice (some ⟨kr,0,none⟩) n n] 66 (0,0))] V)
       .intro H21200
        apply oK_ (C:=fun V kb gb cb ku kr=>Nd w0 X n p bv uv mv rk ((mkO n bv uv mv p sts rk).set 0 ⟨.slice (some ⟨gb,0,none⟩) (p+1) cb,37,9,p+1,((List.range p).flatMap fun i=>(sts i).toList)++vs.toList⟩) [(b8,.cells vs 37 (0,0)),(kb,.cells vs 37 (0,0)),(ku,.cells #[.bool true] 4 (0,0)),(kr,.cells (nils n) 58 (0,0))] V)
        .intro H21100
         apply qc_ (C:=fun V kb gb cb ku=>Nd w0 X n p bv uv mv rk ((mkO n bv uv mv p sts rk).set 0 ⟨.slice (some ⟨gb,0,none⟩) (p+1) cb,37,9,p+1,((List.range p).flatMap fun i=>(sts i).toList)++vs.toList⟩) [(b8,.cells vs 37 (0,0)),(kb,.cells vs 37 (0,0)),(ku,.cells #[.bool true] 4 (0,0))] V)
         .intro H21000
          apply oK_ (C:=fun V kb gb cb kr km=>Nd w0 X n p bv uv mv rk ((mkO n bv uv mv p sts rk).set 0 ⟨.slice (some ⟨gb,0,none⟩) (p+1) cb,37,9,p+1,((List.range p).flatMap fun i=>(sts i).toList)++vs.toList⟩) [(b8,.cells vs 37 (0,0)),(kb,.cells vs 37 (0,0)),(kr,.cells (nils n) 58 (0,0)),(km,.cells #[.slice (some ⟨kr,0,none⟩) n n] 66 (0,0))] V)
          .intro H20200
           apply qc_ (C:=fun V kb gb cb kr=>Nd w0 X n p bv uv mv rk ((mkO n bv uv mv p sts rk).set 0 ⟨.slice (some ⟨gb,0,none⟩) (p+1) cb,37,9,p+1,((List.range p).flatMap fun i=>(sts i).toList)++vs.toList⟩) [(b8,.cells vs 37 (0,0)),(kb,.cells vs 37 (0,0)),(kr,.cells (nils n) 58 (0,0))] V)
           .intro H20100
            apply sB_ (C:=fun V kb gb cb=>Nd w0 X n p bv uv mv rk ((mkO n bv uv mv p sts rk).set 0 ⟨.slice (some ⟨gb,0,none⟩) (p+1) cb,37,9,p+1,((List.range p).flatMap fun i=>(sts i).toList)++vs.toList⟩) [(b8,.cells vs 37 (0,0)),(kb,.cells vs 37 (0,0))] V)
            .intro H20000
             apply qc_ (C:=fun V kb ku kr km=>Nd w0 X n p bv uv mv rk (mkO n bv uv mv p sts rk) [(b8,.cells vs 37 (0,0)),(kb,.cells vs 37 (0,0)),(ku,.cells #[.bool true] 4 (0,0)),(kr,.cells (nils n) 58 (0,0)),(km,.cells #[.slice (some ⟨kr,0,none⟩) n n] 66 (0,0))] V)
             .intro H11200
              apply sB_ (C:=fun V kb ku kr=>Nd w0 X n p bv uv mv rk (mkO n bv uv mv p sts rk) [(b8,.cells vs 37 (0,0)),(kb,.cells vs 37 (0,0)),(ku,.cells #[.bool true] 4 (0,0)),(kr,.cells (nils n) 58 (0,0))] V)
              .intro H11100
               apply sC_ (C:=fun V kb ku=>Nd w0 X n p bv uv mv rk (mkO n bv uv mv p sts rk) [(b8,.cells vs 37 (0,0)),(kb,.cells vs 37 (0,0)),(ku,.cells #[.bool true] 4 (0,0))] V)
               .intro H11000
                apply sB_ (C:=fun V kb kr km=>Nd w0 X n p bv uv mv rk (mkO n bv uv mv p sts rk) [(b8,.cells vs 37 (0,0)),(kb,.cells vs 37 (0,0)),(kr,.cells (nils n) 58 (0,0)),(km,.cells #[.slice (some ⟨kr,0,none⟩) n n] 66 (0,0))] V)
                .intro H10200
                 apply sC_ (C:=fun V kb kr=>Nd w0 X n p bv uv mv rk (mkO n bv uv mv p sts rk) [(b8,.cells vs 37 (0,0)),(kb,.cells vs 37 (0,0)),(kr,.cells (nils n) 58 (0,0))] V)
                 .intro H10100
                  apply qd_ (C:=fun V kb=>Nd w0 X n p bv uv mv rk (mkO n bv uv mv p sts rk) [(b8,.cells vs 37 (0,0)),(kb,.cells vs 37 (0,0))] V)
                  .intro H10000
                   apply sB_ (C:=fun V ku kr km=>Nd w0 X n p bv uv mv rk (mkO n bv uv mv p sts rk) [(b8,.cells vs 37 (0,0)),(ku,.cells #[.bool true] 4 (0,0)),(kr,.cells (nils n) 58 (0,0)),(km,.cells #[.slice (some ⟨kr,0,none⟩) n n] 66 (0,0))] V)
                   .intro H01200
                    apply sC_ (C:=fun V ku kr=>Nd w0 X n p bv uv mv rk (mkO n bv uv mv p sts rk) [(b8,.cells vs 37 (0,0)),(ku,.cells #[.bool true] 4 (0,0)),(kr,.cells (nils n) 58 (0,0))] V)
                    .intro H01100
                     apply qd_ (C:=fun V ku=>Nd w0 X n p bv uv mv rk (mkO n bv uv mv p sts rk) [(b8,.cells vs 37 (0,0)),(ku,.cells #[.bool true] 4 (0,0))] V)
                     .intro H01000
                      apply sC_ (C:=fun V kr km=>Nd w0 X n p bv uv mv rk (mkO n bv uv mv p sts rk) [(b8,.cells vs 37 (0,0)),(kr,.cells (nils n) 58 (0,0)),(km,.cells #[.slice (some ⟨kr,0,none⟩) n n] 66 (0,0))] V)
                      .intro H00200
                       apply qd_ (C:=fun V kr=>Nd w0 X n p bv uv mv rk (mkO n bv uv mv p sts rk) [(b8,.cells vs 37 (0,0)),(kr,.cells (nils n) 58 (0,0))] V)
                       .intro H00100
                        have h:=h0
                        refine y8_ (rs:=[8,14,21]) (by decide +kernel) ?_
                        refine z3_ rfl (fun K hK=>?_) ?_
                        .refine zn_ rfl (zH_ 29 _ rfl (u:=.agg vs) rfl (xQ_ _ HVS.out)) ?_
                         obtain⟨V',kb,e,e1,h'⟩:=h.alloc hXl vs 37
                         rw[e,e1]
                         clear e e1
                         have s1:=HSof.out _ h' (by simp)
                         refine hK.out _ _ (fun _=>s1) ?_
                         try simp only[Act.put,zze_,zzi_,zzj_]
                         exact H10000 V' kb (h'.perm (by simp))
                        refine z3_ rfl (fun K hK=>?_) ?_
                        .refine zn_ rfl (zH_ 30 _ rfl (u:=.bool true) rfl (xk_ _)) ?_
                         obtain⟨V',ku,e,e1,h'⟩:=h.alloc hXl #[.bool true] 4
                         rw[e,e1]
                         clear e e1
                         have s1:=HSof.out _ h' (by simp)
                         refine hK.out _ _ (fun _=>s1) ?_
                         try simp only[Act.put,zze_,zzi_,zzj_]
                         exact H01000 V' ku (h'.perm (by simp))
                        refine z3_ rfl (fun K hK=>?_) ?_
                        .refine zn_ rfl (by go_simp;rw[xi_ hn9];rfl) ?_
                         obtain⟨V',kr,e,e1,h'⟩:=h.alloc hXl (nils n) 58
                         rw[e,e1]
                         clear e e1
                         have s1:=HSof.out _ h' (by simp)
                         refine hK.out _ _ (fun _=>s1) ?_
                         try simp only[Act.put,zze_,zzi_,zzj_]
                         exact H00100 V' kr (h'.perm (by simp))
                        exact AllG.nil
                       .intro V kr h
                        refine y8_ (rs:=[8,14,22]) (by decide +kernel) ?_
                        refine z3_ rfl (fun K hK=>?_) ?_
                        .refine zn_ rfl (zH_ 29 _ rfl (u:=.agg vs) rfl (xQ_ _ HVS.out)) ?_
                         obtain⟨V',kb,e,e1,h'⟩:=h.alloc hXl vs 37
                         rw[e,e1]
                         clear e e1
                         have s1:=HSof.out _ h' (by simp)
                         refine hK.out _ _ (fun _=>s1) ?_
                         try simp only[Act.put,zze_,zzi_,zzj_]
                         exact H10100 V' kb kr (h'.perm (by simp))
                        refine z3_ rfl (fun K hK=>?_) ?_
                        .refine zn_ rfl (zH_ 30 _ rfl (u:=.bool true) rfl (xk_ _)) ?_
                         obtain⟨V',ku,e,e1,h'⟩:=h.alloc hXl #[.bool true] 4
                         rw[e,e1]
                         clear e e1
                         have s1:=HSof.out _ h' (by simp)
                         refine hK.out _ _ (fun _=>s1) ?_
                         try simp only[Act.put,zze_,zzi_,zzj_]
                         exact H01100 V' ku kr (h'.perm (by simp))
                        refine z3_ rfl (fun K hK=>?_) ?_
                        .refine zn_ rfl (zH_ 31 _ rfl (u:=.slice (some ⟨kr,0,none⟩) n n) rfl (xj_ _ kr n)) ?_
                         obtain⟨V',km,e,e1,h'⟩:=h.alloc hXl #[.slice (some ⟨kr,0,none⟩) n n] 66
                         rw[e,e1]
                         clear e e1
                         have s1:=HSof.out _ h' (by simp)
                         refine hK.out _ _ (fun _=>s1) ?_
                         try simp only[Act.put,zze_,zzi_,zzj_]
                         exact H00200 V' kr km (h'.perm (by simp))
                        exact AllG.nil
                      .intro V kr km h
                       refine y8_ (rs:=[8,14]) (by decide +kernel) ?_
                       refine z3_ rfl (fun K hK=>?_) ?_
                       .refine zn_ rfl (zH_ 29 _ rfl (u:=.agg vs) rfl (xQ_ _ HVS.out)) ?_
                        obtain⟨V',kb,e,e1,h'⟩:=h.alloc hXl vs 37
                        rw[e,e1]
                        clear e e1
                        have s1:=HSof.out _ h' (by simp)
                        refine hK.out _ _ (fun _=>s1) ?_
                        try simp only[Act.put,zze_,zzi_,zzj_]
                        exact H10200 V' kb kr km (h'.perm (by simp))
                       refine z3_ rfl (fun K hK=>?_) ?_
                       .refine zn_ rfl (zH_ 30 _ rfl (u:=.bool true) rfl (xk_ _)) ?_
                        obtain⟨V',ku,e,e1,h'⟩:=h.alloc hXl #[.bool true] 4
                        rw[e,e1]
                        clear e e1
                        have s1:=HSof.out _ h' (by simp)
                        refine hK.out _ _ (fun _=>s1) ?_
                        try simp only[Act.put,zze_,zzi_,zzj_]
                        exact H01200 V' ku kr km (h'.perm (by simp))
                       exact AllG.nil
                     .intro V ku h
                      refine y8_ (rs:=[8,21]) (by decide +kernel) ?_
                      refine z3_ rfl (fun K hK=>?_) ?_
                      .refine zn_ rfl (zH_ 29 _ rfl (u:=.agg vs) rfl (xQ_ _ HVS.out)) ?_
                       obtain⟨V',kb,e,e1,h'⟩:=h.alloc hXl vs 37
                       rw[e,e1]
                       clear e e1
                       have s1:=HSof.out _ h' (by simp)
                       refine hK.out _ _ (fun _=>s1) ?_
                       try simp only[Act.put,zze_,zzi_,zzj_]
                       exact H11000 V' kb ku (h'.perm (by simp))
                      refine z3_ rfl (fun K hK=>?_) ?_
                      .refine zn_ rfl (by go_simp;rw[xi_ hn9];rfl) ?_
                       obtain⟨V',kr,e,e1,h'⟩:=h.alloc hXl (nils n) 58
                       rw[e,e1]
                       clear e e1
                       have s1:=HSof.out _ h' (by simp)
                       refine hK.out _ _ (fun _=>s1) ?_
                       try simp only[Act.put,zze_,zzi_,zzj_]
                       exact H01100 V' ku kr (h'.perm (by simp))
                      exact AllG.nil
                    .intro V ku kr h
                     refine y8_ (rs:=[8,22]) (by decide +kernel) ?_
                     refine z3_ rfl (fun K hK=>?_) ?_
                     .refine zn_ rfl (zH_ 29 _ rfl (u:=.agg vs) rfl (xQ_ _ HVS.out)) ?_
                      obtain⟨V',kb,e,e1,h'⟩:=h.alloc hXl vs 37
                      rw[e,e1]
                      clear e e1
                      have s1:=HSof.out _ h' (by simp)
                      refine hK.out _ _ (fun _=>s1) ?_
                      try simp only[Act.put,zze_,zzi_,zzj_]
                      exact H11100 V' kb ku kr (h'.perm (by simp))
                     refine z3_ rfl (fun K hK=>?_) ?_
                     .refine zn_ rfl (zH_ 31 _ rfl (u:=.slice (some ⟨kr,0,none⟩) n n) rfl (xj_ _ kr n)) ?_
                      obtain⟨V',km,e,e1,h'⟩:=h.alloc hXl #[.slice (some ⟨kr,0,none⟩) n n] 66
                      rw[e,e1]
                      clear e e1
                      have s1:=HSof.out _ h' (by simp)
                      refine hK.out _ _ (fun _=>s1) ?_
                      try simp only[Act.put,zze_,zzi_,zzj_]
                      exact H01200 V' ku kr km (h'.perm (by simp))
                     exact AllG.nil
                   .intro V ku kr km h
                    refine y8_ (rs:=[8]) (by decide +kernel) ?_
                    refine z3_ rfl (fun K hK=>?_) ?_
                    .refine zn_ rfl (zH_ 29 _ rfl (u:=.agg vs) rfl (xQ_ _ HVS.out)) ?_
                     obtain⟨V',kb,e,e1,h'⟩:=h.alloc hXl vs 37
                     rw[e,e1]
                     clear e e1
                     have s1:=HSof.out _ h' (by simp)
                     refine hK.out _ _ (fun _=>s1) ?_
                     try simp only[Act.put,zze_,zzi_,zzj_]
                     exact H11200 V' kb ku kr km (h'.perm (by simp))
                    exact AllG.nil
                  .intro V kb h
                   refine y8_ (rs:=[9,14,21]) (by decide +kernel) ?_
                   refine z3_ rfl (fun K hK=>?_) ?_
                   .obtain⟨gb,cb,V',e,h'⟩:=h.ap37 hXl rfl (k:=kb) (by simp) HVS.out HONE.out hp1
                    refine zA_ rfl _ _ 29 29 rfl _ _ rfl rfl (e _) ?_
                    clear e
                    have s1:=HSof.out _ h' (by simp)
                    refine hK.out _ _ (fun _=>s1) ?_
                    try simp only[Act.put,zze_,zzi_,zzj_]
                    exact H20000 V' kb gb cb (h'.perm (by simp))
                   refine z3_ rfl (fun K hK=>?_) ?_
                   .refine zn_ rfl (zH_ 30 _ rfl (u:=.bool true) rfl (xk_ _)) ?_
                    obtain⟨V',ku,e,e1,h'⟩:=h.alloc hXl #[.bool true] 4
                    rw[e,e1]
                    clear e e1
                    have s1:=HSof.out _ h' (by simp)
                    refine hK.out _ _ (fun _=>s1) ?_
                    try simp only[Act.put,zze_,zzi_,zzj_]
                    exact H11000 V' kb ku (h'.perm (by simp))
                   refine z3_ rfl (fun K hK=>?_) ?_
                   .refine zn_ rfl (by go_simp;rw[xi_ hn9];rfl) ?_
                    obtain⟨V',kr,e,e1,h'⟩:=h.alloc hXl (nils n) 58
                    rw[e,e1]
                    clear e e1
                    have s1:=HSof.out _ h' (by simp)
                    refine hK.out _ _ (fun _=>s1) ?_
                    try simp only[Act.put,zze_,zzi_,zzj_]
                    exact H10100 V' kb kr (h'.perm (by simp))
                   exact AllG.nil
                 .intro V kb kr h
                  refine y8_ (rs:=[9,14,22]) (by decide +kernel) ?_
                  refine z3_ rfl (fun K hK=>?_) ?_
                  .obtain⟨gb,cb,V',e,h'⟩:=h.ap37 hXl rfl (k:=kb) (by simp) HVS.out HONE.out hp1
                   refine zA_ rfl _ _ 29 29 rfl _ _ rfl rfl (e _) ?_
                   clear e
                   have s1:=HSof.out _ h' (by simp)
                   refine hK.out _ _ (fun _=>s1) ?_
                   try simp only[Act.put,zze_,zzi_,zzj_]
                   exact H20100 V' kb gb cb kr (h'.perm (by simp))
                  refine z3_ rfl (fun K hK=>?_) ?_
                  .refine zn_ rfl (zH_ 30 _ rfl (u:=.bool true) rfl (xk_ _)) ?_
                   obtain⟨V',ku,e,e1,h'⟩:=h.alloc hXl #[.bool true] 4
                   rw[e,e1]
                   clear e e1
                   have s1:=HSof.out _ h' (by simp)
                   refine hK.out _ _ (fun _=>s1) ?_
                   try simp only[Act.put,zze_,zzi_,zzj_]
                   exact H11100 V' kb ku kr (h'.perm (by simp))
                  refine z3_ rfl (fun K hK=>?_) ?_
                  .refine zn_ rfl (zH_ 31 _ rfl (u:=.slice (some ⟨kr,0,none⟩) n n) rfl (xj_ _ kr n)) ?_
                   obtain⟨V',km,e,e1,h'⟩:=h.alloc hXl #[.slice (some ⟨kr,0,none⟩) n n] 66
                   rw[e,e1]
                   clear e e1
                   have s1:=HSof.out _ h' (by simp)
                   refine hK.out _ _ (fun _=>s1) ?_
                   try simp only[Act.put,zze_,zzi_,zzj_]
                   exact H10200 V' kb kr km (h'.perm (by simp))
                  exact AllG.nil
                .intro V kb kr km h
                 refine y8_ (rs:=[9,14]) (by decide +kernel) ?_
                 refine z3_ rfl (fun K hK=>?_) ?_
                 .obtain⟨gb,cb,V',e,h'⟩:=h.ap37 hXl rfl (k:=kb) (by simp) HVS.out HONE.out hp1
                  refine zA_ rfl _ _ 29 29 rfl _ _ rfl rfl (e _) ?_
                  clear e
                  have s1:=HSof.out _ h' (by simp)
                  refine hK.out _ _ (fun _=>s1) ?_
                  try simp only[Act.put,zze_,zzi_,zzj_]
                  exact H20200 V' kb gb cb kr km (h'.perm (by simp))
                 refine z3_ rfl (fun K hK=>?_) ?_
                 .refine zn_ rfl (zH_ 30 _ rfl (u:=.bool true) rfl (xk_ _)) ?_
                  obtain⟨V',ku,e,e1,h'⟩:=h.alloc hXl #[.bool true] 4
                  rw[e,e1]
                  clear e e1
                  have s1:=HSof.out _ h' (by simp)
                  refine hK.out _ _ (fun _=>s1) ?_
                  try simp only[Act.put,zze_,zzi_,zzj_]
                  exact H11200 V' kb ku kr km (h'.perm (by simp))
                 exact AllG.nil
               .intro V kb ku h
                refine y8_ (rs:=[9,21]) (by decide +kernel) ?_
                refine z3_ rfl (fun K hK=>?_) ?_
                .obtain⟨gb,cb,V',e,h'⟩:=h.ap37 hXl rfl (k:=kb) (by simp) HVS.out HONE.out hp1
                 refine zA_ rfl _ _ 29 29 rfl _ _ rfl rfl (e _) ?_
                 clear e
                 have s1:=HSof.out _ h' (by simp)
                 refine hK.out _ _ (fun _=>s1) ?_
                 try simp only[Act.put,zze_,zzi_,zzj_]
                 exact H21000 V' kb gb cb ku (h'.perm (by simp))
                refine z3_ rfl (fun K hK=>?_) ?_
                .refine zn_ rfl (by go_simp;rw[xi_ hn9];rfl) ?_
                 obtain⟨V',kr,e,e1,h'⟩:=h.alloc hXl (nils n) 58
                 rw[e,e1]
                 clear e e1
                 have s1:=HSof.out _ h' (by simp)
                 refine hK.out _ _ (fun _=>s1) ?_
                 try simp only[Act.put,zze_,zzi_,zzj_]
                 exact H11100 V' kb ku kr (h'.perm (by simp))
                exact AllG.nil
              .intro V kb ku kr h
               refine y8_ (rs:=[9,22]) (by decide +kernel) ?_
               refine z3_ rfl (fun K hK=>?_) ?_
               .obtain⟨gb,cb,V',e,h'⟩:=h.ap37 hXl rfl (k:=kb) (by simp) HVS.out HONE.out hp1
                refine zA_ rfl _ _ 29 29 rfl _ _ rfl rfl (e _) ?_
                clear e
                have s1:=HSof.out _ h' (by simp)
                refine hK.out _ _ (fun _=>s1) ?_
                try simp only[Act.put,zze_,zzi_,zzj_]
                exact H21100 V' kb gb cb ku kr (h'.perm (by simp))
               refine z3_ rfl (fun K hK=>?_) ?_
               .refine zn_ rfl (zH_ 31 _ rfl (u:=.slice (some ⟨kr,0,none⟩) n n) rfl (xj_ _ kr n)) ?_
                obtain⟨V',km,e,e1,h'⟩:=h.alloc hXl #[.slice (some ⟨kr,0,none⟩) n n] 66
                rw[e,e1]
                clear e e1
                have s1:=HSof.out _ h' (by simp)
                refine hK.out _ _ (fun _=>s1) ?_
                try simp only[Act.put,zze_,zzi_,zzj_]
                exact H11200 V' kb ku kr km (h'.perm (by simp))
               exact AllG.nil
             .intro V kb ku kr km h
              refine y8_ (rs:=[9]) (by decide +kernel) ?_
              refine z3_ rfl (fun K hK=>?_) ?_
              .obtain⟨gb,cb,V',e,h'⟩:=h.ap37 hXl rfl (k:=kb) (by simp) HVS.out HONE.out hp1
               refine zA_ rfl _ _ 29 29 rfl _ _ rfl rfl (e _) ?_
               clear e
               have s1:=HSof.out _ h' (by simp)
               refine hK.out _ _ (fun _=>s1) ?_
               try simp only[Act.put,zze_,zzi_,zzj_]
               exact H21200 V' kb gb cb ku kr km (h'.perm (by simp))
              exact AllG.nil
            .intro V kb gb cb h
             refine y8_ (rs:=[14,21]) (by decide +kernel) ?_
             refine z3_ rfl (fun K hK=>?_) ?_
             .refine zn_ rfl (zH_ 30 _ rfl (u:=.bool true) rfl (xk_ _)) ?_
              obtain⟨V',ku,e,e1,h'⟩:=h.alloc hXl #[.bool true] 4
              rw[e,e1]
              clear e e1
              have s1:=HSof.out _ h' (by simp)
              refine hK.out _ _ (fun _=>s1) ?_
              try simp only[Act.put,zze_,zzi_,zzj_]
              exact H21000 V' kb gb cb ku (h'.perm (by simp))
             refine z3_ rfl (fun K hK=>?_) ?_
             .refine zn_ rfl (by go_simp;rw[xi_ hn9];rfl) ?_
              obtain⟨V',kr,e,e1,h'⟩:=h.alloc hXl (nils n) 58
              rw[e,e1]
              clear e e1
              have s1:=HSof.out _ h' (by simp)
              refine hK.out _ _ (fun _=>s1) ?_
              try simp only[Act.put,zze_,zzi_,zzj_]
              exact H20100 V' kb gb cb kr (h'.perm (by simp))
             exact AllG.nil
           .intro V kb gb cb kr h
            refine y8_ (rs:=[14,22]) (by decide +kernel) ?_
            refine z3_ rfl (fun K hK=>?_) ?_
            .refine zn_ rfl (zH_ 30 _ rfl (u:=.bool true) rfl (xk_ _)) ?_
             obtain⟨V',ku,e,e1,h'⟩:=h.alloc hXl #[.bool true] 4
             rw[e,e1]
             clear e e1
             have s1:=HSof.out _ h' (by simp)
             refine hK.out _ _ (fun _=>s1) ?_
             try simp only[Act.put,zze_,zzi_,zzj_]
             exact H21100 V' kb gb cb ku kr (h'.perm (by simp))
            refine z3_ rfl (fun K hK=>?_) ?_
            .refine zn_ rfl (zH_ 31 _ rfl (u:=.slice (some ⟨kr,0,none⟩) n n) rfl (xj_ _ kr n)) ?_
             obtain⟨V',km,e,e1,h'⟩:=h.alloc hXl #[.slice (some ⟨kr,0,none⟩) n n] 66
             rw[e,e1]
             clear e e1
             have s1:=HSof.out _ h' (by simp)
             refine hK.out _ _ (fun _=>s1) ?_
             try simp only[Act.put,zze_,zzi_,zzj_]
             exact H20200 V' kb gb cb kr km (h'.perm (by simp))
            exact AllG.nil
          .intro V kb gb cb kr km h
           refine y8_ (rs:=[14]) (by decide +kernel) ?_
           refine z3_ rfl (fun K hK=>?_) ?_
           .refine zn_ rfl (zH_ 30 _ rfl (u:=.bool true) rfl (xk_ _)) ?_
            obtain⟨V',ku,e,e1,h'⟩:=h.alloc hXl #[.bool true] 4
            rw[e,e1]
            clear e e1
            have s1:=HSof.out _ h' (by simp)
            refine hK.out _ _ (fun _=>s1) ?_
            try simp only[Act.put,zze_,zzi_,zzj_]
            exact H21200 V' kb gb cb ku kr km (h'.perm (by simp))
           exact AllG.nil
         .intro V kb gb cb ku h
          refine y8_ (rs:=[15,21]) (by decide +kernel) ?_
          refine z3_ rfl (fun K hK=>?_) ?_
          .obtain⟨gu,cu,V',e,h'⟩:=h.ap4 hXl rfl (k:=ku) (by simp) hp1
           refine zA_ rfl _ _ 30 30 rfl _ _ rfl rfl (e _) ?_
           clear e
           have s1:=HSof.out _ h' (by simp)
           refine hK.out _ _ (fun _=>s1) ?_
           try simp only[Act.put,zze_,zzi_,zzj_]
           exact H21010 V' kb gb cb ku gu cu (h'.perm (by simp))
          refine z3_ rfl (fun K hK=>?_) ?_
          .refine zn_ rfl (by go_simp;rw[xi_ hn9];rfl) ?_
           obtain⟨V',kr,e,e1,h'⟩:=h.alloc hXl (nils n) 58
           rw[e,e1]
           clear e e1
           have s1:=HSof.out _ h' (by simp)
           refine hK.out _ _ (fun _=>s1) ?_
           try simp only[Act.put,zze_,zzi_,zzj_]
           exact H21100 V' kb gb cb ku kr (h'.perm (by simp))
          exact AllG.nil
        .intro V kb gb cb ku kr h
         refine y8_ (rs:=[15,22]) (by decide +kernel) ?_
         refine z3_ rfl (fun K hK=>?_) ?_
         .obtain⟨gu,cu,V',e,h'⟩:=h.ap4 hXl rfl (k:=ku) (by simp) hp1
          refine zA_ rfl _ _ 30 30 rfl _ _ rfl rfl (e _) ?_
          clear e
          have s1:=HSof.out _ h' (by simp)
          refine hK.out _ _ (fun _=>s1) ?_
          try simp only[Act.put,zze_,zzi_,zzj_]
          exact H21110 V' kb gb cb ku gu cu kr (h'.perm (by simp))
         refine z3_ rfl (fun K hK=>?_) ?_
         .refine zn_ rfl (zH_ 31 _ rfl (u:=.slice (some ⟨kr,0,none⟩) n n) rfl (xj_ _ kr n)) ?_
          obtain⟨V',km,e,e1,h'⟩:=h.alloc hXl #[.slice (some ⟨kr,0,none⟩) n n] 66
          rw[e,e1]
          clear e e1
          have s1:=HSof.out _ h' (by simp)
          refine hK.out _ _ (fun _=>s1) ?_
          try simp only[Act.put,zze_,zzi_,zzj_]
          exact H21200 V' kb gb cb ku kr km (h'.perm (by simp))
         exact AllG.nil
       .intro V kb gb cb ku kr km h
        refine y8_ (rs:=[15]) (by decide +kernel) ?_
        refine z3_ rfl (fun K hK=>?_) ?_
        .obtain⟨gu,cu,V',e,h'⟩:=h.ap4 hXl rfl (k:=ku) (by simp) hp1
         refine zA_ rfl _ _ 30 30 rfl _ _ rfl rfl (e _) ?_
         clear e
         have s1:=HSof.out _ h' (by simp)
         refine hK.out _ _ (fun _=>s1) ?_
         try simp only[Act.put,zze_,zzi_,zzj_]
         exact H21210 V' kb gb cb ku gu cu kr km (h'.perm (by simp))
        exact AllG.nil
      .intro V kb gb cb ku gu cu h
       refine y8_ (rs:=[21]) (by decide +kernel) ?_
       refine z3_ rfl (fun K hK=>?_) ?_
       .refine zn_ rfl (by go_simp;rw[xi_ hn9];rfl) ?_
        obtain⟨V',kr,e,e1,h'⟩:=h.alloc hXl (nils n) 58
        rw[e,e1]
        clear e e1
        have s1:=HSof.out _ h' (by simp)
        refine hK.out _ _ (fun _=>s1) ?_
        try simp only[Act.put,zze_,zzi_,zzj_]
        exact H21110 V' kb gb cb ku gu cu kr (h'.perm (by simp))
       exact AllG.nil
     .intro V kb gb cb ku gu cu kr h
      refine y8_ (rs:=[22]) (by decide +kernel) ?_
      refine z3_ rfl (fun K hK=>?_) ?_
      .refine zn_ rfl (zH_ 31 _ rfl (u:=.slice (some ⟨kr,0,none⟩) n n) rfl (xj_ _ kr n)) ?_
       obtain⟨V',km,e,e1,h'⟩:=h.alloc hXl #[.slice (some ⟨kr,0,none⟩) n n] 66
       rw[e,e1]
       clear e e1
       have s1:=HSof.out _ h' (by simp)
       refine hK.out _ _ (fun _=>s1) ?_
       try simp only[Act.put,zze_,zzi_,zzj_]
       exact H21210 V' kb gb cb ku gu cu kr km (h'.perm (by simp))
      exact AllG.nil
    .intro V kb gb cb ku gu cu kr km h
     refine y8_ (rs:=[23]) (by decide +kernel) ?_
     refine z3_ rfl (fun K hK=>?_) ?_
     .obtain⟨gm,cm,V',e,h'⟩:=h.ap66 hXl rfl (k:=km) (kr:=kr) (by simp) hp1
      refine zA_ rfl _ _ 31 31 rfl _ _ rfl rfl (e _) ?_
      clear e
      have s1:=HSof.out _ h' (by simp)
      refine hK.out _ _ (fun _=>s1) ?_
      try simp only[Act.put,zze_,zzi_,zzj_]
      exact H21211 V' kb gb cb ku gu cu kr km gm cm (h'.perm (by simp))
     exact AllG.nil
   .intro V kb gb cb ku gu cu kr km gm cm h
    have s0:=HSof.out _ h (by simp)
    refine z1_ (i:=24) (v:=?_) rfl (by kernel_rfl) (fun _ _ _ h=>h) (by kernel_rfl) ?_ (fun _=>s0) ?_
    rotate_left
    ·(intro w9;go_simp;first|done|with_reducible rfl)
    try simp only[Act.put,zze_,zzi_,zzj_]
    refine z1_ (i:=25) (v:=?_) rfl (by kernel_rfl) (fun _ _ _ h=>h) (by kernel_rfl) ?_ (fun _=>s0) ?_
    rotate_left
    ·(intro w9;go_simp;first|done|with_reducible rfl)
    try simp only[Act.put,zze_,zzi_,zzj_]
    refine zP_ (by kernel_rfl) (by kernel_rfl) (by decide) ?_
    simp only[List.drop_succ_cons,List.drop_zero]
    obtain⟨V7,V8,V9,⟨q2,f2⟩,e7,⟨q3,f3⟩,e8,⟨q4,f4⟩,e9,hm9⟩:=h.st hXl rfl (by simp) HSTS.out HF.out
    have HM1:=Lib.hid hm9
    clear h s0 hm9
    go_wp2
    go_roundg (gk-1)
    case measure=>have:=HP.out;omega
    case rel=>exact⟨p+1,rfl,by have:=HP.out;omega,HM1.out⟩
  .have hpz:¬(p:Int)<(n:Int):=by omega
   have hpe:p=n:=by have:=HP.out;omega
   subst hpe
   obtain⟨T,hd,hnet,hT0,hbel⟩:=my_ (g1:=g) (w1:=w) HI.out h1n h4n HB.out.1 HB.out.2.1 HB.out.2.2 HLT.out
   obtain⟨W,hW⟩:∃W,wr.alloc (.cells #[.slice LA l.length LC,.int .i64 0] 69)=W:=⟨_,rfl⟩
   have hbW:Below wr.heap.size wr W:=by rw[<-hW];exact zI_ wr _
   have hKb:W.heap[wr.heap.size]?=some (.cells #[.slice LA l.length LC,.int .i64 0] 69 (0,0)):=by rw[<-hW];exact heap_alloc_new wr _
   have hWs:W.heap.size=wr.heap.size+1:=by rw[<-hW];simp
   obtain⟨K,hK⟩:∃K,wr.heap.size=K:=⟨_,rfl⟩
   rw[hK]at hKb hWs
   have hnW:=hnet.below hbW
   have hKT:T K=0:=by
    by_cases h0:T K=0
    .exact h0
    .have:=(hnet.tz K h0).1;omega
   have hIk:∀b o,o<g.I b->o<g.I b/\W.cell? ⟨b,o,none⟩=w.cell? ⟨b,o,none⟩:=fun b o ho=>by
    have hb:=HLT.out b (by omega)
    refine⟨ho,yyb_ (a:=⟨b,o,none⟩) ((hbW.block b ?_).trans (hbel.block b hb))⟩
    have:=hbel.size
    show b<wr.heap.size
    omega
   have hpl:Pl g w K X p l 0 0 (R0 p) (fun _=>true) (fun _ _=>[]) T g hd W:=by
    refine⟨hnW,⟨⟨.slice LA l.length LC,69,hKb,zO_ HLV.out rfl hIk⟩,hnW.Ilt,?_⟩,hKT,⟨by have:=hbel.size;omega,by omega⟩,hbel.trans (Below.mono1 hbW hbel.size),hT0,fun _ _=>rfl,h1n,.start⟩
    by_cases h0:0<g.I K
    .have:=HLT.out K h0;have:=hbel.size;omega
    .omega
   have HPL:=Lib.hid hpl
   have hXK:wr.heap.size=K:=hK
   clear hnet hT0 hbel hbW hKb hnW hKT hIk hpl hWs HBs HXc HSTS HI HB HMK HP HLV
   go_wp2
   clear hW hXK hK
   go_loopg [] l.length (fun kx wx=>∃k j R U M T g' h,k+kx=l.length/\(3*j<=k\/(k=l.length/\3*j<=k+2))/\Pl g w K X p l k j R U M T g' h wx)
   case atStart=>exact⟨0,0,R0 p,fun _=>true,fun _ _=>[],T,g,hd,by omega,.inl (by omega),HPL.out⟩
   case round =>
    obtain⟨k,j,R,U,M,T',g',h',hk,hc3,hI⟩:=hrel
    have HI:=Lib.hid hI
    have HK1:=Lib.hid hk
    by_cases hm:k<l.length
    .obtain⟨c,hc,hc8⟩:=qO_ l k (m:=10) (by omega)
     obtain⟨a,ha,ha2⟩:=qO_ l (nat1 l k) (m:=12) (by omega)
     obtain⟨b,hb,hb2⟩:=qO_ l (nat1 l (nat1 l k)) (m:=12) (by omega)
     have hc':nxt l k 10=(c:Int):=hc
     have ha':nxt l (nat1 l k) 12=(a:Int):=ha
     have hb':nxt l (nat1 l (nat1 l k)) 12=(b:Int):=hb
     have hn1:nat1 l k=k+1:=by simp[nat1,hm]
     have hn2:=qR_ (xs:=l) (k:=nat1 l k) (by omega)
     have hn3:=qR_ (xs:=l) (k:=nat1 l (nat1 l k)) (by omega)
     have z0:k<=1000:=by omega
     have z1:nat1 l k<=1000:=by omega
     have z2:nat1 l (nat1 l k)<=1000:=by omega
     have z3:l.length<=1000:=by omega
     have Z:k+1<=nat1 l (nat1 l (nat1 l k))/\nat1 l (nat1 l (nat1 l k))<=l.length:=by omega
     have hd1:decide (k<l.length)=true:=by simp[hm]
     have HH:=Lib.hid Z
     have hj:j<=1000:=by omega
     have Z4:3*(j+1)<=nat1 l (nat1 l (nat1 l k))\/(nat1 l (nat1 l (nat1 l k))=l.length/\3*(j+1)<=nat1 l (nat1 l (nat1 l k))+2):=by
      exact mw_ hm (by omega)
     have HZ4:=Lib.hid Z4
     clear hc3 Z4
     clear hI hk hc ha hb hn1 hn2 hn3 Z
     go_wp2_with (first
      | (go_at_call 16
         refine(HI.out.more z0 z3).mono ?_
         rintro e w2 ⟨rfl,hp⟩
         have HI:=Lib.hid hp
         clear hp)
      | (go_at_call 18
         refine(HI.out.next (by assumption) z3 (by omega) (by omega)).mono ?_
         rintro e w2 ⟨g2,rfl,hp⟩
         have HI:=Lib.hid hp
         clear hp)
      | (go_at_call 17
         (try rw[hc',ha',hb'])
         refine(HI.out.step (by omega) hc8 (by omega) (by omega)).mono ?_
         rintro e w2 ⟨R2,U2,M2,T2,g2,h2,rfl,hp⟩
         have HI:=Lib.hid hp
         clear hp)
      | (go_at_call 19
         refine(HI.out.one (by omega)).mono ?_
         rintro e w2 ⟨rfl,hp⟩
         have HI:=Lib.hid hp
         clear hp))
     all_goals go_wp2
     all_goals go_roundg (l.length-nat1 l (nat1 l (nat1 l k)))
     case measure=>have:=HH.out;have:=HK1.out;omega
     case rel=>exact⟨nat1 l (nat1 l (nat1 l k)),j+1,R2,U2,M2,T2,g2,h2,by have:=HH.out;omega,HZ4.out,HI.out⟩
    .have hd1:decide (k<l.length)=false:=by simp;omega
     have z0:k<=1000:=by omega
     have z3:l.length<=1000:=by omega
     have hke:k=l.length:=by omega
     have HJ:=Lib.hid (And.intro hke hc3)
     clear hI hk hc3 hke
     go_wp2_with (go_at_call 16
                  refine(HI.out.more z0 z3).mono ?_
                  rintro e w2 ⟨rfl,hp⟩
                  have HI:=Lib.hid hp
                  clear hp)
     go_wp2
     go_ret2
     exact⟨X,K,j,R,U,M,T',g',h',rfl,by have:=HJ.out;omega,by have:=HI.out;rwa [HJ.out.1]at this⟩
theorem oD_(l:List Int):PC Try.prog 6 [.list 1 (iv l)] (fun r=>r=.s (.bool (decide (l.length<=400)))):=by
 refine zx_ c6 zN_ rfl ?_
 have e:((l.length:Int)<=400)↔l.length<=400:=by omega
 simp -implicitDefEqProofs [a6,F6,e,iv_length]
def s0W:RG.Rs:=⟨0,false,false,[],newT 0⟩
def s1W:RG.Rs:=⟨0,false,false,[],newT 1⟩
def b1W:RG.Rs:=⟨1,false,true,[false,true],⟨false,false,false,-1,-1⟩⟩
def p0W:RG.Rs:=⟨1,false,false,[],⟨false,false,false,1,-1⟩⟩
def m1W:RG.Rs:=⟨1,false,false,[],⟨true,false,false,-1,-1⟩⟩
theorem wB:RG.beginR 2 1 s1W=(b1W,[(0,⟨.prm,1,0⟩)]):=by decide
theorem wH0:RG.hearR s0W 0 1 ⟨.prm,1,0⟩=some (p0W,[(1,⟨.prd,1,0⟩)]):=by decide
theorem wH1:RG.hearR b1W 1 0 ⟨.prd,1,0⟩=some (m1W,[]):=by decide
theorem k0:s0W.ok 2 0:=by constructor<;>first|decide|(simp[s0W,Tk.ok,newT];done)|(simp[s0W];constructor<;>decide)
theorem k1:s1W.ok 2 1:=by constructor<;>first|decide|(simp[s1W,Tk.ok,newT];done)|(simp[s1W];constructor<;>decide)
theorem kb:b1W.ok 2 1:=by constructor<;>first|decide|(simp[b1W,Tk.ok,newT];done)|(simp[b1W];constructor<;>decide)
theorem kp:p0W.ok 2 0:=by constructor<;>first|decide|(simp[p0W,Tk.ok,newT];done)|(simp[p0W];constructor<;>decide)
theorem km:m1W.ok 2 1:=by constructor<;>first|decide|(simp[m1W,Tk.ok,newT];done)|(simp[m1W];constructor<;>decide)
theorem oy_:PC Try.prog 7 [] (fun r=>r=.s (.bool true)):=by
 have cN0:=so_ 0 2 (by decide)
 have cN1:=so_ 1 2 (by decide)
 have cB:=tU_ k1 (by decide)
 rw[wB]at cB
 have cH0:=uM_ (m:=⟨.prm,1,0⟩) (j:=1) k0 (by constructor<;>decide) (by decide) (by decide) (by decide) (by decide)
 rw[xq_,wH0]at cH0
 have cH1:=uM_ (m:=⟨.prd,1,0⟩) (j:=0) kb (by constructor<;>decide) (by decide) (by decide) (by decide) (by decide)
 rw[xq_,wH1]at cH1
 have cV0:=zW_ kp
 have cV1:=zW_ km
 have z0:((0:Nat):Int)=0:=rfl
 have z1:((1:Nat):Int)=1:=rfl
 have z2:((2:Nat):Int)=2:=rfl
 have n0:newT 0=⟨true,false,false,-1,-1⟩:=by decide
 have n1:newT 1=⟨false,false,false,0,-1⟩:=by decide
 simp only[rv,rw_,lv,ou,mv,pc,mc,kk,s0W,s1W,b1W,p0W,m1W,z0,z1,z2,n0,n1,List.map_nil,List.map_cons]at cN0 cN1 cB cH0 cH1 cV0 cV1
 refine zx_ c7 zN_ rfl ?_
 simp -implicitDefEqProofs [a7,F7]
 refine z5_ ?_
 simp -implicitDefEqProofs
 refine zj_ cN0 (by simp) (by simp) ?_
 rintro _ rfl
 simp -implicitDefEqProofs
 refine z5_ ?_
 simp -implicitDefEqProofs
 refine zj_ cN1 (by simp) (by simp) ?_
 rintro _ rfl
 simp -implicitDefEqProofs
 refine z5_ ?_
 simp -implicitDefEqProofs
 refine zj_ cB (by simp) (by simp) ?_
 rintro _ rfl
 simp -implicitDefEqProofs
 refine sp_ ?_
 simp -implicitDefEqProofs
 refine oH_ cH0 (by simp) (by simp) ?_
 simp -implicitDefEqProofs
 refine sp_ ?_
 simp -implicitDefEqProofs
 refine oH_ cH1 (by simp) (by simp) ?_
 simp -implicitDefEqProofs
 refine z5_ ?_
 simp -implicitDefEqProofs
 refine zj_ cV0 (by simp) (by simp) ?_
 rintro _ rfl
 simp -implicitDefEqProofs
 refine z5_ ?_
 simp -implicitDefEqProofs
 refine zj_ cV1 (by simp) (by simp) ?_
 rintro _ rfl
 simp -implicitDefEqProofs
theorem vI_{g:Gh}{w:World}(hlt:∀k,0<g.I k->k<w.heap.size):Calls Try.prog 7 #[] w fun e w'=>e=.returned (.bool true)/\Below w.heap.size w w':=by
 refine(xw_ oy_ (g:=g) (w:=w) (vals:=#[]) rfl (by intro x hx;simp at hx) (by intro i x v hx;simp at hx) hlt).mono ?_
 rintro e w' ⟨v,r,g',rfl,rfl,hr,hb,_⟩
 have:=hr.of_s rfl
 subst this
 exact⟨rfl,hb⟩
theorem sf_{g:Gh}{w:World}(hlt:∀k,0<g.I k->k<w.heap.size){l:List Int}{lv:Value}(hlv:Rep g w (.list 1 (iv l)) lv):Calls Try.prog 6 #[lv] w fun e w'=>e=.returned (.bool (decide (l.length<=400)))/\Below w.heap.size w w':=by
 refine(xw_ (oD_ l) (g:=g) (w:=w) (vals:=#[lv]) rfl ?_ ?_ hlt).mono ?_
 .intro x hx
  simp at hx
  subst hx
  rfl
 .intro i x v hx hv
  match i,hx,hv with
  |0,hx,hv=>cases hx;cases hv;exact hlv
 .rintro e w' ⟨v,r,g',rfl,rfl,hr,hb,_⟩
  have:=hr.of_s rfl
  subst this
  exact⟨rfl,hb⟩
theorem rz_{g:Gh}{w w':World}{l:List Int}{lv:Value}(hlt:∀k,0<g.I k->k<w.heap.size)(hlv:Rep g w (.list 1 (iv l)) lv)(hb:Below w.heap.size w w'):Rep g w' (.list 1 (iv l)) lv :=
 zO_ hlv rfl fun b o ho=>⟨ho,yyb_ (a:=⟨b,o,none⟩) (hb.block b (hlt b (by omega)))⟩
section
def mA(e fr:Nat):Nat->RG.Rm
 |0=>⟨.tok,e,0⟩
 |1=>⟨.prm,e,0⟩
 |2=>⟨.prd,e,0⟩
 |_=>⟨.req,e,fr⟩
def cA(m:RG.Rm):Array Value:=(mc (kk m.k) m.e m.s).toArray
def ol_(f:Nat->Array Value):Array Value:=((List.range 4).flatMap fun q=>(f q).toList).toArray
section
variable{P:Program}{ops:Array Oper}{rest:List Oper}{o:Oper}{a:Act}{w:World}{Q:Exit->Act->World->Prop}
end
theorem nM_{w:World}{b:Nat}{f:Nat->Array Value}(hf:∀q,(f q).size=18)(h:w.heap[b]?=some (.cells (ol_ f) 57 (0,0))){q:Nat}(hq:q<4):Hs w b (q*18) (f q):=fun j v hj=>by
 have hl:j<18:=by
  have:=(zzm_.1 hj).1
  rwa [hf]at this
 rw[cell_of_row w b (q*18+j) _ 57 (0,0) h]
 unfold ol_
 rw[List.getElem?_toArray,vz_ (z:=18) (f:=fun q=>(f q).toList) (fun q=>by simpa using hf q) (List.range 4) q (by simpa using hq) j hl]
 simp only[List.getElem_range,Array.getElem?_toList]
 exact hj
section
variable{T:Nat->Nat}{g:Gh}{w wx:World}{X n:Nat}{R:Nat->RG.Rs}{U:Nat->Bool}{M:Nat->Nat->List RG.Rm}{h:Hd}
theorem u7_(hn:Net T g w X n R U M h){p j:Nat}{m:RG.Rm}{b:RG.Rs}{l:RG.Out}{err:Int}(hH:PC Try.prog 13 [rv (R p),.s (.int .i64 p),.s (.int .i64 n),.s (.int .i64 j),mv m] (fun x=>x=.tup [rv b,.list 19 (ou l),.s (.int .i64 err)])){vs:Array Value}(hrv:Rep g w (rv (R p)) (.agg vs))(hb:Below w.heap.size w wx) :
 Calls Try.prog 13 #[.agg vs,.int .i64 p,.int .i64 n,.int .i64 j,.agg (cA m)] wx fun e w'=>∃g' rs A C,e=.returned (.tuple #[.agg rs,.slice A l.length C,.int .i64 err])/\Gv g wx b l w' g' rs A C:=by
 have hI:=hn.keepI hb
 refine(xw_ hH (g:=g) (w:=wx) (vals:=#[.agg vs,.int .i64 p,.int .i64 n,.int .i64 j,.agg (cA m)]) rfl ?_ ?_ fun k hk=>zzk_ (hn.Ilt k hk) hb.size).mono ?_
 .intro x hx
  simp at hx
  rcases hx with rfl|rfl|rfl|rfl|rfl<;>rfl
 .intro x u c hu hc
  match x,hu,hc with
  |0,hu,hc=>cases hu;cases hc;exact yd_ hrv hI
  |1,hu,hc=>cases hu;cases hc;exact .s rfl
  |2,hu,hc=>cases hu;cases hc;exact .s rfl
  |3,hu,hc=>cases hu;cases hc;exact .s rfl
  |4,hu,hc=>cases hu;cases hc;exact wi_ (w5_ _ _ _)
 .rintro e w' ⟨v,r,g',rfl,rfl,hr,hbel,hg,hlt⟩
  obtain⟨rs,A,C,rfl,hv⟩:=rJ_ hr hbel hg hlt
  exact⟨g',rs,A,C,rfl,hv⟩
theorem Aft.bel{b:RG.Rs}{l:RG.Out}{g':Gh}{W:World}{rs:Array Value}{A:Option Addr}{C K:Nat}(h0:Aft T g w X n R U M h b l g' W rs A C K):Below w.heap.size w W:=⟨h0.os,h0.tape,h0.output,h0.size,h0.fr⟩
end
theorem pK_{r:RG.Rs}{n i fr:Nat}(h:r.ok n i)(hj:Othr n i fr){e q:Nat}(he:e<r.ep):PC Try.prog 13 [rv r,.s (.int .i64 i),.s (.int .i64 n),.s (.int .i64 fr),mv (mA e fr q)] (fun x=>x=.tup [rv r0,.list 19 (ou []),.s (.int .i64 18)]):=by
 have h9:=h.e
 refine oU_ h hj ?_ ?_ ?_
 .have:(mA e fr q).e=e:=by unfold mA;split<;>rfl
  omega
 .intro hk
  match q with
  |0=>cases hk
  |1=>cases hk
  |2=>cases hk
  |q+3=>exact hj
 .match q with
  |0=>simp[chk,mA];omega
  |1=>simp[chk,mA];omega
  |2=>simp[chk,mA];omega
  |q+3=>simp[chk,mA];omega
theorem qj_{r:RG.Rs}{n i fr:Nat}(h:r.ok n i)(hj:Othr n i fr)(he:r.ep+1<=1073741824):PC Try.prog 13 [rv r,.s (.int .i64 i),.s (.int .i64 n),.s (.int .i64 fr),mv ⟨.prm,r.ep+1,0⟩] (fun x=>x=.tup [rv (RG.promR r i fr (r.ep+1)).1,.list 19 (ou (RG.promR r i fr (r.ep+1)).2),.s (.int .i64 0)]) :=
 oT_ h hj he (by simp[chk])
theorem sD_{g:Gh}{w:World}{b:RG.Rs}{vs:Array Value}(h:Rep g w (rv b) (.agg vs)):vs[0]?=some (.int .i64 b.ep)/\vs[4]?=some (.bool b.tk.has)/\vs[6]?=some (.bool b.tk.using_):=by
 obtain⟨h1,h2,h3⟩:=xW_ h
 have key:∀(k:Nat) (v:Value),(sc b)[k]?=some (.s v)->k<9->vs[k]?=some v:=fun k v hk hl=>by
  have hc:vs.toList[k]?=some (vs.toList[k]'(by simp;omega)):=zzf_ _
  have:=(h3 k _ _ hk hc).of_s rfl
  rw[this,Array.getElem?_toList]at hc
  exact hc
 exact⟨key 0 _ rfl (by omega),key 4 _ rfl (by omega),key 6 _ rfl (by omega)⟩
theorem oO_(r:RG.Rs)(i j e:Nat):(RG.promR r i j e).1.ep=e/\(RG.promR r i j e).1.tk.has=false/\(RG.promR r i j e).1.tk.using_=false:=by
 unfold RG.promR
 simp only
 split<;>exact⟨rfl,rfl,rfl⟩
end
section
section
variable{P:Program}{ops:Array Oper}{rest:List Oper}{o:Oper}{a:Act}{w:World}{Q:Exit->Act->World->Prop}
theorem pj_(t:TypeId)(i0 i1:Nat)(x0 x1:Operand)(ho:o.op=.build t #[(i0,x0),(i1,x1)]){u0 u1:Value}(h0:a.eval x0=u0)(h1:a.eval x1=u1){cs:Array Value}(hr:P.built t [(i0,u0),(i1,u1)]=some cs):(execOp a.eval o).run P w=.ok (.value (.agg cs)) w:=by
 have:=run_build (P:=P) w t #[(i0,u0),(i1,u1)] cs hr
 unfold execOp
 simp only[ho,Sem.run_bind,List.map_toArray,List.map_cons,List.map_nil,h0,h1,this,Sem.run_pure,Result.andThen_ok]
end
theorem mV_(k e:Int):Try.prog.built 57 [(0,.int .i64 k),(7,.int .i64 e)]=some (mc k e 0).toArray:=by kernel_rfl
end
theorem uL_(l:List Int)(n:Nat)(hn:n<256)(old:Int):PC Try.prog 5 [.list 1 (iv l),.s (.int .u8 n),.s (.int .i64 old)] (fun r=>r=.s (.bool true)):=by
 refine oP_ (by intro x hx;simp at hx;rcases hx with rfl|rfl|rfl<;>rfl) fun g w vs hl hr hlt=>?_
 obtain⟨lv,nv,ov,rfl⟩:∃a b c,vs=#[a,b,c]:=by
  have:vs.toList.length=3:=by simpa using hl.symm
  match hv:vs.toList,this with
  |[a,b,c],_=>exact⟨a,b,c,Array.ext' (by simpa using hv)⟩
 have hlv:=hr 0 _ lv rfl rfl
 have hnv:=(hr 1 _ nv rfl rfl).of_s rfl
 subst hnv
 have hov:=(hr 2 _ ov rfl rfl).of_s rfl
 subst hov
 have fin:∀w',Below w.heap.size w w'->∃(v:Value) (r:V) (I':Nat->Nat),Ending.returned (.bool true)=.returned v/\r=.s (.bool true)/\immT r=true/\okV r=true/\(∀b,b<w.heap.size->I' b=g.I b)/\(∀b,0<I' b->b<w'.heap.size)/\Rep ⟨I',g.φ⟩ w' r v/\Below w.heap.size w w':=fun w' hb =>
  ⟨_,_,g.I,rfl,rfl,rfl,rfl,fun _ _=>rfl,fun b hb'=>zzk_ (hlt b hb') hb.size,.s rfl,hb⟩
 have HF0:=Lib.hid fin
 have mx:=zN_
 have HL:=Lib.hid hlv
 have H0:=Lib.hid (sf_ hlt hlv)
 have c1:IntKind.i64.wrap (n:Int)=n:=by rw[yye_];omega
 have c2:(n:Int).tmod 3=((n%3:Nat):Int):=by rw[Int.tmod_eq_emod_of_nonneg (by omega)];rfl
 have c3:IntKind.i64.wrap ((n%3:Nat):Int)=((n%3:Nat):Int):=by rw[yye_];omega
 obtain⟨N,hN⟩:∃N,N=2+n%3:=⟨_,rfl⟩
 have c5:(2:Int)+((n%3:Nat):Int)=(N:Int):=by omega
 have c4:IntKind.i64.wrap (2+((n%3:Nat):Int))=(N:Int):=by rw[yye_];omega
 have hN2:2<=N/\N<=4:=by omega
 have c7:(2:Int)+(n:Int)%3=(N:Int):=by omega
 have c6:IntKind.i64.wrap (N:Int)=(N:Int):=by rw[yye_];omega
 clear hN
 clear hr hlv fin
 have hd:decide (l.length<=400)=true\/decide (l.length<=400)=false:=by cases decide (l.length<=400)<;>simp
 rcases hd with hd|hd
 .have h4:l.length<=400:=of_decide_eq_true hd
  go_enter Try.func5,Try.ntmps5
  go_wp2_with (first
   | (go_at_call 6
      refine H0.out.mono ?_
      rintro e w1 ⟨rfl,hb1⟩
      have hlt1:∀k,0<g.I k->k<w1.heap.size:=fun k hk=>zzk_ (hlt k hk) hb1.size
      have HB1:=Lib.hid hb1
      have HLT:=Lib.hid hlt1
      clear hb1 hlt1)
   | (go_at_call 8
      (try rw[c7])
      refine(ns_ HLT.out (rz_ hlt HL.out HB1.out) h4 (n:=N) (by omega) (by omega)).mono ?_
      rintro e w2 ⟨X,K,j,R,U,M,T,g2,h2,rfl,hj,hp⟩
      have hb2:=HB1.out.trans (Below.mono1 hp.below HB1.out.size)
      have hlt2:∀k,0<g.I k->k<w2.heap.size:=fun k hk=>zzk_ (hlt k hk) hb2.size
      have HB2:=Lib.hid hb2
      have HLT2:=Lib.hid hlt2
      have HJ:=Lib.hid hj
      have x0:=hp.net.x0'
      have HP:=Lib.hid hp
      clear hp hb2 hlt2 hj))
  go_loopg [40] N (fun kx s40 wr=>∃p:Nat,s40=.int .i64 p/\p+kx=N/\Below w2.heap.size w2 wr)
  case atStart=>exact⟨0,rfl,by omega,Below.refl _ _⟩
  case round =>
   obtain⟨p,rfl,hp,hbel⟩:=hrel
   have HPK:=Lib.hid hp
   have HBR:=Lib.hid hbel
   clear x0
   have hnr:=HP.out.net.below hbel
   by_cases hm:p<N
   .obtain⟨vs,hvs,hV,hrv,hv1,k0,_⟩:=hnr.st hm
    have y0:=hnr.x0'
    have hbcn:=hnr.bcn
    obtain⟨fr,hfr⟩:∃fr,fr=(p+1)%N:=⟨_,rfl⟩
    have hfrN:fr<N:=by rw[hfr];exact Nat.mod_lt _ (by omega)
    have hfrp:fr≠p:=by
     rw[hfr]
     by_cases q:p+1<N
     .rw[Nat.mod_eq_of_lt q];omega
     .rw[show p+1=N by omega,Nat.mod_self];omega
    have hpz:(p:Int)<(N:Int):=by omega
    have hp0:¬(p:Int)<0:=by omega
    have hwp:IntKind.i64.wrap ((p:Int)+1)=(p:Int)+1:=by rw[yye_];omega
    have hN0:¬(N:Int)=0:=by omega
    have hfm:((p:Int)+1).tmod (N:Int)=(fr:Int):=by rw[Int.tmod_eq_emod_of_nonneg (by omega),hfr];rfl
    have hfw:IntKind.i64.wrap (fr:Int)=(fr:Int):=by rw[yye_];omega
    have HNR:=Lib.hid hnr
    have HVS:=Lib.hid hvs
    have HV:=Lib.hid hV
    have HRV:=Lib.hid hrv
    clear hnr hvs hV hrv hv1 hp hbel hfr
    by_cases he0:(R p).ep=0
    .have hez:((R p).ep:Int)=0:=by omega
     rw[hez]at k0
     go_wp2
     go_roundg (N-(p+1))
     case measure=>have:=HPK.out;omega
     case rel=>exact⟨p+1,rfl,by have:=HPK.out;omega,HBR.out⟩
    .have hez:(((R p).ep:Int)==0)=false:=by simp;omega
     have hez2:¬((R p).ep:Int)=0:=by omega
     obtain⟨D,hD⟩:=HP.out.rch.gi HP.out.n1 HP.out.net.n9
     have hE2:4*j<=1000:=by have:=HJ.out;omega
     have hbd:=hD.bd p hm
     have hok:=hD.inv.ok hm (by omega)
     obtain⟨st,hst⟩:∃st:Nat,old%((R p).ep:Int)=(st:Int):=⟨(old%((R p).ep:Int)).toNat,by have:=Int.emod_nonneg old (b:=((R p).ep:Int)) (by omega);omega⟩
     have hst2:st<(R p).ep:=by have:=Int.emod_lt_of_pos old (b:=((R p).ep:Int)) (by omega);omega
     have hoth:Othr N p fr:=by constructor<;>omega
     have hno:∀q,PC Try.prog 13 [rv (R p),.s (.int .i64 p),.s (.int .i64 N),.s (.int .i64 fr),mv (mA st fr q)] (fun x=>x=.tup [rv r0,.list 19 (ou []),.s (.int .i64 18)]):=fun q=>pK_ hok hoth hst2
     have hyes:=qj_ hok hoth (by omega)
     have hmod:∀wx,Below wr.heap.size wr wx->Calls Try.prog 12 #[.int .i64 old,.int .i64 ((R p).ep:Int)] wx fun e w'=>e=.returned (.int .i64 (st:Int))/\Below wx.heap.size wx w':=by
      intro wx hwx
      refine(xw_ (n3_ old ((R p).ep:Int) (by omega) (by omega)) (g:=g2) (w:=wx) (vals:=#[.int .i64 old,.int .i64 ((R p).ep:Int)]) rfl ?_ ?_ fun k hk=>zzk_ (HNR.out.Ilt k hk) hwx.size).mono ?_
      .intro x hx
       simp at hx
       rcases hx with rfl|rfl<;>rfl
      .intro i x v hx hv
       match i,hx,hv with
       |0,hx,hv=>cases hx;cases hv;exact .s rfl
       |1,hx,hv=>cases hx;cases hv;exact .s rfl
      .rintro e w' ⟨v,r,g',rfl,rfl,hr,hb,_⟩
       have:=hr.of_s rfl
       subst this
       exact⟨by rw[hst],hb⟩
     have HMOD:=Lib.hid hmod
     have HNO:=Lib.hid hno
     have HYES:=Lib.hid hyes
     obtain⟨f,hf⟩:∃f:Nat->Array Value,f=fun q=>cA (mA st fr q):=⟨_,rfl⟩
     have hf18:∀q,(f q).size=18:=fun q=>by rw[hf];rfl
     have hf1:∀q,∀v∈(f q).toList,v.oneCell'=true:=fun q=>by rw[hf];exact w5_ _ _ _
     have HF:=Lib.hid hf18
     have HF1:=Lib.hid hf1
     have HFE:=Lib.hid hf
     have HEB:=Lib.hid hbd
     clear hmod hno hyes hf18 hf1 hf hst hst2 hok hbd hD
     go_wp2_with fail
     go_at_call 12
     refine(HMOD.out _ (Below.refl _ _)).mono ?_
     rintro e w3 ⟨rfl,hb3⟩
     obtain⟨w4,hw4⟩:∃w4,w3.alloc (.cells (ol_ f) 57)=w4:=⟨_,rfl⟩
     obtain⟨Bq,hBq⟩:∃Bq,w3.heap.size=Bq:=⟨_,rfl⟩
     have hlit:w3.alloc (.cells #[.int .i64 13,.int .i64 0,.int .i64 0,.int .i64 0,.int .i64 0,.string (ByteArray.mk #[]),.int .i64 0,.int .i64 0,.int .i64 0,.int .i64 0,.int .i64 0,.int .i64 (st:Int),.int .i64 0,.int .i64 0,.bool false,.slice none 0 0,.slice none 0 0,.slice none 0 0,.int .i64 14,.int .i64 0,.int .i64 0,.int .i64 0,.int .i64 0,.string (ByteArray.mk #[]),.int .i64 0,.int .i64 0,.int .i64 0,.int .i64 0,.int .i64 0,.int .i64 (st:Int),.int .i64 0,.int .i64 0,.bool false,.slice none 0 0,.slice none 0 0,.slice none 0 0,.int .i64 15,.int .i64 0,.int .i64 0,.int .i64 0,.int .i64 0,.string (ByteArray.mk #[]),.int .i64 0,.int .i64 0,.int .i64 0,.int .i64 0,.int .i64 0,.int .i64 (st:Int),.int .i64 0,.int .i64 0,.bool false,.slice none 0 0,.slice none 0 0,.slice none 0 0,.int .i64 12,.int .i64 0,.int .i64 0,.int .i64 0,.int .i64 0,.string (ByteArray.mk #[]),.int .i64 0,.int .i64 0,.int .i64 0,.int .i64 0,.int .i64 0,.int .i64 (st:Int),.int .i64 (fr:Int),.int .i64 0,.bool false,.slice none 0 0,.slice none 0 0,.slice none 0 0] 57)=w4:=by
      rw[<-hw4,HFE.out]
      rfl
     have h4b:w4.heap[Bq]?=some (.cells (ol_ f) 57 (0,0)):=by rw[<-hw4,<-hBq];exact heap_alloc_new w3 _
     have hb4:Below wr.heap.size wr w4:=hb3.trans (Below.mono1 (by rw[<-hw4];exact zI_ w3 _) hb3.size)
     have h4n:=HNR.out.below hb4
     have hbl:Bq<w4.heap.size:=(zzm_.1 h4b).1
     have z0:=h4n.x0'
     have HLIT:=Lib.hid (And.intro hlit hBq)
     have H4B:=Lib.hid h4b
     have HB4:=Lib.hid hb4
     have H4N:=Lib.hid h4n
     have HBL:=Lib.hid hbl
     clear hlit h4b hb4 h4n hbl hw4 hBq y0 k0 hb3
     go_wp2_with fail
     rw[HLIT.out.1,HLIT.out.2]
     clear HLIT
     clear z0
     go_loopg [81] 4 (fun kx s81 wy=>∃q:Nat,s81=.int .i64 q/\q+kx=4/\Below w4.heap.size w4 wy)
     case atStart=>exact⟨0,rfl,rfl,Below.refl _ _⟩
     case round =>
      obtain⟨q,rfl,hq,hbel⟩:=hrel
      have HQ:=Lib.hid hq
      have HBY:=Lib.hid hbel
      have hny:=H4N.out.below hbel
      obtain⟨hXl,hBl,_,_⟩:=hny.lt
      have hx0:=hny.x0'
      by_cases hq4:q<4
      .have hqz:(q:Int)<4:=by omega
       have hq0:¬(q:Int)<0:=by omega
       have hwq:IntKind.i64.wrap ((q:Int)+1)=(q:Int)+1:=by rw[yye_];omega
       have hld:(Instr.loadAt 57 (.pointer (some ⟨Bq,q*18,none⟩))).run Try.prog wr=.ok (.agg (f q)) wr:=sz57.ld (HF.out q) ((nM_ HF.out H4B.out hq4).below hbel HBL.out)
       have HLD:=Lib.hid hld
       obtain⟨W5,s1,s2,s3,s4⟩:=sz57.box (w:=wr) (zs:=#[.int .i64 0,.int .i64 0,.int .i64 0,.int .i64 0,.int .i64 0,.string (ByteArray.mk #[]),.int .i64 0,.int .i64 0,.int .i64 0,.int .i64 0,.int .i64 0,.int .i64 0,.int .i64 0,.int .i64 0,.bool false,.slice none 0 0,.slice none 0 0,.slice none 0 0]) (HF.out q) rfl (HF1.out q)
       obtain⟨Kt,hKt⟩:∃Kt,wr.heap.size=Kt:=⟨_,rfl⟩
       have s5:=s4
       rw[hKt]at s5
       have s6:=s1
       rw[hKt]at s6
       have HST:=Lib.hid s6
       have HB5:=Lib.hid s2
       have hn5:=hny.below s2
       have hKl:Kt<W5.heap.size:=(zzm_.1 s5).1
       have hxl5:=hn5.lt.1
       have hbl5:=hn5.lt.2.1
       have hV5:Hs W5 h2.bk (p*9) vs:=((HV.out.below HB4.out HNR.out.lt.2.1).below hbel H4N.out.lt.2.1).below s2 hBl
       have hx5:=hn5.x0'
       have hS:∀wx,Below W5.heap.size W5 wx->wx.cell? ⟨X,0,none⟩=some (.slice (some ⟨h2.bk,0,none⟩) N h2.bc)/\Hs wx h2.bk (p*9) vs/\Hs wx Kt 0 (f q):=fun wx hb=>⟨xd_ hb hx5 hxl5,hV5.below hb hbl5,(zB_ s5).below hb hKl⟩
       have hrv5:Rep g2 W5 (rv (R p)) (.agg vs):=yd_ (yd_ (yd_ HRV.out (HNR.out.keepI HB4.out)) (H4N.out.keepI hbel)) (hny.keepI s2)
       have hcall:∀wx,Below W5.heap.size W5 wx->Calls Try.prog 13 #[.agg vs,.int .i64 p,.int .i64 N,.int .i64 fr,.agg (f q)] wx fun e w'=>∃g' rs A C,e=.returned (.tuple #[.agg rs,.slice A ([]:RG.Out).length C,.int .i64 18])/\Gv g2 wx r0 [] w' g' rs A C:=fun wx hb=>by
        rw[HFE.out]
        exact u7_ hn5 (HNO.out q) hrv5 hb
       have HS:=Lib.hid hS
       have HN:=Lib.hid hn5
       have HCALL:=Lib.hid hcall
       have hB1:Below W5.heap.size W5 W5.drew:=⟨rfl,rfl,rfl,zzl_ _,fun _ _=>rfl⟩
       have hB2:Below W5.heap.size W5 (W5.drew.alloc (.cells #[.int .i64 0,.bool false,.bool false,.slice none 0 0,.bool false,.bool false,.bool false,.int .i64 0,.int .i64 0] 37)):=⟨rfl,rfl,rfl,by simp,fun k hk=>Below.heap_alloc W5.drew _ k hk⟩
       have hZ2:(W5.drew.alloc (.cells #[.int .i64 0,.bool false,.bool false,.slice none 0 0,.bool false,.bool false,.bool false,.int .i64 0,.int .i64 0] 37)).heap[W5.heap.size]?=some (.cells #[.int .i64 0,.bool false,.bool false,.slice none 0 0,.bool false,.bool false,.bool false,.int .i64 0,.int .i64 0] 37 (0,0)):=heap_alloc_new W5.drew _
       have HB1:=Lib.hid hB1
       have HB2:=Lib.hid hB2
       have HZ2:=Lib.hid hZ2
       clear hB1 hB2 hZ2
       clear hld s1 s2 s3 s4 s5 s6 hn5 hV5 hS hrv5 hcall hny hbel hXl hBl hx0 hq hxl5 hbl5 hx5 hKl
       go_wp2_with (first
        |(refine zL_ rfl 57 _ rfl _ _ rfl HLD.out ?_)
        |((try rw[hKt]);refine zk_ rfl rfl 57 _ _ rfl _ _ rfl rfl HST.out ?_))
       all_goals go_wp2
       have s0:=HS.out _ HB1.out
       refine zw_ (fun wx=>wx.cell? ⟨X,0,none⟩=some (.slice (some ⟨h2.bk,0,none⟩) N h2.bc)/\Hs wx h2.bk (p*9) vs/\Hs wx Kt 0 (f q)) 21 mx ?_
       refine z1_ (i:=0) (v:=?_) rfl (by kernel_rfl) (fun _ _ _ h=>h) (by kernel_rfl) ?_ (fun _=>s0) ?_
       rotate_left
       ·(intro w9;go_simp;first|done|with_reducible rfl)
       try simp only[Act.put,zze_,zzi_,zzj_]
       refine z1_ (i:=1) (v:=?_) rfl (by kernel_rfl) (fun _ _ _ h=>h) (by kernel_rfl) ?_ (fun _=>s0) ?_
       rotate_left
       ·(intro w9;go_simp;first|done|with_reducible rfl)
       try simp only[Act.put,zze_,zzi_,zzj_]
       refine z1_ (i:=2) (v:=?_) rfl (by kernel_rfl) (fun _ _ _ h=>h) (by kernel_rfl) ?_ (fun _=>s0) ?_
       rotate_left
       ·(intro w9;go_simp;first|done|with_reducible rfl)
       try simp only[Act.put,zze_,zzi_,zzj_]
       refine zr_ (i:=3) (v:=?_) rfl (by kernel_rfl) (by kernel_rfl) (fun _ _ _ h=>h) (by kernel_rfl) ?_ (fun _=>s0) ?_
       rotate_left
       ·(intro w9 hSw;(try dsimp only at hSw);obtain⟨S1,S0,S2⟩:=hSw;clear S0 S2;go_simp;first|done|with_reducible rfl)
       try simp only[Act.put,zze_,zzi_,zzj_]
       refine z1_ (i:=4) (v:=?_) rfl (by kernel_rfl) (fun _ _ _ h=>h) (by kernel_rfl) ?_ (fun _=>s0) ?_
       rotate_left
       ·(intro w9;go_simp;first|done|with_reducible rfl)
       try simp only[Act.put,zze_,zzi_,zzj_]
       refine z1_ (i:=5) (v:=?_) rfl (by kernel_rfl) (fun _ _ _ h=>h) (by kernel_rfl) ?_ (fun _=>s0) ?_
       rotate_left
       ·(intro w9;go_simp;first|done|with_reducible rfl)
       try simp only[Act.put,zze_,zzi_,zzj_]
       refine zr_ (i:=6) (v:=.agg vs) rfl (by kernel_rfl) (by kernel_rfl) (fun _ _ _ h=>h) (by kernel_rfl) (fun w9 hSw=>yk_ 37 _ rfl (u:=.pointer (some ⟨h2.bk,p*9,none⟩)) rfl (sz37.ld HVS.out hSw.2.1)) (fun _=>s0) ?_
       try simp only[Act.put,zze_,zzi_,zzj_]
       refine z1_ (i:=7) (v:=?_) rfl (by kernel_rfl) (fun _ _ _ h=>h) (by kernel_rfl) ?_ (fun _=>s0) ?_
       rotate_left
       ·(intro w9;go_simp;first|done|with_reducible rfl)
       try simp only[Act.put,zze_,zzi_,zzj_]
       refine z1_ (i:=8) (v:=?_) rfl (by kernel_rfl) (fun _ _ _ h=>h) (by kernel_rfl) ?_ (fun _=>s0) ?_
       rotate_left
       ·(intro w9;go_simp;first|done|with_reducible rfl)
       try simp only[Act.put,zze_,zzi_,zzj_]
       refine z1_ (i:=9) (v:=?_) rfl (by kernel_rfl) (fun _ _ _ h=>h) (by kernel_rfl) ?_ (fun _=>s0) ?_
       rotate_left
       ·(intro w9;go_simp;first|done|with_reducible rfl)
       try simp only[Act.put,zze_,zzi_,zzj_]
       refine z1_ (i:=10) (v:=?_) rfl (by kernel_rfl) (fun _ _ _ h=>h) (by kernel_rfl) ?_ (fun _=>s0) ?_
       rotate_left
       ·(intro w9;go_simp;first|done|with_reducible rfl)
       try simp only[Act.put,zze_,zzi_,zzj_]
       refine zr_ (i:=11) (v:=?_) rfl (by kernel_rfl) (by kernel_rfl) (fun _ _ _ h=>h) (by kernel_rfl) ?_ (fun _=>s0) ?_
       rotate_left
       ·(intro w9 hSw;(try dsimp only at hSw);obtain⟨S1,S0,S2⟩:=hSw;clear S0 S2;go_simp;first|done|with_reducible rfl)
       try simp only[Act.put,zze_,zzi_,zzj_]
       refine z1_ (i:=12) (v:=?_) rfl (by kernel_rfl) (fun _ _ _ h=>h) (by kernel_rfl) ?_ (fun _=>s0) ?_
       rotate_left
       ·(intro w9;go_simp;first|done|with_reducible rfl)
       try simp only[Act.put,zze_,zzi_,zzj_]
       refine z1_ (i:=13) (v:=?_) rfl (by kernel_rfl) (fun _ _ _ h=>h) (by kernel_rfl) ?_ (fun _=>s0) ?_
       rotate_left
       ·(intro w9;go_simp;first|done|with_reducible rfl)
       try simp only[Act.put,zze_,zzi_,zzj_]
       refine zr_ (i:=14) (v:=.agg (f q)) rfl (by kernel_rfl) (by kernel_rfl) (fun _ _ _ h=>h) (by kernel_rfl) (fun w9 hSw=>yk_ 57 _ rfl (u:=.pointer (some ⟨Kt,0,none⟩)) rfl (sz57.ld (HF.out q) hSw.2.2)) (fun _=>s0) ?_
       try simp only[Act.put,zze_,zzi_,zzj_]
       refine z9_ (rs:=[15,20]) (by decide +kernel) (by simp) ?_
       refine z3_ rfl (fun K hK=>?_) (z3_ rfl (fun K hK=>?_) AllG.nil)
       .go_simp
        refine(HCALL.out _ HB1.out).mono ?_
        rintro e w' ⟨g',rs,A,C,rfl,hv⟩
        have hB3:=HB1.out.trans (Below.mono1 hv.below HB1.out.size)
        have s1:=HS.out _ hB3
        go_simp
        refine hK.out _ _ (fun _=>s1) ?_
        clear hK K
        try simp only[Act.put,zze_,zzi_,zzj_]
        refine z1_ (i:=16) (v:=?_) rfl (by kernel_rfl) (fun _ _ _ h=>h) (by kernel_rfl) ?_ (fun _=>s1) ?_
        rotate_left
        ·(intro w9;go_simp;first|done|with_reducible rfl)
        try simp only[Act.put,zze_,zzi_,zzj_]
        refine z1_ (i:=17) (v:=?_) rfl (by kernel_rfl) (fun _ _ _ h=>h) (by kernel_rfl) ?_ (fun _=>s1) ?_
        rotate_left
        ·(intro w9;go_simp;first|done|with_reducible rfl)
        try simp only[Act.put,zze_,zzi_,zzj_]
        refine z1_ (i:=18) (v:=?_) rfl (by kernel_rfl) (fun _ _ _ h=>h) (by kernel_rfl) ?_ (fun _=>s1) ?_
        rotate_left
        ·(intro w9;go_simp;first|done|with_reducible rfl)
        try simp only[Act.put,zze_,zzi_,zzj_]
        refine z1_ (i:=19) (v:=?_) rfl (by kernel_rfl) (fun _ _ _ h=>h) (by kernel_rfl) ?_ (fun _=>s1) ?_
        rotate_left
        ·(intro w9;go_simp;first|done|with_reducible rfl)
        try simp only[Act.put,zze_,zzi_,zzj_]
        obtain⟨W,hW,hA⟩:=hv.aft1 HN.out HB1.out (zs:=#[.int .i64 0,.bool false,.bool false,.slice none 0 0,.bool false,.bool false,.bool false,.int .i64 0,.int .i64 0]) rfl
        have s2:=HS.out _ (hB3.trans (Below.mono1 (zI_ w' (.cells #[.int .i64 0,.bool false,.bool false,.slice none 0 0,.bool false,.bool false,.bool false,.int .i64 0,.int .i64 0] 37)) hB3.size))
        refine z9_ (rs:=[20]) (by decide +kernel) (by simp) ?_
        refine z3_ rfl (fun K hK=>?_) AllG.nil
        go_simp
        refine hK.out _ _ (fun _=>s2) ?_
        clear hK K s2
        try simp only[Act.put,zze_,zzi_,zzj_]
        refine zP_ (by kernel_rfl) (by kernel_rfl) (by decide) ?_
        simp only[List.drop_succ_cons,List.drop_zero]
        refine zk_ rfl rfl 37 _ _ rfl _ _ rfl rfl hW ?_
        clear s0 s1 hW hv
        generalize w'.heap.size=Kb at hA ⊢
        have HA:=Lib.hid hA
        clear hA
        have hbA:=HA.out.bel
        have HBA:=Lib.hid (HBY.out.trans (Below.mono1 (HB5.out.trans (Below.mono1 hbA HB5.out.size)) HBY.out.size))
        clear hbA
        go_wp2
        go_roundg (4-(q+1))
        case measure=>have:=HQ.out;omega
        case rel=>exact⟨q+1,rfl,by have:=HQ.out;omega,HBA.out⟩
       .go_simp
        have s1:=HS.out _ HB2.out
        refine hK.out _ _ (fun _=>s1) ?_
        clear hK K
        try simp only[Act.put,zze_,zzi_,zzj_]
        refine z9_ (rs:=[15]) (by decide +kernel) (by simp) ?_
        refine z3_ rfl (fun K hK=>?_) AllG.nil
        go_simp
        refine(HCALL.out _ HB2.out).mono ?_
        rintro e w' ⟨g',rs,A,C,rfl,hv⟩
        have hB3:=HB2.out.trans (Below.mono1 hv.below HB2.out.size)
        have s2:=HS.out _ hB3
        go_simp
        refine hK.out _ _ (fun _=>s2) ?_
        clear hK K
        try simp only[Act.put,zze_,zzi_,zzj_]
        refine z1_ (i:=16) (v:=?_) rfl (by kernel_rfl) (fun _ _ _ h=>h) (by kernel_rfl) ?_ (fun _=>s2) ?_
        rotate_left
        ·(intro w9;go_simp;first|done|with_reducible rfl)
        try simp only[Act.put,zze_,zzi_,zzj_]
        refine z1_ (i:=17) (v:=?_) rfl (by kernel_rfl) (fun _ _ _ h=>h) (by kernel_rfl) ?_ (fun _=>s2) ?_
        rotate_left
        ·(intro w9;go_simp;first|done|with_reducible rfl)
        try simp only[Act.put,zze_,zzi_,zzj_]
        refine z1_ (i:=18) (v:=?_) rfl (by kernel_rfl) (fun _ _ _ h=>h) (by kernel_rfl) ?_ (fun _=>s2) ?_
        rotate_left
        ·(intro w9;go_simp;first|done|with_reducible rfl)
        try simp only[Act.put,zze_,zzi_,zzj_]
        refine z1_ (i:=19) (v:=?_) rfl (by kernel_rfl) (fun _ _ _ h=>h) (by kernel_rfl) ?_ (fun _=>s2) ?_
        rotate_left
        ·(intro w9;go_simp;first|done|with_reducible rfl)
        try simp only[Act.put,zze_,zzi_,zzj_]
        obtain⟨W,hW,hA⟩:=hv.aft2 HN.out HB2.out (zs:=#[.int .i64 0,.bool false,.bool false,.slice none 0 0,.bool false,.bool false,.bool false,.int .i64 0,.int .i64 0]) rfl (zzl_ _) HZ2.out
        refine zP_ (by kernel_rfl) (by kernel_rfl) (by decide) ?_
        simp only[List.drop_succ_cons,List.drop_zero]
        refine zk_ rfl rfl 37 _ _ rfl _ _ rfl rfl hW ?_
        clear s0 s1 s2 hW hv
        obtain⟨Kb,hKb⟩:∃Kb,W5.heap.size=Kb:=⟨_,rfl⟩
        rw[hKb]at hA
        try rw[hKb]
        have HA:=Lib.hid hA
        clear hA hKb hB3
        have hbA:=HA.out.bel
        have HBA:=Lib.hid (HBY.out.trans (Below.mono1 (HB5.out.trans (Below.mono1 hbA HB5.out.size)) HBY.out.size))
        clear hbA
        go_wp2
        go_roundg (4-(q+1))
        case measure=>have:=HQ.out;omega
        case rel=>exact⟨q+1,rfl,by have:=HQ.out;omega,HBA.out⟩
      .have hqz:¬(q:Int)<4:=by omega
       have hV5:Hs wr h2.bk (p*9) vs:=(HV.out.below HB4.out HNR.out.lt.2.1).below hbel H4N.out.lt.2.1
       obtain⟨_,_,_,_,_,k0,_⟩:=hny.st hm
       have hS:∀wx,Below wr.heap.size wr wx->wx.cell? ⟨X,0,none⟩=some (.slice (some ⟨h2.bk,0,none⟩) N h2.bc)/\Hs wx h2.bk (p*9) vs/\wx.cell? ⟨h2.bk,p*9,none⟩=some (.int .i64 ((R p).ep:Nat)):=fun wx hb=>⟨xd_ hb hx0 hXl,hV5.below hb hBl,xd_ hb k0 hBl⟩
       have hrv5:Rep g2 wr (rv (R p)) (.agg vs):=yd_ (yd_ HRV.out (HNR.out.keepI HB4.out)) (H4N.out.keepI hbel)
       have hcal2:∀wx,Below wr.heap.size wr wx->Calls Try.prog 13 #[.agg vs,.int .i64 p,.int .i64 N,.int .i64 fr,.agg (cA ⟨.prm,(R p).ep+1,0⟩)] wx fun e w'=>∃g' rs A C,e=.returned (.tuple #[.agg rs,.slice A (RG.promR (R p) p fr ((R p).ep+1)).2.length C,.int .i64 0])/\Gv g2 wx (RG.promR (R p) p fr ((R p).ep+1)).1 (RG.promR (R p) p fr ((R p).ep+1)).2 w' g' rs A C:=fun wx hb=>u7_ hny HYES.out hrv5 hb
       have HU4:=Lib.hid (show Try.prog.built 57 [(0,.int .i64 14),(7,.int .i64 (((R p).ep:Int)+1))]=some (cA ⟨.prm,(R p).ep+1,0⟩) from mV_ 14 (((R p).ep:Int)+1))
       have HS:=Lib.hid hS
       have HN:=Lib.hid hny
       have HCAL2:=Lib.hid hcal2
       have HBX:=Lib.hid (HBR.out.trans (Below.mono1 (HB4.out.trans (Below.mono1 hbel HB4.out.size)) HBR.out.size))
       have hep:IntKind.i64.wrap (((R p).ep:Int)+1)=((R p).ep:Int)+1:=by have:=HEB.out;rw[yye_];omega
       have hB1:Below wr.heap.size wr wr.drew:=⟨rfl,rfl,rfl,zzl_ _,fun _ _=>rfl⟩
       have hB2:Below wr.heap.size wr (wr.drew.alloc (.cells #[.int .i64 0,.bool false,.bool false,.slice none 0 0,.bool false,.bool false,.bool false,.int .i64 0,.int .i64 0] 37)):=⟨rfl,rfl,rfl,by simp,fun k hk=>Below.heap_alloc wr.drew _ k hk⟩
       have hZ2:(wr.drew.alloc (.cells #[.int .i64 0,.bool false,.bool false,.slice none 0 0,.bool false,.bool false,.bool false,.int .i64 0,.int .i64 0] 37)).heap[wr.heap.size]?=some (.cells #[.int .i64 0,.bool false,.bool false,.slice none 0 0,.bool false,.bool false,.bool false,.int .i64 0,.int .i64 0] 37 (0,0)):=heap_alloc_new wr.drew _
       have HB1:=Lib.hid hB1
       have HB2:=Lib.hid hB2
       have HZ2:=Lib.hid hZ2
       clear hB1 hB2 hZ2
       clear hV5 hS hrv5 hcal2 hny hbel hXl hBl hx0 hq k0
       go_wp2
       have s0:=HS.out _ HB1.out
       refine zw_ (fun wx=>wx.cell? ⟨X,0,none⟩=some (.slice (some ⟨h2.bk,0,none⟩) N h2.bc)/\Hs wx h2.bk (p*9) vs/\wx.cell? ⟨h2.bk,p*9,none⟩=some (.int .i64 ((R p).ep:Nat))) 30 mx ?_
       refine z1_ (i:=0) (v:=?_) rfl (by kernel_rfl) (fun _ _ _ h=>h) (by kernel_rfl) ?_ (fun _=>s0) ?_
       rotate_left
       ·(intro w9;go_simp;first|done|with_reducible rfl)
       try simp only[Act.put,zze_,zzi_,zzj_]
       refine z1_ (i:=1) (v:=?_) rfl (by kernel_rfl) (fun _ _ _ h=>h) (by kernel_rfl) ?_ (fun _=>s0) ?_
       rotate_left
       ·(intro w9;go_simp;first|done|with_reducible rfl)
       try simp only[Act.put,zze_,zzi_,zzj_]
       refine z1_ (i:=2) (v:=?_) rfl (by kernel_rfl) (fun _ _ _ h=>h) (by kernel_rfl) ?_ (fun _=>s0) ?_
       rotate_left
       ·(intro w9;go_simp;first|done|with_reducible rfl)
       try simp only[Act.put,zze_,zzi_,zzj_]
       refine zr_ (i:=3) (v:=?_) rfl (by kernel_rfl) (by kernel_rfl) (fun _ _ _ h=>h) (by kernel_rfl) ?_ (fun _=>s0) ?_
       rotate_left
       ·(intro w9 hSw;(try dsimp only at hSw);obtain⟨S1,S0,S2⟩:=hSw;clear S0;go_simp;first|done|with_reducible rfl)
       try simp only[Act.put,zze_,zzi_,zzj_]
       refine z1_ (i:=4) (v:=?_) rfl (by kernel_rfl) (fun _ _ _ h=>h) (by kernel_rfl) ?_ (fun _=>s0) ?_
       rotate_left
       ·(intro w9;go_simp;first|done|with_reducible rfl)
       try simp only[Act.put,zze_,zzi_,zzj_]
       refine z1_ (i:=5) (v:=?_) rfl (by kernel_rfl) (fun _ _ _ h=>h) (by kernel_rfl) ?_ (fun _=>s0) ?_
       rotate_left
       ·(intro w9;go_simp;first|done|with_reducible rfl)
       try simp only[Act.put,zze_,zzi_,zzj_]
       refine zr_ (i:=6) (v:=.agg vs) rfl (by kernel_rfl) (by kernel_rfl) (fun _ _ _ h=>h) (by kernel_rfl) (fun w9 hSw=>yk_ 37 _ rfl (u:=.pointer (some ⟨h2.bk,p*9,none⟩)) rfl (sz37.ld HVS.out hSw.2.1)) (fun _=>s0) ?_
       try simp only[Act.put,zze_,zzi_,zzj_]
       refine z1_ (i:=7) (v:=?_) rfl (by kernel_rfl) (fun _ _ _ h=>h) (by kernel_rfl) ?_ (fun _=>s0) ?_
       rotate_left
       ·(intro w9;go_simp;first|done|with_reducible rfl)
       try simp only[Act.put,zze_,zzi_,zzj_]
       refine z1_ (i:=8) (v:=?_) rfl (by kernel_rfl) (fun _ _ _ h=>h) (by kernel_rfl) ?_ (fun _=>s0) ?_
       rotate_left
       ·(intro w9;go_simp;first|done|with_reducible rfl)
       try simp only[Act.put,zze_,zzi_,zzj_]
       refine z1_ (i:=9) (v:=?_) rfl (by kernel_rfl) (fun _ _ _ h=>h) (by kernel_rfl) ?_ (fun _=>s0) ?_
       rotate_left
       ·(intro w9;go_simp;first|done|with_reducible rfl)
       try simp only[Act.put,zze_,zzi_,zzj_]
       refine z1_ (i:=10) (v:=?_) rfl (by kernel_rfl) (fun _ _ _ h=>h) (by kernel_rfl) ?_ (fun _=>s0) ?_
       rotate_left
       ·(intro w9;go_simp;first|done|with_reducible rfl)
       try simp only[Act.put,zze_,zzi_,zzj_]
       refine zr_ (i:=11) (v:=?_) rfl (by kernel_rfl) (by kernel_rfl) (fun _ _ _ h=>h) (by kernel_rfl) ?_ (fun _=>s0) ?_
       rotate_left
       ·(intro w9 hSw;(try dsimp only at hSw);obtain⟨S1,S0,S2⟩:=hSw;clear S0;go_simp;first|done|with_reducible rfl)
       try simp only[Act.put,zze_,zzi_,zzj_]
       refine z1_ (i:=12) (v:=?_) rfl (by kernel_rfl) (fun _ _ _ h=>h) (by kernel_rfl) ?_ (fun _=>s0) ?_
       rotate_left
       ·(intro w9;go_simp;first|done|with_reducible rfl)
       try simp only[Act.put,zze_,zzi_,zzj_]
       refine z1_ (i:=13) (v:=?_) rfl (by kernel_rfl) (fun _ _ _ h=>h) (by kernel_rfl) ?_ (fun _=>s0) ?_
       rotate_left
       ·(intro w9;go_simp;first|done|with_reducible rfl)
       try simp only[Act.put,zze_,zzi_,zzj_]
       refine z1_ (i:=14) (v:=?_) rfl (by kernel_rfl) (fun _ _ _ h=>h) (by kernel_rfl) ?_ (fun _=>s0) ?_
       rotate_left
       ·(intro w9;go_simp;first|done|with_reducible rfl)
       try simp only[Act.put,zze_,zzi_,zzj_]
       refine z1_ (i:=15) (v:=?_) rfl (by kernel_rfl) (fun _ _ _ h=>h) (by kernel_rfl) ?_ (fun _=>s0) ?_
       rotate_left
       ·(intro w9;go_simp;first|done|with_reducible rfl)
       try simp only[Act.put,zze_,zzi_,zzj_]
       refine z1_ (i:=16) (v:=?_) rfl (by kernel_rfl) (fun _ _ _ h=>h) (by kernel_rfl) ?_ (fun _=>s0) ?_
       rotate_left
       ·(intro w9;go_simp;first|done|with_reducible rfl)
       try simp only[Act.put,zze_,zzi_,zzj_]
       refine zr_ (i:=17) (v:=?_) rfl (by kernel_rfl) (by kernel_rfl) (fun _ _ _ h=>h) (by kernel_rfl) ?_ (fun _=>s0) ?_
       rotate_left
       ·(intro w9 hSw;(try dsimp only at hSw);obtain⟨S1,S0,S2⟩:=hSw;clear S0;go_simp;first|done|with_reducible rfl)
       try simp only[Act.put,zze_,zzi_,zzj_]
       refine z1_ (i:=18) (v:=?_) rfl (by kernel_rfl) (fun _ _ _ h=>h) (by kernel_rfl) ?_ (fun _=>s0) ?_
       rotate_left
       ·(intro w9;go_simp;first|done|with_reducible rfl)
       try simp only[Act.put,zze_,zzi_,zzj_]
       refine z1_ (i:=19) (v:=?_) rfl (by kernel_rfl) (fun _ _ _ h=>h) (by kernel_rfl) ?_ (fun _=>s0) ?_
       rotate_left
       ·(intro w9;go_simp;first|done|with_reducible rfl)
       try simp only[Act.put,zze_,zzi_,zzj_]
       refine z1_ (i:=20) (v:=?_) rfl (by kernel_rfl) (fun _ _ _ h=>h) (by kernel_rfl) ?_ (fun _=>s0) ?_
       rotate_left
       ·(intro w9;go_simp;first|done|with_reducible rfl)
       try simp only[Act.put,zze_,zzi_,zzj_]
       refine zr_ (i:=21) (v:=?_) rfl (by kernel_rfl) (by kernel_rfl) (fun _ _ _ h=>h) (by kernel_rfl) ?_ (fun _=>s0) ?_
       rotate_left
       ·(intro w9 hSw;(try dsimp only at hSw);obtain⟨S1,S0,S2⟩:=hSw;clear S0;go_simp;first|done|with_reducible rfl)
       try simp only[Act.put,zze_,zzi_,zzj_]
       refine z1_ (i:=22) (v:=?_) rfl (by kernel_rfl) (fun _ _ _ h=>h) (by kernel_rfl) ?_ (fun _=>s0) ?_
       rotate_left
       ·(intro w9;go_simp;first|done|with_reducible rfl)
       try simp only[Act.put,zze_,zzi_,zzj_]
       refine z1_ (i:=23) (v:=.agg (cA ⟨.prm,(R p).ep+1,0⟩)) rfl (by kernel_rfl) (fun _ _ _ h=>h) (by kernel_rfl) (fun w9=>pj_ 57 0 7 (.const (.int .i64 14)) (.tmp 131) rfl rfl rfl HU4.out) (fun _=>s0) ?_
       try simp only[Act.put,zze_,zzi_,zzj_]
       refine z9_ (rs:=[24,29]) (by decide +kernel) (by simp) ?_
       refine z3_ rfl (fun K hK=>?_) (z3_ rfl (fun K hK=>?_) AllG.nil)
       .go_simp
        refine(HCAL2.out _ HB1.out).mono ?_
        rintro e w' ⟨g',rs,A,C,rfl,hv⟩
        have hB3:=HB1.out.trans (Below.mono1 hv.below HB1.out.size)
        have s1:=HS.out _ hB3
        go_simp
        refine hK.out _ _ (fun _=>s1) ?_
        clear hK K
        try simp only[Act.put,zze_,zzi_,zzj_]
        refine z1_ (i:=25) (v:=?_) rfl (by kernel_rfl) (fun _ _ _ h=>h) (by kernel_rfl) ?_ (fun _=>s1) ?_
        rotate_left
        ·(intro w9;go_simp;first|done|with_reducible rfl)
        try simp only[Act.put,zze_,zzi_,zzj_]
        refine z1_ (i:=26) (v:=?_) rfl (by kernel_rfl) (fun _ _ _ h=>h) (by kernel_rfl) ?_ (fun _=>s1) ?_
        rotate_left
        ·(intro w9;go_simp;first|done|with_reducible rfl)
        try simp only[Act.put,zze_,zzi_,zzj_]
        refine z1_ (i:=27) (v:=?_) rfl (by kernel_rfl) (fun _ _ _ h=>h) (by kernel_rfl) ?_ (fun _=>s1) ?_
        rotate_left
        ·(intro w9;go_simp;first|done|with_reducible rfl)
        try simp only[Act.put,zze_,zzi_,zzj_]
        refine z1_ (i:=28) (v:=?_) rfl (by kernel_rfl) (fun _ _ _ h=>h) (by kernel_rfl) ?_ (fun _=>s1) ?_
        rotate_left
        ·(intro w9;go_simp;first|done|with_reducible rfl)
        try simp only[Act.put,zze_,zzi_,zzj_]
        obtain⟨W,hW,hA⟩:=hv.aft1 HN.out HB1.out (zs:=#[.int .i64 0,.bool false,.bool false,.slice none 0 0,.bool false,.bool false,.bool false,.int .i64 0,.int .i64 0]) rfl
        have s2:=HS.out _ (hB3.trans (Below.mono1 (zI_ w' (.cells #[.int .i64 0,.bool false,.bool false,.slice none 0 0,.bool false,.bool false,.bool false,.int .i64 0,.int .i64 0] 37)) hB3.size))
        refine z9_ (rs:=[29]) (by decide +kernel) (by simp) ?_
        refine z3_ rfl (fun K hK=>?_) AllG.nil
        go_simp
        refine hK.out _ _ (fun _=>s2) ?_
        clear hK K s2
        try simp only[Act.put,zze_,zzi_,zzj_]
        refine zP_ (by kernel_rfl) (by kernel_rfl) (by decide) ?_
        simp only[List.drop_succ_cons,List.drop_zero]
        refine zk_ rfl rfl 37 _ _ rfl _ _ rfl rfl hW ?_
        clear s0 s1 hW hv
        generalize w'.heap.size=Kb at hA ⊢
        have HA:=Lib.hid hA
        clear hA
        have hn9:=HA.out.net
        have q1:=hn9.x0'
        obtain⟨_,_,_,_,_,q2,_⟩:=hn9.st hm
        obtain⟨v0,v4,v6⟩:=sD_ HA.out.rb
        have f0:=oO_ (R p) p fr ((R p).ep+1)
        rw[f0.1]at v0
        rw[f0.2.1]at v4
        rw[f0.2.2]at v6
        have q3:W.cell? ⟨Kb,0,none⟩=some (.int .i64 ((R p).ep+1:Nat)):=(cell_of_row W Kb 0 rs 37 (0,0) HA.out.box).trans v0
        have q4:W.cell? ⟨Kb,4,none⟩=some (.bool false):=(cell_of_row W Kb 4 rs 37 (0,0) HA.out.box).trans v4
        have q6:W.cell? ⟨Kb,6,none⟩=some (.bool false):=(cell_of_row W Kb 6 rs 37 (0,0) HA.out.box).trans v6
        have d1:W.drew.cell? ⟨X,0,none⟩=some (.slice (some ⟨h2.bk,0,none⟩) N h2.bc):=q1
        have d2:W.drew.cell? ⟨h2.bk,p*9,none⟩=some (.int .i64 ((R p).ep:Nat)):=q2
        have d3:W.drew.cell? ⟨Kb,0,none⟩=some (.int .i64 ((R p).ep+1:Nat)):=q3
        have d4:W.drew.cell? ⟨Kb,4,none⟩=some (.bool false):=q4
        have d6:W.drew.cell? ⟨Kb,6,none⟩=some (.bool false):=q6
        have hbA:=HA.out.bel
        have HBA:=Lib.hid (HBX.out.trans (Below.mono1 hbA HBX.out.size))
        clear hbA hn9 v0 v4 v6 f0
        go_wp2
        go_region
        go_wp2
        go_roundg (N-(p+1))
        case measure=>have:=HPK.out;omega
        case rel=>exact⟨p+1,rfl,by have:=HPK.out;omega,HBA.out.trans ⟨rfl,rfl,rfl,zzl_ _,fun _ _=>rfl⟩⟩
       .go_simp
        have s1:=HS.out _ HB2.out
        refine hK.out _ _ (fun _=>s1) ?_
        clear hK K
        try simp only[Act.put,zze_,zzi_,zzj_]
        refine z9_ (rs:=[24]) (by decide +kernel) (by simp) ?_
        refine z3_ rfl (fun K hK=>?_) AllG.nil
        go_simp
        refine(HCAL2.out _ HB2.out).mono ?_
        rintro e w' ⟨g',rs,A,C,rfl,hv⟩
        have hB3:=HB2.out.trans (Below.mono1 hv.below HB2.out.size)
        have s2:=HS.out _ hB3
        go_simp
        refine hK.out _ _ (fun _=>s2) ?_
        clear hK K
        try simp only[Act.put,zze_,zzi_,zzj_]
        refine z1_ (i:=25) (v:=?_) rfl (by kernel_rfl) (fun _ _ _ h=>h) (by kernel_rfl) ?_ (fun _=>s2) ?_
        rotate_left
        ·(intro w9;go_simp;first|done|with_reducible rfl)
        try simp only[Act.put,zze_,zzi_,zzj_]
        refine z1_ (i:=26) (v:=?_) rfl (by kernel_rfl) (fun _ _ _ h=>h) (by kernel_rfl) ?_ (fun _=>s2) ?_
        rotate_left
        ·(intro w9;go_simp;first|done|with_reducible rfl)
        try simp only[Act.put,zze_,zzi_,zzj_]
        refine z1_ (i:=27) (v:=?_) rfl (by kernel_rfl) (fun _ _ _ h=>h) (by kernel_rfl) ?_ (fun _=>s2) ?_
        rotate_left
        ·(intro w9;go_simp;first|done|with_reducible rfl)
        try simp only[Act.put,zze_,zzi_,zzj_]
        refine z1_ (i:=28) (v:=?_) rfl (by kernel_rfl) (fun _ _ _ h=>h) (by kernel_rfl) ?_ (fun _=>s2) ?_
        rotate_left
        ·(intro w9;go_simp;first|done|with_reducible rfl)
        try simp only[Act.put,zze_,zzi_,zzj_]
        obtain⟨W,hW,hA⟩:=hv.aft2 HN.out HB2.out (zs:=#[.int .i64 0,.bool false,.bool false,.slice none 0 0,.bool false,.bool false,.bool false,.int .i64 0,.int .i64 0]) rfl (zzl_ _) HZ2.out
        refine zP_ (by kernel_rfl) (by kernel_rfl) (by decide) ?_
        simp only[List.drop_succ_cons,List.drop_zero]
        refine zk_ rfl rfl 37 _ _ rfl _ _ rfl rfl hW ?_
        clear s0 s1 s2 hW hv
        obtain⟨Kb,hKb⟩:∃Kb,wr.heap.size=Kb:=⟨_,rfl⟩
        rw[hKb]at hA
        try rw[hKb]
        have HA:=Lib.hid hA
        clear hA hKb hB3
        have hn9:=HA.out.net
        have q1:=hn9.x0'
        obtain⟨_,_,_,_,_,q2,_⟩:=hn9.st hm
        obtain⟨v0,v4,v6⟩:=sD_ HA.out.rb
        have f0:=oO_ (R p) p fr ((R p).ep+1)
        rw[f0.1]at v0
        rw[f0.2.1]at v4
        rw[f0.2.2]at v6
        have q3:W.cell? ⟨Kb,0,none⟩=some (.int .i64 ((R p).ep+1:Nat)):=(cell_of_row W Kb 0 rs 37 (0,0) HA.out.box).trans v0
        have q4:W.cell? ⟨Kb,4,none⟩=some (.bool false):=(cell_of_row W Kb 4 rs 37 (0,0) HA.out.box).trans v4
        have q6:W.cell? ⟨Kb,6,none⟩=some (.bool false):=(cell_of_row W Kb 6 rs 37 (0,0) HA.out.box).trans v6
        have d1:W.drew.cell? ⟨X,0,none⟩=some (.slice (some ⟨h2.bk,0,none⟩) N h2.bc):=q1
        have d2:W.drew.cell? ⟨h2.bk,p*9,none⟩=some (.int .i64 ((R p).ep:Nat)):=q2
        have d3:W.drew.cell? ⟨Kb,0,none⟩=some (.int .i64 ((R p).ep+1:Nat)):=q3
        have d4:W.drew.cell? ⟨Kb,4,none⟩=some (.bool false):=q4
        have d6:W.drew.cell? ⟨Kb,6,none⟩=some (.bool false):=q6
        have hbA:=HA.out.bel
        have HBA:=Lib.hid (HBX.out.trans (Below.mono1 hbA HBX.out.size))
        clear hbA hn9 v0 v4 v6 f0
        go_wp2
        go_region
        go_wp2
        go_roundg (N-(p+1))
        case measure=>have:=HPK.out;omega
        case rel=>exact⟨p+1,rfl,by have:=HPK.out;omega,HBA.out.trans ⟨rfl,rfl,rfl,zzl_ _,fun _ _=>rfl⟩⟩
   .have hpz:¬(p:Int)<(N:Int):=by omega
    clear hnr hbel hp
    go_wp2_with (go_at_call 7
                 refine(vI_ (g:=g) (fun k hk=>zzk_ (HLT2.out k hk) HBR.out.size)).mono ?_
                 rintro e w3 ⟨rfl,hb3⟩
                 have HB3:=Lib.hid (HB2.out.trans (Below.mono1 (HBR.out.trans (Below.mono1 hb3 HBR.out.size)) HB2.out.size))
                 clear hb3)
    all_goals go_wp2
    all_goals go_ret
    all_goals exact HF0.out _ HB3.out
 .go_enter Try.func5,Try.ntmps5
  go_wp2_with (first
   | (go_at_call 6
      refine H0.out.mono ?_
      rintro e w1 ⟨rfl,hb1⟩
      have hlt1:∀k,0<g.I k->k<w1.heap.size:=fun k hk=>zzk_ (hlt k hk) hb1.size
      have HB1:=Lib.hid hb1
      have HLT:=Lib.hid hlt1
      clear hb1 hlt1)
   | (go_at_call 7
      refine(vI_ HLT.out).mono ?_
      rintro e w3 ⟨rfl,hb3⟩
      have HB3:=Lib.hid (HB1.out.trans (Below.mono1 hb3 HB1.out.size))
      clear hb3))
  all_goals go_wp2
  all_goals go_ret
  all_goals exact HF0.out _ HB3.out
section
structure Rd(w:World)(g:Gh)(cs:List Value)(xs:List V):Prop where
 len:xs.length=cs.length
 rep:∀(j:Nat) (x:V) (c:Value),xs[j]?=some x->cs[j]?=some c->Rep (allG w g) w x c/\immC x=true/\c.oneCell'=true
def wM_(P:Program)(e:TypeId)(xs:List V):V:=if aggT P e=some true then .agg xs else xs.headD .no
def xz_(P:Program):Nat->TypeId->List V->Prop
 |0,_,_=>False
 | f + 1, t, xs =>
   match P.underlying t with
   |some .bool=>∃b,xs=[.s (.bool b)]
   |some (.int k)=>∃n,(Lit.int k n).wf=true/\xs=[.s (.int k n)]
   |some .string=>∃s:ByteArray,s.size<=maxLen/\xs=[.s (.string s)]
   |some (.slice e)=>∃els:List (List V),xs=[.list (P.cellsOf e) (els.map (wM_ P e))]/\els.length<=maxLen/\∀el∈els,xz_ P f e el
   |some (.struct fs)=>∃parts:List (List V),xs=parts.flatten/\parts.length=fs.size/\∀(i:Nat) (fl:Field) (p:List V),fs[i]?=some fl->parts[i]?=some p->xz_ P f fl.type p
   |_=>False
def r9_(P:Program):List Field->Nat->Bool
 |[],_=>true
 |f::r,off=>decide (f.offset=off)&&r9_ P r (off+P.cellsOf f.type)
def wf_(P:Program):List Field->Nat
 |[]=>0
 |f::r=>P.cellsOf f.type+wf_ P r
def okTy(P:Program):Nat->TypeId->Bool
 |0,_=>false
 | f + 1, t =>
   match P.underlying t with
   |some .bool|some (.int _)|some .string=>Nat.beq (P.cellsOf t) 1
   |some (.slice e)=>Nat.beq (P.cellsOf t) 1&&okTy P f e&&((match aggT P e with|some true=>true|some false=>Nat.beq (P.cellsOf e) 1|none=>false))
   |some (.struct fs)=>r9_ P fs.toList 0&&Nat.beq (wf_ P fs.toList) (P.cellsOf t)&&fs.all fun fl=>okTy P f fl.type
   |_=>false
section
variable{H:Type}{enc:TypeId×Value->H}{P:Program}{w:World}{g:Gh}{base:Nat}{sp:Nat->Bool}{held:Bool}
theorem tJ_:∀(fs:List Field) (off:Nat) (cs:List Value) (parts:List (List V)),r9_ P fs off=true->off+wf_ P fs=cs.length->parts.length=fs.length ->
 (∀(i:Nat) (fl:Field) (p:List V),fs[i]?=some fl->parts[i]?=some p->Rd w g ((cs.drop fl.offset).take (P.cellsOf fl.type)) p)->Rd w g (cs.drop off) parts.flatten
 | [], off, cs, parts, hc, hl, hp, h => by
   have:parts=[]:=List.length_eq_zero_iff.1 hp
   subst this
   simp only[wf_,Nat.add_zero]at hl
   rw[List.drop_of_length_le (by omega)]
   exact⟨rfl,fun j x c hx=>by simp at hx⟩
 |f::r,off,cs,[],hc,hl,hp,h=>by simp at hp
 | f :: r, off, cs, p :: ps, hc, hl, hp, h => by
   simp only[r9_,zzg_,zzp_]at hc
   simp only[wf_]at hl
   have h0:=h 0 f p rfl rfl
   have ih:=tJ_ r (off+P.cellsOf f.type) cs ps hc.2 (by omega) (by simpa using hp) (fun i fl q hi hq=>h (i+1) fl q (by simpa using hi) (by simpa using hq))
   rw[hc.1]at h0
   have hp0:p.length=P.cellsOf f.type:=by rw[h0.len];simp;omega
   refine⟨?_,fun j x c hx hcj=>?_⟩
   .have:=ih.len
    simp only[List.flatten_cons,zzr_,List.length_drop]at this ⊢
    omega
   .simp only[List.flatten_cons,List.getElem?_append]at hx
    split at hx
    .next hj =>
     refine h0.rep j x c hx ?_
     rw[zzu_,if_pos (by omega)]
     exact hcj
    .next hj =>
     refine ih.rep (j-p.length) x c hx ?_
     rw[zzA_]at hcj ⊢
     rw[<-hcj]
     congr 1
     omega
theorem qr_{c:Value}(h:c.oneCell'=true):Rd w g [c] [.s c]:=⟨rfl,fun j x c' hx hc=>by
 cases j with
 |zero=>simp at hx hc;subst hx hc;exact⟨.s h,rfl,h⟩
 |succ j=>simp at hx⟩
theorem w9_{α:Type}{Q:Nat->α->Prop}:∀(n:Nat),(∀i,i<n->∃a,Q i a)->∃l:List α,l.length=n/\∀(i:Nat) (a:α),l[i]?=some a->Q i a
 |0,_=>⟨[],rfl,by simp⟩
 | n + 1, h => by
   obtain⟨l,h1,h2⟩:=w9_ n (fun i hi=>h i (by omega))
   obtain⟨a,ha⟩:=h n (by omega)
   refine⟨l++[a],by simp[h1],fun i b hi=>?_⟩
   rw[List.getElem?_append]at hi
   split at hi
   .exact h2 i b hi
   ·have:i=n:=by
     have:=(zzc_.1 hi).1
     simp at this
     omega
    subst this
    rw[h1]at hi
    simp at hi
    subst hi
    exact ha
theorem um_:∀(dep:Nat) (t:TypeId),okTy P dep t=true->∀(fuel:Nat) (cs:List Value) (x:DataW H×List MemPlace),DataW.trod enc P w base sp held fuel t cs=some x->∃xs,Rd w g cs xs/\xz_ P dep t xs/\cs.length=P.cellsOf t
 |0,t,h=>by simp[okTy]at h
 | dep + 1, t, hok => fun fuel cs x h => by
   unfold okTy at hok
   unfold xz_
   cases hu:P.underlying t with
   |none=>rw[hu]at hok;simp at hok
   | some td =>
     rw[hu]at hok
     cases td with
     | bool =>
       have h1:=yyq_ hok
       obtain⟨b,rfl⟩:∃b,cs=[.bool b]:=by
        cases fuel with
        |zero=>simp[DataW.trod]at h
        | succ n =>
          unfold DataW.trod at h
          rw[hu]at h
          split at h<;>simp_all
       exact⟨[.s (.bool b)],qr_ rfl,⟨b,rfl⟩,by simp[h1]⟩
     | int k =>
       have h1:=yyq_ hok
       obtain⟨n,hn,rfl⟩:∃n,(Lit.int k n).wf=true/\cs=[.int k n]:=by
        cases fuel with
        |zero=>simp[DataW.trod]at h
        | succ n =>
          unfold DataW.trod at h
          rw[hu]at h
          split at h<;>simp_all
       exact⟨[.s (.int k n)],qr_ rfl,⟨n,hn,rfl⟩,by simp[h1]⟩
     | string =>
       have h1:=yyq_ hok
       obtain⟨s,hs,rfl⟩:∃s:ByteArray,s.size<=maxLen/\cs=[.string s]:=by
        cases fuel with
        |zero=>simp[DataW.trod]at h
        | succ n =>
          unfold DataW.trod at h
          rw[hu]at h
          split at h<;>simp_all
       exact⟨[.s (.string s)],qr_ rfl,⟨s,hs,rfl⟩,by simp[h1]⟩
     | slice e =>
       simp only[zzg_]at hok
       obtain⟨⟨h1,h2⟩,h3⟩:=hok
       have h1:=yyq_ h1
       simp only
       rcases DataW.trod_slice hu h with ⟨rfl,_⟩|⟨a,len,cap,elems,rest,n,rfl,rfl,rfl,hb,hl,hm,hel,hget,_,_⟩
       ·exact⟨[.list (P.cellsOf e) []],⟨rfl,fun j x c hx hc=>by
         cases j with
         | zero =>
           simp at hx hc
           subst hx hc
           exact⟨.list (fun _=>undef) (zzl_ _) (zzn_ _) (fun _=>rfl) (by simp) (by simp[flat]) (fun j hj=>by simp[flat]at hj) (fun j u hu=>by simp[flat]at hu),rfl,rfl⟩
         |succ j=>simp at hx⟩,⟨[],rfl,zzn_ _,by simp⟩,by simp[h1]⟩
       · -- the elements
         have hone:∀i,i<len->∃(cs':List Value) (xs:List V),w.cells? base (a.add (i*P.cellsOf e)) (P.cellsOf e)=some cs'/\Rd w g cs' xs/\xz_ P dep e xs/\cs'.length=P.cellsOf e:=by
          intro i hi
          have:=hget i hi
          rw[zzf_ (by omega)]at this
          obtain⟨cs',k1,k2⟩:=zza_.1 this
          obtain⟨xs,k3,k4,k5⟩:=um_ dep e h2 _ _ _ k2
          exact⟨cs',xs,k1,k3,k4,k5⟩
         obtain⟨els,e1,e2⟩:=w9_ (Q:=fun i xs=>∃cs':List Value,w.cells? base (a.add (i*P.cellsOf e)) (P.cellsOf e)=some cs'/\Rd w g cs' xs/\xz_ P dep e xs/\cs'.length=P.cellsOf e) len (fun i hi=>by
          obtain⟨cs',xs,q⟩:=hone i hi
          exact⟨xs,cs',q⟩)
         have hlen:∀el∈els,el.length=P.cellsOf e:=fun el hel'=>by
          obtain⟨i,hi⟩:=List.mem_iff_getElem?.1 hel'
          obtain⟨cs',q1,q2,q3,q4⟩:=e2 i el hi
          rw[q2.len,q4]
         have hcells:∀el∈els,cellsOf (wM_ P e el)=el:=fun el hel'=>by
          have hl':=hlen el hel'
          unfold wM_
          cases hag:aggT P e with
          |none=>rw[hag]at h3;cases h3
          | some b =>
            cases b with
            |true=>simp[cellsOf]
            | false =>
              rw[hag]at h3
              have h3:=yyq_ h3
              rw[h3]at hl'
              obtain⟨y,rfl⟩:=List.length_eq_one_iff.1 hl'
              obtain⟨i,hi⟩:=List.mem_iff_getElem?.1 hel'
              obtain⟨cs',q1,q2,q3,q4⟩:=e2 i [y] hi
              have hc0:∃c,cs'[0]?=some c:=⟨cs'[0]'(by omega),by simp[(by omega:0<cs'.length)]⟩
              obtain⟨c,hc⟩:=hc0
              have hi':=(q2.rep 0 y c rfl hc).2.1
              simp only[yya_,yyi_,if_false,List.headD_cons]
              cases y<;>simp[immC]at hi'<;>rfl
         have hz:∀y∈els.map (wM_ P e),(cellsOf y).length=P.cellsOf e:=fun y hy=>by
          obtain⟨el,q1,rfl⟩:=List.mem_map.1 hy
          rw[hcells el q1,hlen el q1]
         have hfl:=zd_ hz
         rw[List.length_map,e1]at hfl
         -- one cell among all
         have hat:∀j,j<len*P.cellsOf e->∃(i o:Nat) (el:List V) (u:V) (c:Value),j=i*P.cellsOf e+o/\els[i]?=some el/\el[o]?=some u/\(flat (els.map (wM_ P e)))[j]?=some u/\w.cell? (a.add j)=some c/\Rep (allG w g) w u c/\immC u=true:=by
          intro j hj
          have hz0:0<P.cellsOf e:=by
           rcases yyo_ (P.cellsOf e) with q|q
           .rw[q]at hj;omega
           .exact q
          have hi:j/P.cellsOf e<len:=(Nat.div_lt_iff_lt_mul hz0).2 hj
          have ho:j%P.cellsOf e<P.cellsOf e:=Nat.mod_lt _ hz0
          have hje:j=j/P.cellsOf e*P.cellsOf e+j%P.cellsOf e:=by rw[Nat.mul_comm];exact(Nat.div_add_mod _ _).symm
          have hel':els[j/P.cellsOf e]?=some (els[j/P.cellsOf e]'(by omega)):=zzf_ (by omega)
          generalize els[j/P.cellsOf e]'(by omega)=el at hel'
          obtain⟨cs',q1,q2,q3,q4⟩:=e2 _ el hel'
          have hm:=zzd_ hel'
          have hu:el[j%P.cellsOf e]?=some (el[j%P.cellsOf e]'(by rw[hlen el hm];exact ho)):=by simp
          generalize el[j%P.cellsOf e]'(by rw[hlen el hm];exact ho)=u at hu
          have hc:cs'[j%P.cellsOf e]?=some (cs'[j%P.cellsOf e]'(by rw[q4];exact ho)):=by simp
          generalize cs'[j%P.cellsOf e]'(by rw[q4];exact ho)=c at hc
          obtain⟨_,_,q5⟩:=World.cells?_some q1
          have q6:=q5 _ ho
          rw[Addr.add_add,<-hje,hc]at q6
          obtain⟨r1,r2,_⟩:=q2.rep _ u c hu hc
          refine⟨_,_,el,u,c,hje,hel',hu,?_,q6,r1,r2⟩
          have hx:(els.map (wM_ P e))[j/P.cellsOf e]?=some (wM_ P e el):=by rw[zzs_,hel'];rfl
          have:=xU_ hz hx ho
          rw[hcells el hm,<-hje]at this
          rw[this,hu]
         have hrd:Rep (allG w g) w (.list (P.cellsOf e) (els.map (wM_ P e))) (.slice (some a) (els.map (wM_ P e)).length cap):=by
          refine .list (fun j=>(w.cell? (a.add j)).getD undef) (by simp;omega) hm (fun q=>by cases q) hz (fun u hu=>?_) (fun j hj=>?_) (fun j u hu=>?_)
          .obtain⟨j,hj⟩:=List.mem_iff_getElem?.1 hu
           have hjl:=(zzc_.1 hj).1
           obtain⟨_,_,_,u',c,_,_,_,q4,_,_,q7⟩:=hat j (by omega)
           rw[hj]at q4
           cases q4
           exact q7
          .obtain⟨_,_,_,u',c,_,_,_,_,q5,_,_⟩:=hat j (by omega)
           have h0:∃c0,w.cell? (a.add 0)=some c0:=by
            obtain⟨_,_,_,_,c0,_,_,_,_,q,_,_⟩:=hat 0 (by omega)
            exact⟨c0,q⟩
           obtain⟨c0,h0⟩:=h0
           have ha:a=⟨a.block,a.off,none⟩:=by
            have e0:a.add 0=a:=by simp[Addr.add]
            rw[e0]at h0
            obtain⟨b,o,s⟩:=a
            cases s with
            |none=>rfl
            | some q =>
              unfold World.cell? at h0
              split at h0
              .simp at h0
              .cases h0
           have hadd:a.add j=⟨a.block,a.off+j,none⟩:=by rw[ha,zJ_]
           rw[hadd]at q5
           refine⟨a.block,a.off,congrArg some ha,pw_ q5,?_⟩
           rw[hadd,q5]
           rfl
          .have hjl:=(zzc_.1 hu).1
           obtain⟨_,_,_,u',c,_,_,_,q4,q5,q6,_⟩:=hat j (by omega)
           rw[hu]at q4
           cases q4
           rw[q5]
           exact q6
         refine⟨[.list (P.cellsOf e) (els.map (wM_ P e))],⟨rfl,fun j x c hx hc=>?_⟩,⟨els,rfl,by omega,fun el hel'=>?_⟩,by simp[h1]⟩
         .cases j with
          | zero =>
            simp only[List.getElem?_cons_zero,yya_]at hx hc
            subst hx hc
            rw[List.length_map,e1]at hrd
            exact⟨hrd,rfl,rfl⟩
          |succ j=>simp at hx
         .obtain⟨i,hi⟩:=List.mem_iff_getElem?.1 hel'
          obtain⟨_,_,_,q,_⟩:=e2 i el hi
          exact q
     | struct fs =>
       simp only[zzg_]at hok
       obtain⟨⟨h1,h2⟩,h3⟩:=hok
       have h2:=yyq_ h2
       obtain⟨xs,n,rfl,rfl,k1,k2,k3⟩:=DataW.trod_struct hu h
       have hone:∀(i:Nat) (fl:Field),fs[i]?=some fl->∃p,Rd w g ((cs.drop fl.offset).take (P.cellsOf fl.type)) p/\xz_ P dep fl.type p:=by
        intro i fl hi
        have hi':=(zzm_.1 hi).1
        have:=k3 i fl hi
        rw[zzf_ (by omega)]at this
        obtain⟨p,q1,q2,_⟩:=um_ dep fl.type (by
         rw[Array.all_eq_true]at h3
         have:=h3 i hi'
         have e:fs[i]=fl:=by simpa[hi'] using hi
         rw[e]at this
         exact this) _ _ _ this
        exact⟨p,q1,q2⟩
       have hex:∃parts:List (List V),parts.length=fs.size/\∀(i:Nat) (fl:Field) (p:List V),fs[i]?=some fl->parts[i]?=some p->Rd w g ((cs.drop fl.offset).take (P.cellsOf fl.type)) p/\xz_ P dep fl.type p:=by
        obtain⟨parts,e1,e2⟩:=w9_ (Q:=fun i p=>∀fl,fs[i]?=some fl->Rd w g ((cs.drop fl.offset).take (P.cellsOf fl.type)) p/\xz_ P dep fl.type p) fs.size (fun i hi=>by
         obtain⟨p,hp⟩:=hone i fs[i] (by simp[hi])
         refine⟨p,fun fl hfl=>?_⟩
         have:fs[i]=fl:=by simpa[hi] using hfl
         rw[<-this]
         exact hp)
        exact⟨parts,e1,fun i fl p hi hp=>e2 i p hp fl hi⟩
       obtain⟨parts,m1,m2⟩:=hex
       refine⟨parts.flatten,?_,⟨parts,rfl,m1,fun i fl p hi hp=>(m2 i fl p hi hp).2⟩,k1⟩
       have:=tJ_ (w:=w) (g:=g) fs.toList 0 cs parts h1 (by omega) (by simpa using m1) (fun i fl p hi hp=>(m2 i fl p (by simpa using hi) hp).1)
       simpa using this
     |_=>simp at hok
end
end
end Go.Proofs.Ytnbppaolinopeaa
namespace Go.Proofs.Ytnbppaolinopeaa
open Go.RowKit Go.WideShapes
def g00:Gh:=⟨fun _=>0,fun _=>0⟩
def yu_(P:Program)(dep:Nat)(t:TypeId)(x:V):Prop :=
 match P.underlying t with
 |some (.struct _)=>∃xs,x=.agg xs/\xz_ P dep t xs
 |_=>xz_ P dep t [x]
section
variable{H:Type}{enc:TypeId×Value->H}{P:Program}{w:World}{base:Nat}{sp:Nat->Bool}{held:Bool}
theorem uK_{dep b2:Nat}{t:TypeId}{v:Value}{d:DataW H}{ps:List MemPlace}(hok:okTy P dep t=true)(hval:Value.okWide P w .any b2 t v)(htr:DataW.Trod enc P w base sp held t v d ps) :
 ∃x,Rep (allG w g00) w x v/\immA x=true/\yu_ P dep t x:=by
 obtain⟨fuel,h⟩:=htr
 obtain⟨xs,h1,h2,h3⟩:=um_ (g:=g00) dep t hok _ _ _ h
 cases dep with
 |zero=>simp[okTy]at hok
 | succ dep =>
   have hone:(∀cs,v≠.agg cs)->v.cells.toList.length=1->∃x,xs=[x]/\Rep (allG w g00) w x v/\immC x=true:=by
    intro hna hl
    have hlx:xs.length=1:=by rw[h1.len,hl]
    obtain⟨x,rfl⟩:=List.length_eq_one_iff.1 hlx
    have hc:v.cells.toList[0]?=some v:=by cases v<;>first|rfl|exact absurd rfl (hna _)
    obtain⟨k1,k2,_⟩:=h1.rep 0 x v rfl hc
    exact⟨x,rfl,k1,k2⟩
   have hsc:∀td,P.underlying t=some td->(∀fs,td≠.struct fs)->(∀cs,v≠.agg cs)->∃x,Rep (allG w g00) w x v/\immA x=true/\yu_ P (dep+1) t x:=by
    intro td hu hns hna
    obtain⟨x,rfl,k1,k2⟩:=hone hna (by cases v<;>first|rfl|exact absurd rfl (hna _))
    refine⟨x,k1,by cases x<;>first|exact k2|(simp[immC]at k2),?_⟩
    unfold yu_
    rw[hu]
    cases td<;>first|exact absurd rfl (hns _)|exact h2
   cases hu:P.underlying t with
   |none=>unfold okTy at hok;rw[hu]at hok;simp at hok
   | some td =>
     cases td with
     |bool=>obtain⟨b,rfl⟩:=okWide_bool hu hval;exact hsc _ hu (by simp) (by simp)
     |int k=>obtain⟨n,rfl⟩:=okWide_int hu hval;exact hsc _ hu (by simp) (by simp)
     |string=>obtain⟨s,rfl⟩:=okWide_string hu hval;exact hsc _ hu (by simp) (by simp)
     |slice e=>obtain⟨a,l,c,rfl⟩:=okWide_slice hu hval;exact hsc _ hu (by simp) (by simp)
     | struct fs =>
       obtain⟨cs,rfl,hsz⟩:=okWide_struct hu hval
       have hcells:(Value.agg cs).cells.toList=cs.toList:=rfl
       rw[hcells]at h1
       refine⟨.agg xs,.agg (by simpa using h1.len) (fun c hc=>?_) (fun j u c hu' hc=>(h1.rep j u c hu' (by simpa using hc)).1),?_,?_⟩
       .obtain⟨j,hj⟩:=List.mem_iff_getElem?.1 hc
        have hjl:j<xs.length:=by rw[h1.len];exact(zzc_.1 hj).1
        exact(h1.rep j _ c (zzf_ hjl) hj).2.2
       .simp only[immA,zzh_]
        intro u hu'
        obtain⟨j,hj⟩:=List.mem_iff_getElem?.1 hu'
        have hjl:j<cs.toList.length:=by rw[<-h1.len];exact(zzc_.1 hj).1
        exact(h1.rep j u _ hj (zzf_ hjl)).2.1
       .unfold yu_
        rw[hu]
        exact⟨xs,rfl,h2⟩
     |_=>unfold okTy at hok;rw[hu]at hok;simp at hok
theorem qZ_{f:FuncId}{args:List V}{vals:Array Value}(hpc:PC P f args (fun r=>r=.s (.bool true)))(hl:args.length=vals.size)(hr:∀(i:Nat) (x:V) (v:Value),args[i]?=some x->vals[i]?=some v->Rep (allG w g00) w x v/\immA x=true) :
 Calls P f vals w fun e w'=>e=.returned (.bool true)/\Below w.heap.size w w':=by
 have himm:∀x∈args,immA x=true:=by
  intro x hx
  obtain⟨i,hi⟩:=List.mem_iff_getElem?.1 hx
  have hil:i<vals.size:=by rw[<-hl];exact(zzc_.1 hi).1
  exact(hr i x vals[i] hi (by simp[hil])).2
 obtain⟨hbd,hno⟩:=tR_ (g:=allG w g00) (w:=w) hl himm (fun i x v h1 h2=>(hr i x v h1 h2).1) (fun k hk=>by
  simp only[allG,g00]at hk
  split at hk
  .next hk'=>exact(zzm_.1 hk').1
  .simp at hk)
 refine(hpc _ w _ hbd).mono ?_
 rintro e w' ⟨v,r,bs',g',rfl,⟨rfl,rfl⟩,_,hb,hex⟩
 have hrep:=hb.rep (.l (.var 0)) _ v ⟨rfl,by simp[z8_,Frn,Act.tv]⟩
 cases hrep
 exact⟨rfl,hex.os,hex.tape,hex.output,hex.size,fun k hk=>(hex.same k hk (hno k)).1⟩
end
end Go.Proofs.Ytnbppaolinopeaa
namespace Go.Proofs.Ytnbppaolinopeaa
open Go.RowKit Go.Proofs
theorem qe_{dep:Nat}{el:List V}(h:xz_ Try.prog (dep+1) 3 el):∃n:Int,el=[.s (.int .i64 n)]:=by
 unfold xz_ at h
 rw[Try.underlying3]at h
 obtain⟨n,_,hn⟩:=h
 exact⟨n,by simpa using hn⟩
theorem oL_{α:Type}{dep:Nat}{t:TypeId}{f:α->V}(hf:∀el,xz_ Try.prog dep t el->∃a,wM_ Try.prog t el=f a):∀(els:List (List V)),(∀el∈els,xz_ Try.prog dep t el)->∃m:List α,els.map (wM_ Try.prog t)=m.map f
 |[],_=>⟨[],rfl⟩
 | x :: r, h => by
   obtain⟨m,hm⟩:=oL_ hf r (fun el hel=>h el (by simp[hel]))
   obtain⟨a,ha⟩:=hf x (h x (by simp))
   exact⟨a::m,by rw[List.map_cons,hm,ha];rfl⟩
theorem pE_{dep:Nat}{el:List V}(h:xz_ Try.prog (dep+2) 22 el):∃l:List Int,el=[.list 1 (iv l)]:=by
 unfold xz_ at h
 rw[Try.underlying22]at h
 obtain⟨els,hx,_,hb⟩:=h
 have e1:Try.prog.cellsOf 3=1:=by kernel_rfl
 have e2:aggT Try.prog 3=some false:=by kernel_rfl
 rw[e1]at hx
 obtain⟨m,hm⟩:=oL_ (f:=fun n:Int=>V.s (.int .i64 n)) (fun el hel=>by
  obtain⟨n,rfl⟩:=qe_ hel
  exact⟨n,by simp[wM_,e2]⟩) els hb
 rw[hm]at hx
 exact⟨m,hx⟩
theorem nh_{dep:Nat}{x:V}(h:yu_ Try.prog (dep+1) 5 x):∃n:Nat,n<256/\x=.s (.int .u8 n):=by
 unfold yu_ at h
 rw[Try.underlying5]at h
 simp only at h
 unfold xz_ at h
 rw[Try.underlying5]at h
 obtain⟨n,hn,hx⟩:=h
 have hb:0<=n/\n<=255:=by simpa[Lit.wf,IntKind.min,IntKind.max,IntKind.signed,IntKind.bits] using hn
 exact⟨n.toNat,by omega,by rw[show ((n.toNat:Nat):Int)=n by omega];simpa using hx⟩
theorem ng_{dep:Nat}{x:V}(h:yu_ Try.prog (dep+2) 22 x):∃l:List Int,x=.list 1 (iv l):=by
 unfold yu_ at h
 rw[Try.underlying22]at h
 simp only at h
 obtain⟨l,hl⟩:=pE_ h
 exact⟨l,by simpa using hl⟩
theorem ma_{dep:Nat}{x:V}(h:yu_ Try.prog (dep+1) 3 x):∃n:Int,x=.s (.int .i64 n):=by
 unfold yu_ at h
 rw[Try.underlying3]at h
 simp only at h
 obtain⟨n,hn⟩:=qe_ h
 exact⟨n,by simpa using hn⟩
end Go.Proofs.Ytnbppaolinopeaa
