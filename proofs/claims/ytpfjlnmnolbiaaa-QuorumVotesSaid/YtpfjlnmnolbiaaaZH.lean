/- Texts put behind one another: N18, J3, Z5, N19, N20, N21, R1, R2, Sh. -/
import Derived.Test.YtpfjlnmnolbiaaaZG
import Derived.Test.YtpfjlnmnolbiaaaZF
import Derived.Below
import Derived.Test.YtpfjlnmnolbiaaaZD
import Derived.ProofKit
import Derived.ChangeArms
import Derived.WideShapes
import Derived.Test.YtpfjlnmnolbiaaaZE
set_option linter.unusedVariables false
set_option linter.unusedSimpArgs false
namespace Go.Proofs.Ytpfjlnmnolbiaaa
open Go.RowKit Go.Proofs
theorem kt_{l:List Int}{k j:Nat}(hm:k<l.length)(hj:3*j≤k):3*(j+1)≤nat1 l (nat1 l (nat1 l k))∨(nat1 l (nat1 l (nat1 l k))=l.length∧3*(j+1)≤nat1 l (nat1 l (nat1 l k))+2):=by
 have e:∀m,nat1 l m=if m<l.length then m+1 else m:=fun _=>rfl
 have e1:nat1 l k=k+1:=by rw[e,if_pos hm]
 rw[e1]
 by_cases h1:k+1<l.length
 ·have e2:nat1 l (k+1)=k+2:=by rw[e,if_pos h1]
  rw[e2]
  by_cases h2:k+2<l.length
  ·rw[e,if_pos h2];omega
  ·rw[e,if_neg h2];omega
 ·have e2:nat1 l (k+1)=k+1:=by rw[e,if_neg h1]
  rw[e2,e2];omega
set_option maxHeartbeats 8000000 in
set_option maxRecDepth 100000 in
theorem mY_{g:Gh}{w:World}(hlt:∀k,0<g.I k→k<w.heap.size){l:List Int}{lv:Value}(hlv:Rep g w (.list 1 (iv l)) lv)(hl:l.length≤400)(nn:Int):Calls Try.prog 9 #[lv,.int .i64 nn] w fun e w' =>
 ∃X n Q K j B M T g' h,e=.returned (.tuple #[.pointer (some ⟨X,0,none⟩),.bool true])∧Md n Q∧Sm n Q∧j≤134∧Pl g w K X n Q l l.length j B M T g' h w':=by
 have mx:=zF_
 obtain⟨LA,LC,rfl,hlc1,hlc2,_⟩:=wi_ hlv
 have hcot:=vT_ hlt nn
 have HLV:=Lib.hid hlv
 have HC:=Lib.hid hcot
 clear hcot
 go_enter Try.func9,Try.ntmps9
 go_wp2_with ((go_at_call 27
               refine HC.out.mono ?_
               rintro e w1 ⟨n,Q,QA,QC,g1,rfl,hk⟩
               have HK:=Lib.hid hk
               clear hk))
 obtain⟨w0,hw0⟩:∃w0,w0=w1.alloc (.cells #[.int .i64 n,.slice QA Q.length QC,.slice none 0 0,.slice none 0 0] 33):=⟨_,rfl⟩
 obtain⟨X,hX⟩:∃X,X=w1.heap.size:=⟨_,rfl⟩
 rw[←hw0,←hX]
 have hXl:X<w0.heap.size:=by rw[hw0,hX];simp
 have hXb:w0.heap[X]?=some (.cells #[.int .i64 n,.slice QA Q.length QC,.slice none 0 0,.slice none 0 0] 33 (0,0)):=by rw[hw0,hX];exact heap_alloc_new w1 _
 have hB0:Below w1.heap.size w1 w0:=by rw[hw0];exact y6_ w1 _
 have hmk:Mk w0 X n (.slice QA Q.length QC) 0 w0:=by
  refine⟨.slice none 0 0,.slice none 0 0,fun _=>0,⟨rfl,rfl,rfl,zzl_ _,fun _ _ _=>rfl,fun r hr=>?_,fun q hq=>by simp[mkL]at hq,fun i j r s k hi hj h1 _=>?_,by simp[mkL],fun r _ q hq=>by simp[mkL]at hq⟩,hXb⟩
  ·simp[mkO]at hr
   rcases hr with rfl|rfl<;>exact World.ownsRow_nil ..
  ·have:=zzd_ hi
   simp[mkO]at this
   rcases this with rfl|rfl<;>simp[Value.ownBlock]at h1
 have HMK:=Lib.hid hmk
 have h01:w0.heap.size=w1.heap.size+1:=by rw[hw0];simp
 have HB:=Lib.hid (And.intro hX (And.intro hB0 h01))
 clear hmk hX hB0 hw0 hXb h01
 go_loopg [7] n (fun kx s7 wr=>∃p:Nat,s7=.int .i64 p∧p+kx=n∧Mk w0 X n (.slice QA Q.length QC) p wr)
 case atStart=>exact⟨0,rfl,by omega,HMK.out⟩
 case round =>
  obtain⟨p,rfl,hp,hI⟩:=hrel
  obtain⟨bv,mv,rk,hBs,hXc⟩:=hI.ex
  have hn9:n≤9:=HK.out.1.k1.2
  have x0:wr.cell? ⟨X,0,none⟩=some (.int .i64 n):=by simp[World.cell?,hXc]
  have x2:wr.cell? ⟨X,2,none⟩=some bv:=by simp[World.cell?,hXc]
  have x3:wr.cell? ⟨X,3,none⟩=some mv:=by simp[World.cell?,hXc]
  have HP:=Lib.hid hp
  have HBs:=Lib.hid hBs
  have HXc:=Lib.hid hXc
  clear hI hBs hXc hp
  by_cases hm:p<n
  ·have hpz:(p:Int)<(n:Int):=by omega
   go_wp2
   refine wO_ (fun wx=>wx.cell? ⟨X,0,none⟩=some (.int .i64 n)∧wx.cell? ⟨X,2,none⟩=some bv∧wx.cell? ⟨X,3,none⟩=some mv) 23 (by kernel_rfl) ?_
   have s0:wr.drew.cell? ⟨X,0,none⟩=some (.int .i64 n)∧wr.drew.cell? ⟨X,2,none⟩=some bv∧wr.drew.cell? ⟨X,3,none⟩=some mv:=⟨x0,x2,x3⟩
   have b0:=HBs.out.drew
   clear x0 x2 x3
   have x0:wr.drew.heap[X]?=some (.cells #[.int .i64 n,.slice QA Q.length QC,bv,mv] 33 (0,0)):=HXc.out
   have hSof:∀Y:World,Y.heap[X]?=some (.cells #[.int .i64 n,.slice QA Q.length QC,bv,mv] 33 (0,0))→Y.cell? ⟨X,0,none⟩=some (.int .i64 n)∧Y.cell? ⟨X,2,none⟩=some bv∧Y.cell? ⟨X,3,none⟩=some mv:=fun Y hY=>by simp[World.cell?,hY]
   have hp1:p+1≤1000:=by omega
   have hwp:IntKind.i64.wrap ((p:Int)+1)=(p:Int)+1:=by rw[IntKind.wrap_i64];omega
   generalize wr.drew=V0 at b0 x0 s0 ⊢
   refine z6_ (i:=0) (v:=?_) rfl (by decide) (by kernel_rfl) (by kernel_rfl) (by kernel_rfl) (by kernel_rfl) (by kernel_rfl) (fun _ _ _ h=>h) (by kernel_rfl) ?_ (fun _=>s0) ?_
   rotate_left
   ·(intro w9;go_simp;first|done|with_reducible rfl)
   try simp only[Act.put,zze_,zzi_,zzj_]
   refine z6_ (i:=1) (v:=?_) rfl (by decide) (by kernel_rfl) (by kernel_rfl) (by kernel_rfl) (by kernel_rfl) (by kernel_rfl) (fun _ _ _ h=>h) (by kernel_rfl) ?_ (fun _=>s0) ?_
   rotate_left
   ·(intro w9;go_simp;first|done|with_reducible rfl)
   try simp only[Act.put,zze_,zzi_,zzj_]
   refine z6_ (i:=2) (v:=?_) rfl (by decide) (by kernel_rfl) (by kernel_rfl) (by kernel_rfl) (by kernel_rfl) (by kernel_rfl) (fun _ _ _ h=>h) (by kernel_rfl) ?_ (fun _=>s0) ?_
   rotate_left
   ·(intro w9;go_simp;first|done|with_reducible rfl)
   try simp only[Act.put,zze_,zzi_,zzj_]
   refine z6_ (i:=3) (v:=?_) rfl (by decide) (by kernel_rfl) (by kernel_rfl) (by kernel_rfl) (by kernel_rfl) (by kernel_rfl) (fun _ _ _ h=>h) (by kernel_rfl) ?_ (fun _=>s0) ?_
   rotate_left
   ·(intro w9;go_simp;first|done|with_reducible rfl)
   try simp only[Act.put,zze_,zzi_,zzj_]
   refine z6_ (i:=4) (v:=?_) rfl (by decide) (by kernel_rfl) (by kernel_rfl) (by kernel_rfl) (by kernel_rfl) (by kernel_rfl) (fun _ _ _ h=>h) (by kernel_rfl) ?_ (fun _=>s0) ?_
   rotate_left
   ·(intro w9;go_simp;first|done|with_reducible rfl)
   try simp only[Act.put,zze_,zzi_,zzj_]
   refine y3_ (i:=5) (v:=?_) rfl (by decide) (by kernel_rfl) (by kernel_rfl) (by kernel_rfl) (by kernel_rfl) (by kernel_rfl) (by kernel_rfl) (fun _ _ _ h=>h) (by kernel_rfl) ?_ (fun _=>s0) ?_
   rotate_left
   ·(intro w9 hSw;(try dsimp only at hSw);go_simp;first|done|with_reducible rfl)
   try simp only[Act.put,zze_,zzi_,zzj_]
   refine z6_ (i:=9) (v:=?_) rfl (by decide) (by kernel_rfl) (by kernel_rfl) (by kernel_rfl) (by kernel_rfl) (by kernel_rfl) (fun _ _ _ h=>h) (by kernel_rfl) ?_ (fun _=>s0) ?_
   rotate_left
   ·(intro w9;go_simp;first|done|with_reducible rfl)
   try simp only[Act.put,zze_,zzi_,zzj_]
   refine z6_ (i:=10) (v:=?_) rfl (by decide) (by kernel_rfl) (by kernel_rfl) (by kernel_rfl) (by kernel_rfl) (by kernel_rfl) (fun _ _ _ h=>h) (by kernel_rfl) ?_ (fun _=>s0) ?_
   rotate_left
   ·(intro w9;go_simp;first|done|with_reducible rfl)
   try simp only[Act.put,zze_,zzi_,zzj_]
   refine z6_ (i:=11) (v:=?_) rfl (by decide) (by kernel_rfl) (by kernel_rfl) (by kernel_rfl) (by kernel_rfl) (by kernel_rfl) (fun _ _ _ h=>h) (by kernel_rfl) ?_ (fun _=>s0) ?_
   rotate_left
   ·(intro w9;go_simp;first|done|with_reducible rfl)
   try simp only[Act.put,zze_,zzi_,zzj_]
   refine y3_ (i:=12) (v:=?_) rfl (by decide) (by kernel_rfl) (by kernel_rfl) (by kernel_rfl) (by kernel_rfl) (by kernel_rfl) (by kernel_rfl) (fun _ _ _ h=>h) (by kernel_rfl) ?_ (fun _=>s0) ?_
   rotate_left
   ·(intro w9 hSw;(try dsimp only at hSw);go_simp;first|done|with_reducible rfl)
   try simp only[Act.put,zze_,zzi_,zzj_]
   refine z6_ (i:=13) (v:=?_) rfl (by decide) (by kernel_rfl) (by kernel_rfl) (by kernel_rfl) (by kernel_rfl) (by kernel_rfl) (fun _ _ _ h=>h) (by kernel_rfl) ?_ (fun _=>s0) ?_
   rotate_left
   ·(intro w9;go_simp;first|done|with_reducible rfl)
   try simp only[Act.put,zze_,zzi_,zzj_]
   refine z6_ (i:=14) (v:=?_) rfl (by decide) (by kernel_rfl) (by kernel_rfl) (by kernel_rfl) (by kernel_rfl) (by kernel_rfl) (fun _ _ _ h=>h) (by kernel_rfl) ?_ (fun _=>s0) ?_
   rotate_left
   ·(intro w9;go_simp;first|done|with_reducible rfl)
   try simp only[Act.put,zze_,zzi_,zzj_]
   refine z6_ (i:=15) (v:=?_) rfl (by decide) (by kernel_rfl) (by kernel_rfl) (by kernel_rfl) (by kernel_rfl) (by kernel_rfl) (fun _ _ _ h=>h) (by kernel_rfl) ?_ (fun _=>s0) ?_
   rotate_left
   ·(intro w9;go_simp;first|done|with_reducible rfl)
   try simp only[Act.put,zze_,zzi_,zzj_]
   refine z6_ (i:=16) (v:=?_) rfl (by decide) (by kernel_rfl) (by kernel_rfl) (by kernel_rfl) (by kernel_rfl) (by kernel_rfl) (fun _ _ _ h=>h) (by kernel_rfl) ?_ (fun _=>s0) ?_
   rotate_left
   ·(intro w9;go_simp;first|done|with_reducible rfl)
   try simp only[Act.put,zze_,zzi_,zzj_]
   refine y3_ (i:=17) (v:=?_) rfl (by decide) (by kernel_rfl) (by kernel_rfl) (by kernel_rfl) (by kernel_rfl) (by kernel_rfl) (by kernel_rfl) (fun _ _ _ h=>h) (by kernel_rfl) ?_ (fun _=>s0) ?_
   rotate_left
   ·(intro w9 hSw;(try dsimp only at hSw);go_simp;first|done|with_reducible rfl)
   try simp only[Act.put,zze_,zzi_,zzj_]
   refine z2_ (rs:=[6,18]) (by kernel_rfl) (by simp) ?_
   refine z9_ rfl (fun K hK=>?_) ?_
   ·go_simp
    go_at_call 25
    refine New_calls.mono ?_
    rintro e V1 ⟨rfl,hg⟩
    have b1:=b0.grown hg
    have x1:=(hg.block X (zzk_ hXl b0.size) (by simp)).trans x0
    clear hg
    have s1:=hSof _ x1
    refine hK.out _ _ (fun _=>s1) ?_
    clear hK K
    try simp only[Act.put,zze_,zzi_,zzj_]
    refine z2_ (rs:=[7,18]) (by kernel_rfl) (by simp) ?_
    refine z9_ rfl (fun K hK=>?_) ?_
    ·go_simp
     obtain⟨V2,kb,e,e1,b2,x2⟩:=b1.al39 x1 hXl
     rw[e,e1]
     clear e e1
     have s2:=hSof _ x2
     refine hK.out _ _ (fun _=>s2) ?_
     clear hK K
     try simp only[Act.put,zze_,zzi_,zzj_]
     refine z2_ (rs:=[8,18]) (by kernel_rfl) (by simp) ?_
     refine z9_ rfl (fun K hK=>?_) ?_
     ·obtain⟨gb,cb,V3,e,b3,x3⟩:=b2.ap39 x2 hXl rfl (k:=kb) (by simp) hp1
      refine ze_ rfl _ _ 30 30 rfl _ _ rfl rfl e ?_
      clear e
      have s3:=hSof _ x3
      refine hK.out _ _ (fun _=>s3) ?_
      clear hK K
      try simp only[Act.put,zze_,zzi_,zzj_]
      refine z2_ (rs:=[18]) (by kernel_rfl) (by simp) ?_
      refine z9_ rfl (fun K hK=>?_) ?_
      ·refine v7_ rfl (by go_simp;rw[v8_ hn9];rfl) ?_
       obtain⟨V4,kr,e,e1,b4,x4⟩:=b3.al41 x3 hXl n
       rw[e,e1]
       clear e e1
       have s4:=hSof _ x4
       refine hK.out _ _ (fun _=>s4) ?_
       clear hK K
       try simp only[Act.put,zze_,zzi_,zzj_]
       refine z2_ (rs:=[19]) (by kernel_rfl) (by simp) ?_
       refine z9_ rfl (fun K hK=>?_) ?_
       ·go_simp
        obtain⟨V5,ks,e,e1,b5,x5⟩:=b4.al42 x4 hXl kr n
        rw[e,e1]
        clear e e1
        have s5:=hSof _ x5
        refine hK.out _ _ (fun _=>s5) ?_
        clear hK K
        try simp only[Act.put,zze_,zzi_,zzj_]
        refine z2_ (rs:=[20]) (by kernel_rfl) (by simp) ?_
        refine z9_ rfl (fun K hK=>?_) ?_
        ·obtain⟨gm,cm,V6,e,b6,x6⟩:=b5.ap42 x5 hXl rfl (k:=ks) (kr:=kr) (n:=n) (by simp) hp1
         refine ze_ rfl _ _ 31 31 rfl _ _ rfl rfl e ?_
         clear e
         have s6:=hSof _ x6
         refine hK.out _ _ (fun _=>s6) ?_
         clear hK K
         try simp only[Act.put,zze_,zzi_,zzj_]
         refine z6_ (i:=21) (v:=?_) rfl (by decide) (by kernel_rfl) (by kernel_rfl) (by kernel_rfl) (by kernel_rfl) (by kernel_rfl) (fun _ _ _ h=>h) (by kernel_rfl) ?_ (fun _=>s6) ?_
         rotate_left
         ·(intro w9;go_simp;first|done|with_reducible rfl)
         try simp only[Act.put,zze_,zzi_,zzj_]
         refine z6_ (i:=22) (v:=?_) rfl (by decide) (by kernel_rfl) (by kernel_rfl) (by kernel_rfl) (by kernel_rfl) (by kernel_rfl) (fun _ _ _ h=>h) (by kernel_rfl) ?_ (fun _=>s6) ?_
         rotate_left
         ·(intro w9;go_simp;first|done|with_reducible rfl)
         try simp only[Act.put,zze_,zzi_,zzj_]
         refine yR_ (by kernel_rfl) (by kernel_rfl) (by decide) ?_
         simp only[List.drop_succ_cons,List.drop_zero]
         obtain⟨V7,V8,⟨q2,f2⟩,e7,⟨q3,f3⟩,e8,hm8⟩:=b6.st hXl x6 rfl ⟨_,by rw[zzq_,zzq_],by simp⟩
         have HM1:=Lib.hid hm8
         clear b0 b1 b2 b3 b4 b5 b6 x0 x1 x2 x3 x4 x5 x6 s0 s1 s2 s3 s4 s5 s6 hm8
         go_wp2
         go_roundg (gk-1)
         case measure=>have:=HP.out;omega
         case rel=>exact⟨p+1,rfl,by have:=HP.out;omega,HM1.out⟩
        exact AllG.nil
       exact AllG.nil
      exact AllG.nil
     refine z9_ rfl (fun K hK=>?_) ?_
     ·refine v7_ rfl (by go_simp;rw[v8_ hn9];rfl) ?_
      obtain⟨V3,kr,e,e1,b3,x3⟩:=b2.al41 x2 hXl n
      rw[e,e1]
      clear e e1
      have s3:=hSof _ x3
      refine hK.out _ _ (fun _=>s3) ?_
      clear hK K
      try simp only[Act.put,zze_,zzi_,zzj_]
      refine z2_ (rs:=[8,19]) (by kernel_rfl) (by simp) ?_
      refine z9_ rfl (fun K hK=>?_) ?_
      ·obtain⟨gb,cb,V4,e,b4,x4⟩:=b3.ap39 x3 hXl rfl (k:=kb) (by simp) hp1
       refine ze_ rfl _ _ 30 30 rfl _ _ rfl rfl e ?_
       clear e
       have s4:=hSof _ x4
       refine hK.out _ _ (fun _=>s4) ?_
       clear hK K
       try simp only[Act.put,zze_,zzi_,zzj_]
       refine z2_ (rs:=[19]) (by kernel_rfl) (by simp) ?_
       refine z9_ rfl (fun K hK=>?_) ?_
       ·go_simp
        obtain⟨V5,ks,e,e1,b5,x5⟩:=b4.al42 x4 hXl kr n
        rw[e,e1]
        clear e e1
        have s5:=hSof _ x5
        refine hK.out _ _ (fun _=>s5) ?_
        clear hK K
        try simp only[Act.put,zze_,zzi_,zzj_]
        refine z2_ (rs:=[20]) (by kernel_rfl) (by simp) ?_
        refine z9_ rfl (fun K hK=>?_) ?_
        ·obtain⟨gm,cm,V6,e,b6,x6⟩:=b5.ap42 x5 hXl rfl (k:=ks) (kr:=kr) (n:=n) (by simp) hp1
         refine ze_ rfl _ _ 31 31 rfl _ _ rfl rfl e ?_
         clear e
         have s6:=hSof _ x6
         refine hK.out _ _ (fun _=>s6) ?_
         clear hK K
         try simp only[Act.put,zze_,zzi_,zzj_]
         refine z6_ (i:=21) (v:=?_) rfl (by decide) (by kernel_rfl) (by kernel_rfl) (by kernel_rfl) (by kernel_rfl) (by kernel_rfl) (fun _ _ _ h=>h) (by kernel_rfl) ?_ (fun _=>s6) ?_
         rotate_left
         ·(intro w9;go_simp;first|done|with_reducible rfl)
         try simp only[Act.put,zze_,zzi_,zzj_]
         refine z6_ (i:=22) (v:=?_) rfl (by decide) (by kernel_rfl) (by kernel_rfl) (by kernel_rfl) (by kernel_rfl) (by kernel_rfl) (fun _ _ _ h=>h) (by kernel_rfl) ?_ (fun _=>s6) ?_
         rotate_left
         ·(intro w9;go_simp;first|done|with_reducible rfl)
         try simp only[Act.put,zze_,zzi_,zzj_]
         refine yR_ (by kernel_rfl) (by kernel_rfl) (by decide) ?_
         simp only[List.drop_succ_cons,List.drop_zero]
         obtain⟨V7,V8,⟨q2,f2⟩,e7,⟨q3,f3⟩,e8,hm8⟩:=b6.st hXl x6 rfl ⟨_,by rw[zzq_,zzq_],by simp⟩
         have HM1:=Lib.hid hm8
         clear b0 b1 b2 b3 b4 b5 b6 x0 x1 x2 x3 x4 x5 x6 s0 s1 s2 s3 s4 s5 s6 hm8
         go_wp2
         go_roundg (gk-1)
         case measure=>have:=HP.out;omega
         case rel=>exact⟨p+1,rfl,by have:=HP.out;omega,HM1.out⟩
        exact AllG.nil
       exact AllG.nil
      refine z9_ rfl (fun K hK=>?_) ?_
      ·go_simp
       obtain⟨V4,ks,e,e1,b4,x4⟩:=b3.al42 x3 hXl kr n
       rw[e,e1]
       clear e e1
       have s4:=hSof _ x4
       refine hK.out _ _ (fun _=>s4) ?_
       clear hK K
       try simp only[Act.put,zze_,zzi_,zzj_]
       refine z2_ (rs:=[8]) (by kernel_rfl) (by simp) ?_
       refine z9_ rfl (fun K hK=>?_) ?_
       ·obtain⟨gb,cb,V5,e,b5,x5⟩:=b4.ap39 x4 hXl rfl (k:=kb) (by simp) hp1
        refine ze_ rfl _ _ 30 30 rfl _ _ rfl rfl e ?_
        clear e
        have s5:=hSof _ x5
        refine hK.out _ _ (fun _=>s5) ?_
        clear hK K
        try simp only[Act.put,zze_,zzi_,zzj_]
        refine z2_ (rs:=[20]) (by kernel_rfl) (by simp) ?_
        refine z9_ rfl (fun K hK=>?_) ?_
        ·obtain⟨gm,cm,V6,e,b6,x6⟩:=b5.ap42 x5 hXl rfl (k:=ks) (kr:=kr) (n:=n) (by simp) hp1
         refine ze_ rfl _ _ 31 31 rfl _ _ rfl rfl e ?_
         clear e
         have s6:=hSof _ x6
         refine hK.out _ _ (fun _=>s6) ?_
         clear hK K
         try simp only[Act.put,zze_,zzi_,zzj_]
         refine z6_ (i:=21) (v:=?_) rfl (by decide) (by kernel_rfl) (by kernel_rfl) (by kernel_rfl) (by kernel_rfl) (by kernel_rfl) (fun _ _ _ h=>h) (by kernel_rfl) ?_ (fun _=>s6) ?_
         rotate_left
         ·(intro w9;go_simp;first|done|with_reducible rfl)
         try simp only[Act.put,zze_,zzi_,zzj_]
         refine z6_ (i:=22) (v:=?_) rfl (by decide) (by kernel_rfl) (by kernel_rfl) (by kernel_rfl) (by kernel_rfl) (by kernel_rfl) (fun _ _ _ h=>h) (by kernel_rfl) ?_ (fun _=>s6) ?_
         rotate_left
         ·(intro w9;go_simp;first|done|with_reducible rfl)
         try simp only[Act.put,zze_,zzi_,zzj_]
         refine yR_ (by kernel_rfl) (by kernel_rfl) (by decide) ?_
         simp only[List.drop_succ_cons,List.drop_zero]
         obtain⟨V7,V8,⟨q2,f2⟩,e7,⟨q3,f3⟩,e8,hm8⟩:=b6.st hXl x6 rfl ⟨_,by rw[zzq_,zzq_],by simp⟩
         have HM1:=Lib.hid hm8
         clear b0 b1 b2 b3 b4 b5 b6 x0 x1 x2 x3 x4 x5 x6 s0 s1 s2 s3 s4 s5 s6 hm8
         go_wp2
         go_roundg (gk-1)
         case measure=>have:=HP.out;omega
         case rel=>exact⟨p+1,rfl,by have:=HP.out;omega,HM1.out⟩
        exact AllG.nil
       exact AllG.nil
      exact AllG.nil
     exact AllG.nil
    refine z9_ rfl (fun K hK=>?_) ?_
    ·refine v7_ rfl (by go_simp;rw[v8_ hn9];rfl) ?_
     obtain⟨V2,kr,e,e1,b2,x2⟩:=b1.al41 x1 hXl n
     rw[e,e1]
     clear e e1
     have s2:=hSof _ x2
     refine hK.out _ _ (fun _=>s2) ?_
     clear hK K
     try simp only[Act.put,zze_,zzi_,zzj_]
     refine z2_ (rs:=[7,19]) (by kernel_rfl) (by simp) ?_
     refine z9_ rfl (fun K hK=>?_) ?_
     ·go_simp
      obtain⟨V3,kb,e,e1,b3,x3⟩:=b2.al39 x2 hXl
      rw[e,e1]
      clear e e1
      have s3:=hSof _ x3
      refine hK.out _ _ (fun _=>s3) ?_
      clear hK K
      try simp only[Act.put,zze_,zzi_,zzj_]
      refine z2_ (rs:=[8,19]) (by kernel_rfl) (by simp) ?_
      refine z9_ rfl (fun K hK=>?_) ?_
      ·obtain⟨gb,cb,V4,e,b4,x4⟩:=b3.ap39 x3 hXl rfl (k:=kb) (by simp) hp1
       refine ze_ rfl _ _ 30 30 rfl _ _ rfl rfl e ?_
       clear e
       have s4:=hSof _ x4
       refine hK.out _ _ (fun _=>s4) ?_
       clear hK K
       try simp only[Act.put,zze_,zzi_,zzj_]
       refine z2_ (rs:=[19]) (by kernel_rfl) (by simp) ?_
       refine z9_ rfl (fun K hK=>?_) ?_
       ·go_simp
        obtain⟨V5,ks,e,e1,b5,x5⟩:=b4.al42 x4 hXl kr n
        rw[e,e1]
        clear e e1
        have s5:=hSof _ x5
        refine hK.out _ _ (fun _=>s5) ?_
        clear hK K
        try simp only[Act.put,zze_,zzi_,zzj_]
        refine z2_ (rs:=[20]) (by kernel_rfl) (by simp) ?_
        refine z9_ rfl (fun K hK=>?_) ?_
        ·obtain⟨gm,cm,V6,e,b6,x6⟩:=b5.ap42 x5 hXl rfl (k:=ks) (kr:=kr) (n:=n) (by simp) hp1
         refine ze_ rfl _ _ 31 31 rfl _ _ rfl rfl e ?_
         clear e
         have s6:=hSof _ x6
         refine hK.out _ _ (fun _=>s6) ?_
         clear hK K
         try simp only[Act.put,zze_,zzi_,zzj_]
         refine z6_ (i:=21) (v:=?_) rfl (by decide) (by kernel_rfl) (by kernel_rfl) (by kernel_rfl) (by kernel_rfl) (by kernel_rfl) (fun _ _ _ h=>h) (by kernel_rfl) ?_ (fun _=>s6) ?_
         rotate_left
         ·(intro w9;go_simp;first|done|with_reducible rfl)
         try simp only[Act.put,zze_,zzi_,zzj_]
         refine z6_ (i:=22) (v:=?_) rfl (by decide) (by kernel_rfl) (by kernel_rfl) (by kernel_rfl) (by kernel_rfl) (by kernel_rfl) (fun _ _ _ h=>h) (by kernel_rfl) ?_ (fun _=>s6) ?_
         rotate_left
         ·(intro w9;go_simp;first|done|with_reducible rfl)
         try simp only[Act.put,zze_,zzi_,zzj_]
         refine yR_ (by kernel_rfl) (by kernel_rfl) (by decide) ?_
         simp only[List.drop_succ_cons,List.drop_zero]
         obtain⟨V7,V8,⟨q2,f2⟩,e7,⟨q3,f3⟩,e8,hm8⟩:=b6.st hXl x6 rfl ⟨_,by rw[zzq_,zzq_],by simp⟩
         have HM1:=Lib.hid hm8
         clear b0 b1 b2 b3 b4 b5 b6 x0 x1 x2 x3 x4 x5 x6 s0 s1 s2 s3 s4 s5 s6 hm8
         go_wp2
         go_roundg (gk-1)
         case measure=>have:=HP.out;omega
         case rel=>exact⟨p+1,rfl,by have:=HP.out;omega,HM1.out⟩
        exact AllG.nil
       exact AllG.nil
      refine z9_ rfl (fun K hK=>?_) ?_
      ·go_simp
       obtain⟨V4,ks,e,e1,b4,x4⟩:=b3.al42 x3 hXl kr n
       rw[e,e1]
       clear e e1
       have s4:=hSof _ x4
       refine hK.out _ _ (fun _=>s4) ?_
       clear hK K
       try simp only[Act.put,zze_,zzi_,zzj_]
       refine z2_ (rs:=[8]) (by kernel_rfl) (by simp) ?_
       refine z9_ rfl (fun K hK=>?_) ?_
       ·obtain⟨gb,cb,V5,e,b5,x5⟩:=b4.ap39 x4 hXl rfl (k:=kb) (by simp) hp1
        refine ze_ rfl _ _ 30 30 rfl _ _ rfl rfl e ?_
        clear e
        have s5:=hSof _ x5
        refine hK.out _ _ (fun _=>s5) ?_
        clear hK K
        try simp only[Act.put,zze_,zzi_,zzj_]
        refine z2_ (rs:=[20]) (by kernel_rfl) (by simp) ?_
        refine z9_ rfl (fun K hK=>?_) ?_
        ·obtain⟨gm,cm,V6,e,b6,x6⟩:=b5.ap42 x5 hXl rfl (k:=ks) (kr:=kr) (n:=n) (by simp) hp1
         refine ze_ rfl _ _ 31 31 rfl _ _ rfl rfl e ?_
         clear e
         have s6:=hSof _ x6
         refine hK.out _ _ (fun _=>s6) ?_
         clear hK K
         try simp only[Act.put,zze_,zzi_,zzj_]
         refine z6_ (i:=21) (v:=?_) rfl (by decide) (by kernel_rfl) (by kernel_rfl) (by kernel_rfl) (by kernel_rfl) (by kernel_rfl) (fun _ _ _ h=>h) (by kernel_rfl) ?_ (fun _=>s6) ?_
         rotate_left
         ·(intro w9;go_simp;first|done|with_reducible rfl)
         try simp only[Act.put,zze_,zzi_,zzj_]
         refine z6_ (i:=22) (v:=?_) rfl (by decide) (by kernel_rfl) (by kernel_rfl) (by kernel_rfl) (by kernel_rfl) (by kernel_rfl) (fun _ _ _ h=>h) (by kernel_rfl) ?_ (fun _=>s6) ?_
         rotate_left
         ·(intro w9;go_simp;first|done|with_reducible rfl)
         try simp only[Act.put,zze_,zzi_,zzj_]
         refine yR_ (by kernel_rfl) (by kernel_rfl) (by decide) ?_
         simp only[List.drop_succ_cons,List.drop_zero]
         obtain⟨V7,V8,⟨q2,f2⟩,e7,⟨q3,f3⟩,e8,hm8⟩:=b6.st hXl x6 rfl ⟨_,by rw[zzq_,zzq_],by simp⟩
         have HM1:=Lib.hid hm8
         clear b0 b1 b2 b3 b4 b5 b6 x0 x1 x2 x3 x4 x5 x6 s0 s1 s2 s3 s4 s5 s6 hm8
         go_wp2
         go_roundg (gk-1)
         case measure=>have:=HP.out;omega
         case rel=>exact⟨p+1,rfl,by have:=HP.out;omega,HM1.out⟩
        exact AllG.nil
       exact AllG.nil
      exact AllG.nil
     refine z9_ rfl (fun K hK=>?_) ?_
     ·go_simp
      obtain⟨V3,ks,e,e1,b3,x3⟩:=b2.al42 x2 hXl kr n
      rw[e,e1]
      clear e e1
      have s3:=hSof _ x3
      refine hK.out _ _ (fun _=>s3) ?_
      clear hK K
      try simp only[Act.put,zze_,zzi_,zzj_]
      refine z2_ (rs:=[7]) (by kernel_rfl) (by simp) ?_
      refine z9_ rfl (fun K hK=>?_) ?_
      ·go_simp
       obtain⟨V4,kb,e,e1,b4,x4⟩:=b3.al39 x3 hXl
       rw[e,e1]
       clear e e1
       have s4:=hSof _ x4
       refine hK.out _ _ (fun _=>s4) ?_
       clear hK K
       try simp only[Act.put,zze_,zzi_,zzj_]
       refine z2_ (rs:=[8]) (by kernel_rfl) (by simp) ?_
       refine z9_ rfl (fun K hK=>?_) ?_
       ·obtain⟨gb,cb,V5,e,b5,x5⟩:=b4.ap39 x4 hXl rfl (k:=kb) (by simp) hp1
        refine ze_ rfl _ _ 30 30 rfl _ _ rfl rfl e ?_
        clear e
        have s5:=hSof _ x5
        refine hK.out _ _ (fun _=>s5) ?_
        clear hK K
        try simp only[Act.put,zze_,zzi_,zzj_]
        refine z2_ (rs:=[20]) (by kernel_rfl) (by simp) ?_
        refine z9_ rfl (fun K hK=>?_) ?_
        ·obtain⟨gm,cm,V6,e,b6,x6⟩:=b5.ap42 x5 hXl rfl (k:=ks) (kr:=kr) (n:=n) (by simp) hp1
         refine ze_ rfl _ _ 31 31 rfl _ _ rfl rfl e ?_
         clear e
         have s6:=hSof _ x6
         refine hK.out _ _ (fun _=>s6) ?_
         clear hK K
         try simp only[Act.put,zze_,zzi_,zzj_]
         refine z6_ (i:=21) (v:=?_) rfl (by decide) (by kernel_rfl) (by kernel_rfl) (by kernel_rfl) (by kernel_rfl) (by kernel_rfl) (fun _ _ _ h=>h) (by kernel_rfl) ?_ (fun _=>s6) ?_
         rotate_left
         ·(intro w9;go_simp;first|done|with_reducible rfl)
         try simp only[Act.put,zze_,zzi_,zzj_]
         refine z6_ (i:=22) (v:=?_) rfl (by decide) (by kernel_rfl) (by kernel_rfl) (by kernel_rfl) (by kernel_rfl) (by kernel_rfl) (fun _ _ _ h=>h) (by kernel_rfl) ?_ (fun _=>s6) ?_
         rotate_left
         ·(intro w9;go_simp;first|done|with_reducible rfl)
         try simp only[Act.put,zze_,zzi_,zzj_]
         refine yR_ (by kernel_rfl) (by kernel_rfl) (by decide) ?_
         simp only[List.drop_succ_cons,List.drop_zero]
         obtain⟨V7,V8,⟨q2,f2⟩,e7,⟨q3,f3⟩,e8,hm8⟩:=b6.st hXl x6 rfl ⟨_,by rw[zzq_,zzq_],by simp⟩
         have HM1:=Lib.hid hm8
         clear b0 b1 b2 b3 b4 b5 b6 x0 x1 x2 x3 x4 x5 x6 s0 s1 s2 s3 s4 s5 s6 hm8
         go_wp2
         go_roundg (gk-1)
         case measure=>have:=HP.out;omega
         case rel=>exact⟨p+1,rfl,by have:=HP.out;omega,HM1.out⟩
        exact AllG.nil
       exact AllG.nil
      exact AllG.nil
     exact AllG.nil
    exact AllG.nil
   refine z9_ rfl (fun K hK=>?_) ?_
   ·refine v7_ rfl (by go_simp;rw[v8_ hn9];rfl) ?_
    obtain⟨V1,kr,e,e1,b1,x1⟩:=b0.al41 x0 hXl n
    rw[e,e1]
    clear e e1
    have s1:=hSof _ x1
    refine hK.out _ _ (fun _=>s1) ?_
    clear hK K
    try simp only[Act.put,zze_,zzi_,zzj_]
    refine z2_ (rs:=[6,19]) (by kernel_rfl) (by simp) ?_
    refine z9_ rfl (fun K hK=>?_) ?_
    ·go_simp
     go_at_call 25
     refine New_calls.mono ?_
     rintro e V2 ⟨rfl,hg⟩
     have b2:=b1.grown hg
     have x2:=(hg.block X (zzk_ hXl b1.size) (by simp)).trans x1
     clear hg
     have s2:=hSof _ x2
     refine hK.out _ _ (fun _=>s2) ?_
     clear hK K
     try simp only[Act.put,zze_,zzi_,zzj_]
     refine z2_ (rs:=[7,19]) (by kernel_rfl) (by simp) ?_
     refine z9_ rfl (fun K hK=>?_) ?_
     ·go_simp
      obtain⟨V3,kb,e,e1,b3,x3⟩:=b2.al39 x2 hXl
      rw[e,e1]
      clear e e1
      have s3:=hSof _ x3
      refine hK.out _ _ (fun _=>s3) ?_
      clear hK K
      try simp only[Act.put,zze_,zzi_,zzj_]
      refine z2_ (rs:=[8,19]) (by kernel_rfl) (by simp) ?_
      refine z9_ rfl (fun K hK=>?_) ?_
      ·obtain⟨gb,cb,V4,e,b4,x4⟩:=b3.ap39 x3 hXl rfl (k:=kb) (by simp) hp1
       refine ze_ rfl _ _ 30 30 rfl _ _ rfl rfl e ?_
       clear e
       have s4:=hSof _ x4
       refine hK.out _ _ (fun _=>s4) ?_
       clear hK K
       try simp only[Act.put,zze_,zzi_,zzj_]
       refine z2_ (rs:=[19]) (by kernel_rfl) (by simp) ?_
       refine z9_ rfl (fun K hK=>?_) ?_
       ·go_simp
        obtain⟨V5,ks,e,e1,b5,x5⟩:=b4.al42 x4 hXl kr n
        rw[e,e1]
        clear e e1
        have s5:=hSof _ x5
        refine hK.out _ _ (fun _=>s5) ?_
        clear hK K
        try simp only[Act.put,zze_,zzi_,zzj_]
        refine z2_ (rs:=[20]) (by kernel_rfl) (by simp) ?_
        refine z9_ rfl (fun K hK=>?_) ?_
        ·obtain⟨gm,cm,V6,e,b6,x6⟩:=b5.ap42 x5 hXl rfl (k:=ks) (kr:=kr) (n:=n) (by simp) hp1
         refine ze_ rfl _ _ 31 31 rfl _ _ rfl rfl e ?_
         clear e
         have s6:=hSof _ x6
         refine hK.out _ _ (fun _=>s6) ?_
         clear hK K
         try simp only[Act.put,zze_,zzi_,zzj_]
         refine z6_ (i:=21) (v:=?_) rfl (by decide) (by kernel_rfl) (by kernel_rfl) (by kernel_rfl) (by kernel_rfl) (by kernel_rfl) (fun _ _ _ h=>h) (by kernel_rfl) ?_ (fun _=>s6) ?_
         rotate_left
         ·(intro w9;go_simp;first|done|with_reducible rfl)
         try simp only[Act.put,zze_,zzi_,zzj_]
         refine z6_ (i:=22) (v:=?_) rfl (by decide) (by kernel_rfl) (by kernel_rfl) (by kernel_rfl) (by kernel_rfl) (by kernel_rfl) (fun _ _ _ h=>h) (by kernel_rfl) ?_ (fun _=>s6) ?_
         rotate_left
         ·(intro w9;go_simp;first|done|with_reducible rfl)
         try simp only[Act.put,zze_,zzi_,zzj_]
         refine yR_ (by kernel_rfl) (by kernel_rfl) (by decide) ?_
         simp only[List.drop_succ_cons,List.drop_zero]
         obtain⟨V7,V8,⟨q2,f2⟩,e7,⟨q3,f3⟩,e8,hm8⟩:=b6.st hXl x6 rfl ⟨_,by rw[zzq_,zzq_],by simp⟩
         have HM1:=Lib.hid hm8
         clear b0 b1 b2 b3 b4 b5 b6 x0 x1 x2 x3 x4 x5 x6 s0 s1 s2 s3 s4 s5 s6 hm8
         go_wp2
         go_roundg (gk-1)
         case measure=>have:=HP.out;omega
         case rel=>exact⟨p+1,rfl,by have:=HP.out;omega,HM1.out⟩
        exact AllG.nil
       exact AllG.nil
      refine z9_ rfl (fun K hK=>?_) ?_
      ·go_simp
       obtain⟨V4,ks,e,e1,b4,x4⟩:=b3.al42 x3 hXl kr n
       rw[e,e1]
       clear e e1
       have s4:=hSof _ x4
       refine hK.out _ _ (fun _=>s4) ?_
       clear hK K
       try simp only[Act.put,zze_,zzi_,zzj_]
       refine z2_ (rs:=[8]) (by kernel_rfl) (by simp) ?_
       refine z9_ rfl (fun K hK=>?_) ?_
       ·obtain⟨gb,cb,V5,e,b5,x5⟩:=b4.ap39 x4 hXl rfl (k:=kb) (by simp) hp1
        refine ze_ rfl _ _ 30 30 rfl _ _ rfl rfl e ?_
        clear e
        have s5:=hSof _ x5
        refine hK.out _ _ (fun _=>s5) ?_
        clear hK K
        try simp only[Act.put,zze_,zzi_,zzj_]
        refine z2_ (rs:=[20]) (by kernel_rfl) (by simp) ?_
        refine z9_ rfl (fun K hK=>?_) ?_
        ·obtain⟨gm,cm,V6,e,b6,x6⟩:=b5.ap42 x5 hXl rfl (k:=ks) (kr:=kr) (n:=n) (by simp) hp1
         refine ze_ rfl _ _ 31 31 rfl _ _ rfl rfl e ?_
         clear e
         have s6:=hSof _ x6
         refine hK.out _ _ (fun _=>s6) ?_
         clear hK K
         try simp only[Act.put,zze_,zzi_,zzj_]
         refine z6_ (i:=21) (v:=?_) rfl (by decide) (by kernel_rfl) (by kernel_rfl) (by kernel_rfl) (by kernel_rfl) (by kernel_rfl) (fun _ _ _ h=>h) (by kernel_rfl) ?_ (fun _=>s6) ?_
         rotate_left
         ·(intro w9;go_simp;first|done|with_reducible rfl)
         try simp only[Act.put,zze_,zzi_,zzj_]
         refine z6_ (i:=22) (v:=?_) rfl (by decide) (by kernel_rfl) (by kernel_rfl) (by kernel_rfl) (by kernel_rfl) (by kernel_rfl) (fun _ _ _ h=>h) (by kernel_rfl) ?_ (fun _=>s6) ?_
         rotate_left
         ·(intro w9;go_simp;first|done|with_reducible rfl)
         try simp only[Act.put,zze_,zzi_,zzj_]
         refine yR_ (by kernel_rfl) (by kernel_rfl) (by decide) ?_
         simp only[List.drop_succ_cons,List.drop_zero]
         obtain⟨V7,V8,⟨q2,f2⟩,e7,⟨q3,f3⟩,e8,hm8⟩:=b6.st hXl x6 rfl ⟨_,by rw[zzq_,zzq_],by simp⟩
         have HM1:=Lib.hid hm8
         clear b0 b1 b2 b3 b4 b5 b6 x0 x1 x2 x3 x4 x5 x6 s0 s1 s2 s3 s4 s5 s6 hm8
         go_wp2
         go_roundg (gk-1)
         case measure=>have:=HP.out;omega
         case rel=>exact⟨p+1,rfl,by have:=HP.out;omega,HM1.out⟩
        exact AllG.nil
       exact AllG.nil
      exact AllG.nil
     refine z9_ rfl (fun K hK=>?_) ?_
     ·go_simp
      obtain⟨V3,ks,e,e1,b3,x3⟩:=b2.al42 x2 hXl kr n
      rw[e,e1]
      clear e e1
      have s3:=hSof _ x3
      refine hK.out _ _ (fun _=>s3) ?_
      clear hK K
      try simp only[Act.put,zze_,zzi_,zzj_]
      refine z2_ (rs:=[7]) (by kernel_rfl) (by simp) ?_
      refine z9_ rfl (fun K hK=>?_) ?_
      ·go_simp
       obtain⟨V4,kb,e,e1,b4,x4⟩:=b3.al39 x3 hXl
       rw[e,e1]
       clear e e1
       have s4:=hSof _ x4
       refine hK.out _ _ (fun _=>s4) ?_
       clear hK K
       try simp only[Act.put,zze_,zzi_,zzj_]
       refine z2_ (rs:=[8]) (by kernel_rfl) (by simp) ?_
       refine z9_ rfl (fun K hK=>?_) ?_
       ·obtain⟨gb,cb,V5,e,b5,x5⟩:=b4.ap39 x4 hXl rfl (k:=kb) (by simp) hp1
        refine ze_ rfl _ _ 30 30 rfl _ _ rfl rfl e ?_
        clear e
        have s5:=hSof _ x5
        refine hK.out _ _ (fun _=>s5) ?_
        clear hK K
        try simp only[Act.put,zze_,zzi_,zzj_]
        refine z2_ (rs:=[20]) (by kernel_rfl) (by simp) ?_
        refine z9_ rfl (fun K hK=>?_) ?_
        ·obtain⟨gm,cm,V6,e,b6,x6⟩:=b5.ap42 x5 hXl rfl (k:=ks) (kr:=kr) (n:=n) (by simp) hp1
         refine ze_ rfl _ _ 31 31 rfl _ _ rfl rfl e ?_
         clear e
         have s6:=hSof _ x6
         refine hK.out _ _ (fun _=>s6) ?_
         clear hK K
         try simp only[Act.put,zze_,zzi_,zzj_]
         refine z6_ (i:=21) (v:=?_) rfl (by decide) (by kernel_rfl) (by kernel_rfl) (by kernel_rfl) (by kernel_rfl) (by kernel_rfl) (fun _ _ _ h=>h) (by kernel_rfl) ?_ (fun _=>s6) ?_
         rotate_left
         ·(intro w9;go_simp;first|done|with_reducible rfl)
         try simp only[Act.put,zze_,zzi_,zzj_]
         refine z6_ (i:=22) (v:=?_) rfl (by decide) (by kernel_rfl) (by kernel_rfl) (by kernel_rfl) (by kernel_rfl) (by kernel_rfl) (fun _ _ _ h=>h) (by kernel_rfl) ?_ (fun _=>s6) ?_
         rotate_left
         ·(intro w9;go_simp;first|done|with_reducible rfl)
         try simp only[Act.put,zze_,zzi_,zzj_]
         refine yR_ (by kernel_rfl) (by kernel_rfl) (by decide) ?_
         simp only[List.drop_succ_cons,List.drop_zero]
         obtain⟨V7,V8,⟨q2,f2⟩,e7,⟨q3,f3⟩,e8,hm8⟩:=b6.st hXl x6 rfl ⟨_,by rw[zzq_,zzq_],by simp⟩
         have HM1:=Lib.hid hm8
         clear b0 b1 b2 b3 b4 b5 b6 x0 x1 x2 x3 x4 x5 x6 s0 s1 s2 s3 s4 s5 s6 hm8
         go_wp2
         go_roundg (gk-1)
         case measure=>have:=HP.out;omega
         case rel=>exact⟨p+1,rfl,by have:=HP.out;omega,HM1.out⟩
        exact AllG.nil
       exact AllG.nil
      exact AllG.nil
     exact AllG.nil
    refine z9_ rfl (fun K hK=>?_) ?_
    ·go_simp
     obtain⟨V2,ks,e,e1,b2,x2⟩:=b1.al42 x1 hXl kr n
     rw[e,e1]
     clear e e1
     have s2:=hSof _ x2
     refine hK.out _ _ (fun _=>s2) ?_
     clear hK K
     try simp only[Act.put,zze_,zzi_,zzj_]
     refine z2_ (rs:=[6]) (by kernel_rfl) (by simp) ?_
     refine z9_ rfl (fun K hK=>?_) ?_
     ·go_simp
      go_at_call 25
      refine New_calls.mono ?_
      rintro e V3 ⟨rfl,hg⟩
      have b3:=b2.grown hg
      have x3:=(hg.block X (zzk_ hXl b2.size) (by simp)).trans x2
      clear hg
      have s3:=hSof _ x3
      refine hK.out _ _ (fun _=>s3) ?_
      clear hK K
      try simp only[Act.put,zze_,zzi_,zzj_]
      refine z2_ (rs:=[7]) (by kernel_rfl) (by simp) ?_
      refine z9_ rfl (fun K hK=>?_) ?_
      ·go_simp
       obtain⟨V4,kb,e,e1,b4,x4⟩:=b3.al39 x3 hXl
       rw[e,e1]
       clear e e1
       have s4:=hSof _ x4
       refine hK.out _ _ (fun _=>s4) ?_
       clear hK K
       try simp only[Act.put,zze_,zzi_,zzj_]
       refine z2_ (rs:=[8]) (by kernel_rfl) (by simp) ?_
       refine z9_ rfl (fun K hK=>?_) ?_
       ·obtain⟨gb,cb,V5,e,b5,x5⟩:=b4.ap39 x4 hXl rfl (k:=kb) (by simp) hp1
        refine ze_ rfl _ _ 30 30 rfl _ _ rfl rfl e ?_
        clear e
        have s5:=hSof _ x5
        refine hK.out _ _ (fun _=>s5) ?_
        clear hK K
        try simp only[Act.put,zze_,zzi_,zzj_]
        refine z2_ (rs:=[20]) (by kernel_rfl) (by simp) ?_
        refine z9_ rfl (fun K hK=>?_) ?_
        ·obtain⟨gm,cm,V6,e,b6,x6⟩:=b5.ap42 x5 hXl rfl (k:=ks) (kr:=kr) (n:=n) (by simp) hp1
         refine ze_ rfl _ _ 31 31 rfl _ _ rfl rfl e ?_
         clear e
         have s6:=hSof _ x6
         refine hK.out _ _ (fun _=>s6) ?_
         clear hK K
         try simp only[Act.put,zze_,zzi_,zzj_]
         refine z6_ (i:=21) (v:=?_) rfl (by decide) (by kernel_rfl) (by kernel_rfl) (by kernel_rfl) (by kernel_rfl) (by kernel_rfl) (fun _ _ _ h=>h) (by kernel_rfl) ?_ (fun _=>s6) ?_
         rotate_left
         ·(intro w9;go_simp;first|done|with_reducible rfl)
         try simp only[Act.put,zze_,zzi_,zzj_]
         refine z6_ (i:=22) (v:=?_) rfl (by decide) (by kernel_rfl) (by kernel_rfl) (by kernel_rfl) (by kernel_rfl) (by kernel_rfl) (fun _ _ _ h=>h) (by kernel_rfl) ?_ (fun _=>s6) ?_
         rotate_left
         ·(intro w9;go_simp;first|done|with_reducible rfl)
         try simp only[Act.put,zze_,zzi_,zzj_]
         refine yR_ (by kernel_rfl) (by kernel_rfl) (by decide) ?_
         simp only[List.drop_succ_cons,List.drop_zero]
         obtain⟨V7,V8,⟨q2,f2⟩,e7,⟨q3,f3⟩,e8,hm8⟩:=b6.st hXl x6 rfl ⟨_,by rw[zzq_,zzq_],by simp⟩
         have HM1:=Lib.hid hm8
         clear b0 b1 b2 b3 b4 b5 b6 x0 x1 x2 x3 x4 x5 x6 s0 s1 s2 s3 s4 s5 s6 hm8
         go_wp2
         go_roundg (gk-1)
         case measure=>have:=HP.out;omega
         case rel=>exact⟨p+1,rfl,by have:=HP.out;omega,HM1.out⟩
        exact AllG.nil
       exact AllG.nil
      exact AllG.nil
     exact AllG.nil
    exact AllG.nil
   exact AllG.nil
  ·have hpz:¬(p:Int)<(n:Int):=by omega
   have hpe:p=n:=by have:=HP.out;omega
   subst hpe
   obtain⟨T,hd,hnet,hT0,hbel⟩:=kv_ (g1:=g1) (w1:=w1) (Q:=Q) ⟨bv,mv,rk,HBs.out,HXc.out⟩ HK.out.1 HB.out.1 HB.out.2.1 HB.out.2.2 HK.out.2.2.1 HK.out.2.2.2.2.2
   clear x2 x3
   obtain⟨W,hW⟩:∃W,wr.alloc (.cells #[.slice LA l.length LC,.int .i64 0] 62)=W:=⟨_,rfl⟩
   have hbW:Below wr.heap.size wr W:=by rw[←hW];exact y6_ wr _
   have hKb:W.heap[wr.heap.size]?=some (.cells #[.slice LA l.length LC,.int .i64 0] 62 (0,0)):=by rw[←hW];exact heap_alloc_new wr _
   have hWs:W.heap.size=wr.heap.size+1:=by rw[←hW];simp
   obtain⟨K,hK⟩:∃K,wr.heap.size=K:=⟨_,rfl⟩
   rw[hK]at hKb hWs
   have hnW:=hnet.below hbW
   have hb2:=HK.out.2.2.2.1
   have hwb:Below w.heap.size w wr:=hb2.trans (Below.mono1 hbel hb2.size)
   have hKT:T K=0:=by
    by_cases h0:T K=0
    ·exact h0
    ·have:=(hnet.tz K h0).1;omega
   have hIk:∀b o,o<g.I b→o<g1.I b∧W.cell? ⟨b,o,none⟩=w.cell? ⟨b,o,none⟩:=fun b o ho=>by
    have hb:=hlt b (by omega)
    refine⟨by rw[HK.out.2.2.2.2.1 b hb];exact ho,World.cell?_of_block (a:=⟨b,o,none⟩) ((hbW.block b ?_).trans (hwb.block b hb))⟩
    have:=hwb.size
    show b<wr.heap.size
    omega
   have hpl:Pl g w K X p Q l 0 0 B0 M0 T g1 hd W:=by
    refine⟨hnW,⟨⟨.slice LA l.length LC,62,hKb,zv_ HLV.out rfl hIk⟩,hnW.Ilt,?_⟩,hKT,⟨by have:=hwb.size;omega,by omega⟩,hwb.trans (Below.mono1 hbW hwb.size),fun b hb=>hT0 b (zzk_ hb hb2.size),HK.out.2.2.2.2.1,.start⟩
    by_cases h0:0<g1.I K
    ·have:=hnet.Ilt K h0;omega
    ·omega
   have HPL:=Lib.hid hpl
   have HMD:=Lib.hid HK.out.1
   have HSM:=Lib.hid HK.out.2.1
   have hXK:wr.heap.size=K:=hK
   clear hnet hT0 hbel hbW hKb hnW hb2 hwb hKT hIk hpl hWs HBs HXc HB HMK HP HC HLV
   go_wp2
   clear hW hXK hK
   go_loopg [] l.length (fun kx wx=>∃k j B M T g' h,k+kx=l.length∧(3*j≤k∨(k=l.length∧3*j≤k+2))∧Pl g w K X p Q l k j B M T g' h wx)
   case atStart=>exact⟨0,0,B0,M0,T,g1,hd,by omega,.inl (by omega),HPL.out⟩
   case round =>
    obtain⟨k,j,B,M,T',g',h',hk,hc3,hI⟩:=hrel
    have HI:=Lib.hid hI
    have HK1:=Lib.hid hk
    by_cases hm:k<l.length
    ·obtain⟨c,hc,hc8⟩:=pw_ l k (m:=8) (by omega)
     obtain⟨a,ha,ha2⟩:=pw_ l (nat1 l k) (m:=210) (by omega)
     obtain⟨b,hb,hb2⟩:=pw_ l (nat1 l (nat1 l k)) (m:=210) (by omega)
     have hc':nx l k 8=(c:Int):=hc
     have ha':nx l (nat1 l k) 210=(a:Int):=ha
     have hb':nx l (nat1 l (nat1 l k)) 210=(b:Int):=hb
     have hn1:nat1 l k=k+1:=by simp[nat1,hm]
     have hn2:=pz_ (xs:=l) (k:=nat1 l k) (by omega)
     have hn3:=pz_ (xs:=l) (k:=nat1 l (nat1 l k)) (by omega)
     have z0:k≤1000:=by omega
     have z1:nat1 l k≤1000:=by omega
     have z2:nat1 l (nat1 l k)≤1000:=by omega
     have z3:l.length≤1000:=by omega
     have Z:k+1≤nat1 l (nat1 l (nat1 l k))∧nat1 l (nat1 l (nat1 l k))≤l.length:=by omega
     have hd1:decide (k<l.length)=true:=by simp[hm]
     have HH:=Lib.hid Z
     have hj:j≤1000:=by omega
     have Z4:3*(j+1)≤nat1 l (nat1 l (nat1 l k))∨(nat1 l (nat1 l (nat1 l k))=l.length∧3*(j+1)≤nat1 l (nat1 l (nat1 l k))+2):=by
      exact kt_ hm (by omega)
     have HZ4:=Lib.hid Z4
     clear hc3 Z4
     clear hI hk hc ha hb hn1 hn2 hn3 Z
     go_wp2_with (first
      | (go_at_call 28
         refine(HI.out.more z0 z3).mono ?_
         rintro e w2 ⟨rfl,hp⟩
         have HI:=Lib.hid hp
         clear hp)
      | (go_at_call 30
         refine(HI.out.next (by assumption) z3 (by omega) (by omega)).mono ?_
         rintro e w2 ⟨g2,rfl,hp⟩
         have HI:=Lib.hid hp
         clear hp)
      | (go_at_call 29
         (try rw[hc',ha',hb'])
         refine(HI.out.step HMD.out HSM.out.ne hj hc8 (by omega) (by omega)).mono ?_
         rintro e w2 ⟨B2,M2,T2,g2,h2,rfl,hp⟩
         have HI:=Lib.hid hp
         clear hp)
      | (go_at_call 13
         refine(HI.out.alone HMD.out).mono ?_
         rintro e w2 ⟨rfl,hp⟩
         have HI:=Lib.hid hp
         clear hp))
     all_goals go_wp2
     all_goals go_roundg (l.length-nat1 l (nat1 l (nat1 l k)))
     case measure=>have:=HH.out;have:=HK1.out;omega
     case rel=>exact⟨nat1 l (nat1 l (nat1 l k)),j+1,B2,M2,T2,g2,h2,by have:=HH.out;omega,HZ4.out,HI.out⟩
    ·have hd1:decide (k<l.length)=false:=by simp;omega
     have z0:k≤1000:=by omega
     have z3:l.length≤1000:=by omega
     have hke:k=l.length:=by omega
     have HJ:=Lib.hid (And.intro hke hc3)
     clear hI hk hc3 hke
     go_wp2_with (go_at_call 28
                  refine(HI.out.more z0 z3).mono ?_
                  rintro e w2 ⟨rfl,hp⟩
                  have HI:=Lib.hid hp
                  clear hp)
     go_wp2
     go_ret2
     exact⟨X,p,Q,K,j,B,M,T',g',h',rfl,HMD.out,HSM.out,by have:=HJ.out;omega,by have:=HI.out;rwa [HJ.out.1]at this⟩
end Go.Proofs.Ytpfjlnmnolbiaaa
namespace Go.Proofs.Ytpfjlnmnolbiaaa
open Go.RowKit Go.Proofs
def e3:List Int:=[3,5,6]
def aW:Bl:=⟨1,3,0,0,0,⟨1,0⟩,false,[],[],false⟩
def b1W:Bl:=⟨1,0,0,0,0,⟨0,0⟩,false,[⟨1,0⟩],[],false⟩
def b2W:Bl:=⟨1,0,0,0,0,⟨0,0⟩,false,[⟨1,0⟩],[⟨1,2⟩],false⟩
theorem md3:Md 3 [3,5,6]:=by have:=v9_ (n:=3) (by omega) (by omega);rwa [ky_]at this
theorem ok3:okB 3 e3=true:=md3.ok
theorem bOk3(s:Int)(b:Bl):bOk 3 e3 s b=(vtr 3 s&&decide (0≤b.time)&&decide (b.time≤1073741824)&&aok e3 s b&&vok 3 b):=by unfold bOk;rw[ok3];rfl
theorem w1:vg_ 3 e3 0 3 noB (askO noB 0 (mbU 3 9))=okR aW [⟨1,0,1,0⟩,⟨1,1,1,0⟩]:=by
 have h1:bOk 3 e3 0 noB=true:=by rw[bOk3];decide +kernel
 have h2:mbU 3 9=[0,1]:=by decide +kernel
 unfold vg_
 rw[if_neg (by rw[h1];simp),if_neg (by decide),if_neg (by decide),if_neg (by decide),h2]
 rfl
theorem h1W:zD_ 3 e3 1 0 ⟨1,0,1,0⟩ noB=okR b1W [⟨2,0,0,0⟩]:=by
 have h1:bOk 3 e3 1 noB=true:=by rw[bOk3];decide +kernel
 unfold zD_
 rw[if_neg (by rw[h1];simp),if_neg (by decide),if_pos (by decide),if_neg (by decide),if_neg (by decide)]
 rfl
theorem h2W:zD_ 3 e3 1 2 ⟨1,0,1,2⟩ b1W=okR b2W [⟨3,2,0,0⟩]:=by
 have h1:bOk 3 e3 1 b1W=true:=by rw[bOk3];decide +kernel
 unfold zD_
 rw[if_neg (by rw[h1];simp),if_neg (by decide),if_pos (by decide),if_neg (by decide),if_neg (by decide)]
 rfl
theorem v1W:bOk 3 e3 0 aW=true:=by rw[bOk3];decide +kernel
theorem v2W:bOk 3 e3 1 b2W=true:=by rw[bOk3];decide +kernel
set_option maxHeartbeats 16000000 in
theorem nE_:PC Try.prog 8 [] (fun r=>r=.s (.bool true)):=by
 have cN:=ja_
 have cW:=ou_ noB 3 e3 0 3 (by decide) (by simp[Bl.sm,noB])
 rw[w1]at cW
 have cH1:=sQ_ noB 3 e3 1 0 ⟨1,0,1,0⟩ (by decide) (by simp[noB]) (by simp[noB])
 rw[h1W]at cH1
 have cH2:=sQ_ b1W 3 e3 1 2 ⟨1,0,1,2⟩ (by decide) (by simp[b1W]) (by simp[b1W])
 rw[h2W]at cH2
 have cV1:=xd_ aW 3 e3 0 (by decide) (by simp[Bl.sm,aW])
 rw[v1W]at cV1
 have cV2:=xd_ b2W 3 e3 1 (by decide) (by simp[Bl.sm,b2W])
 rw[v2W]at cV2
 have hmx:3≤maxLen∧3*8≤zj_:=by simp[maxLen,zj_]
 simp only[cP,e3,iv,List.map,Bl.v,Bl.cs,noB,aW,b1W,b2W,okR,vl,Vt.v,sl,Sg.v,List.map_nil,List.map_cons]at cN cW cH1 cH2 cV1 cV2
 refine zJ_ c8 zF_ rfl ?_
 simp -implicitDefEqProofs [a8,F8]
 refine yJ_ ?_
 simp -implicitDefEqProofs
 refine w7_ cN (by simp) (by simp) ?_
 simp -implicitDefEqProofs
 refine yJ_ ?_
 simp -implicitDefEqProofs
 refine w7_ cW (by simp) (by simp) ?_
 simp -implicitDefEqProofs
 refine yJ_ ?_
 simp -implicitDefEqProofs
 refine w7_ cN (by simp) (by simp) ?_
 simp -implicitDefEqProofs
 refine yJ_ ?_
 simp -implicitDefEqProofs
 refine w7_ cH1 (by simp) (by simp) ?_
 simp -implicitDefEqProofs
 refine z7_ ?_
 simp -implicitDefEqProofs
 refine zy_ cH2 (by simp) (by simp) ?_
 rintro _ rfl
 simp -implicitDefEqProofs
 refine z7_ ?_
 simp -implicitDefEqProofs
 refine zy_ cV1 (by simp) (by simp) ?_
 rintro _ rfl
 simp -implicitDefEqProofs
 refine z7_ ?_
 simp -implicitDefEqProofs
 refine zy_ cV2 (by simp) (by simp) ?_
 rintro _ rfl
 simp -implicitDefEqProofs
end Go.Proofs.Ytpfjlnmnolbiaaa
namespace Go.Proofs.Ytpfjlnmnolbiaaa
open Go.RowKit Go.Proofs
theorem ko_{P:Program}{f:FuncId}{args:List V}{Q:V→Prop}(him:∀x∈args,immA x=true)
 (hw:∀(g:Gh) (w:World) (vs:Array Value),args.length=vs.size→(∀(i:Nat) (x:V) (v:Value),args[i]?=some x→vs[i]?=some v→Rep g w x v)→(∀k,0<g.I k→k<w.heap.size) →
  Calls P f vs w fun e' w'=>∃(v:Value) (r:V) (I':Nat→Nat),e'=.returned v∧Q r∧immT r=true∧okV r=true∧(∀b,b<w.heap.size→I' b=g.I b)∧(∀b,0<I' b→b<w'.heap.size)∧Rep ⟨I',g.φ⟩ w' r v∧Below w.heap.size w w'):PC P f args Q:=by
 intro g w vs hb
 have hl:args.length=vs.size:=by have:=hb.sz;simp[Frn]at this;exact this.symm
 have hrep:∀(i:Nat) (x:V) (v:Value),args[i]?=some x→vs[i]?=some v→Rep g w x v:=by
  intro i x v hx hv
  refine hb.rep (.l (.var i)) x v ⟨hx,?_⟩
  have hi:=(zzc_.1 hx).1
  have hi':i<vs.size:=by omega
  rw[Array.getElem?_eq_getElem hi']at hv
  cases hv
  simp[z4_,Frn,Act.tv,hi,hl ▸ hi]
 refine(hw g w vs hl hrep hb.Ilt).mono ?_
 rintro e' w' ⟨v,r,I',rfl,hQ,hi,hok,h1,h2,hr,hbel⟩
 obtain⟨q1,q2⟩:=ok_ (g:=⟨I',g.φ⟩) (w:=w') hi hr h2
 refine⟨v,r,[],⟨I',g.φ⟩,rfl,⟨rfl,hQ⟩,hok,q1,⟨hbel.os,hbel.tape,hbel.output,hbel.size,fun k hk' _=>⟨hbel.block k hk',h1 k hk'⟩,fun k ho'=>absurd ho' (q2 k),fun b hb'=>by simp at hb'⟩⟩
end Go.Proofs.Ytpfjlnmnolbiaaa
namespace Go.Proofs.Ytpfjlnmnolbiaaa
open Go.RowKit Go.Proofs
theorem vO_{g:Gh}{w:World}(hlt:∀k,0<g.I k→k<w.heap.size):Calls Try.prog 8 #[] w fun e w'=>e=.returned (.bool true)∧Below w.heap.size w w':=by
 refine(wS_ nE_ (g:=g) (w:=w) (vals:=#[]) rfl (by intro x hx;simp at hx) (by intro i x v hx;simp at hx) hlt).mono ?_
 rintro e w' ⟨v,r,g',rfl,rfl,hr,hb,_⟩
 have:=hr.of_s rfl
 subst this
 exact⟨rfl,hb⟩
theorem sC_{g:Gh}{w:World}(hlt:∀k,0<g.I k→k<w.heap.size){l:List Int}{lv:Value}(hlv:Rep g w (.list 1 (iv l)) lv):Calls Try.prog 7 #[lv] w fun e w'=>e=.returned (.bool (decide (l.length≤400)))∧Below w.heap.size w w':=by
 refine(wS_ (nL_ l) (g:=g) (w:=w) (vals:=#[lv]) rfl ?_ ?_ hlt).mono ?_
 ·intro x hx
  simp at hx
  subst hx
  rfl
 ·intro i x v hx hv
  match i,hx,hv with
  |0,hx,hv=>cases hx;cases hv;exact hlv
 ·rintro e w' ⟨v,r,g',rfl,rfl,hr,hb,_⟩
  have:=hr.of_s rfl
  subst this
  exact⟨rfl,hb⟩
theorem qa_{g:Gh}{w w':World}{l:List Int}{lv:Value}(hlt:∀k,0<g.I k→k<w.heap.size)(hlv:Rep g w (.list 1 (iv l)) lv)(hb:Below w.heap.size w w'):Rep g w' (.list 1 (iv l)) lv :=
 zv_ hlv rfl fun b o ho=>⟨ho,World.cell?_of_block (a:=⟨b,o,none⟩) (hb.block b (hlt b (by omega)))⟩
end Go.Proofs.Ytpfjlnmnolbiaaa
namespace Go.Proofs.Ytpfjlnmnolbiaaa
open Go.RowKit Go.Proofs
theorem MBx.get{w:World}{v:Value}{l:List Vt}(h:MBx w v l){p:Nat}(hp:p<l.length):∃k off cap,v=.slice (some ⟨k,off,none⟩) l.length cap∧k<w.heap.size∧w.cell? ⟨k,off+p*4,none⟩=some (.int .i64 l[p].k)∧w.cell? ⟨k,off+p*4+1,none⟩=some (.int .i64 l[p].to)∧w.cell? ⟨k,off+p*4+2,none⟩=some (.int .i64 l[p].st)∧w.cell? ⟨k,off+p*4+3,none⟩=some (.int .i64 l[p].ss):=by
 rcases h with ⟨rfl,_⟩|⟨k,off,cap,cur,rfl,h1,h2,h3,h4,h5,h6⟩
 ·simp at hp
 ·obtain⟨a0,a1,a2,a3⟩:=md_ l p hp
  have hc:∀(q:Nat) (u:Value),(fv l)[q]?=some u→w.cell? ⟨k,off+q,none⟩=some u:=fun q u hq=>by simpa[World.cell?,h4] using h6 q u hq
  refine⟨k,off,cap,rfl,(zzm_.1 h4).1,hc _ _ a0,?_,?_,?_⟩
  ·rw[Nat.add_assoc];exact hc _ _ a1
  ·rw[Nat.add_assoc];exact hc _ _ a2
  ·rw[Nat.add_assoc];exact hc _ _ a3
theorem MBx.form{w:World}{v:Value}{l:List Vt}(h:MBx w v l):∃A C,v=.slice A l.length C:=by
 rcases h with ⟨rfl,A,rfl⟩|⟨k,off,cap,cur,rfl,_⟩
 ·exact⟨A,0,rfl⟩
 ·exact⟨_,_,rfl⟩
def isY(m:Vt):Bool:=m.k==2
def isR(m:Vt):Bool:=m.k==5||m.k==6
def vc1(B:Nat→QP.Bt)(v i:Nat):Nat:=if (B i).votes.testBit v then 1 else 0
def vcs(B:Nat→QP.Bt)(M:Nat→Nat→QP.Ms)(v:Nat):Nat→Nat
 |0=>0
 |i+1=>vcs B M v i+vc1 B v i+((toMs M) v i).countP isY+((toMs M) i v).countP isR
theorem vZ_{α:Type}(P:α→Bool)(l:List α){p:Nat}(hp:p<l.length):(l.take (p+1)).countP P=(l.take p).countP P+if P l[p] then 1 else 0:=by
 rw[List.take_add_one,zzf_ hp,List.countP_append]
 simp[List.countP_cons]
section
variable{n:Nat}{Q:List Nat}{Tm:Nat}{B:Nat→QP.Bt}{M:Nat→Nat→QP.Ms}
theorem nR_{L:Nat}(hL:∀a b,(M a b).length≤L)(v:Nat):∀i,vcs B M v i≤i*(1+2*L)
 |0=>zzn_ _
 | i + 1 => by
   have h0:=nR_ hL v i
   have h1:((toMs M) v i).countP isY≤L:=Nat.le_trans List.countP_le_length (by rw[yL_];exact hL v i)
   have h2:((toMs M) i v).countP isR≤L:=Nat.le_trans List.countP_le_length (by rw[yL_];exact hL i v)
   have h3:vc1 B v i≤1:=by unfold vc1;split<;>omega
   have h4:vcs B M v (i+1)=vcs B M v i+vc1 B v i+((toMs M) v i).countP isY+((toMs M) i v).countP isR:=rfl
   rw[Nat.add_mul]
   omega
theorem vbit{b:QP.Bt}{v n:Nat}(hb:b.votes<2^n)(hn:n≤9):(bits .and .i64 (((b.votes:Nat):Int)/2^v) 1==1)=b.votes.testBit v:=by
 have h9:2^n≤2^9:=Nat.pow_le_pow_right (by omega) hn
 rw[←oB_ (s:=b.votes) (v:=v) (by omega)]
 unfold tstB
 rw[Int.fdiv_eq_ediv_of_nonneg _ (Int.natCast_nonneg _),Int.natCast_pow]
 rfl
theorem lX_(h:QP.NInv n Q Tm B M){v:Nat}(hv:v<n):vcs B M v n=(B v).given.length:=by
 rw[←h.count hv]
 have key:∀i,i<n→vc1 B v i+((toMs M) v i).countP isY+((toMs M) i v).countP isR=QP.nv (QP.Rof (B i) v) (QP.upM (M i v)) (QP.dnM (M v i)):=by
  intro i hi
  have e1:∀l:QP.Ms,∀a,(l.map (toVt a)).countP isY=(QP.dnM l).countP (·==.yes):=by
   intro l a
   induction l with
   |nil=>rfl
   | cons m r ih =>
     obtain⟨k,s⟩:=m
     cases k<;>simp[QP.dnM,QP.toDn,isY,toVt,kdI,List.countP_cons,Function.comp_def]at ih ⊢<;>omega
  have e2:∀l:QP.Ms,∀a,(l.map (toVt a)).countP isR=(QP.upM l).countP (· != .ask):=by
   intro l a
   induction l with
   |nil=>rfl
   | cons m r ih =>
     obtain⟨k,s⟩:=m
     cases k<;>simp[QP.upM,QP.toUp,isR,toVt,kdI,List.countP_cons,Function.comp_def]at ih ⊢<;>omega
  have e3:(if QP.Rof (B i) v=.h then 1 else 0)=vc1 B v i:=by
   unfold QP.Rof vc1
   cases e:(B i).votes.testBit v with
   |false=>cases (B i).qu.testBit v<;>simp
   |true=>simp[(h.ao i hi).vq v e]
  unfold QP.nv toMs
  rw[e1,e2,e3]
 have sum:∀m,m≤n→vcs B M v m=((List.range m).map fun i=>QP.nv (QP.Rof (B i) v) (QP.upM (M i v)) (QP.dnM (M v i))).sum:=by
  intro m
  induction m with
  |zero=>intro _;rfl
  | succ m ih =>
    intro hm
    rw[List.range_succ,List.map_append,List.sum_append,←ih (by omega)]
    have:=key m (by omega)
    simp[vcs]
    omega
 exact sum n (zzl_ _)
end
end Go.Proofs.Ytpfjlnmnolbiaaa
namespace Go.Proofs.Ytpfjlnmnolbiaaa
open Go.RowKit Go.Proofs
theorem qZ_{g:Gh}{w:World}{z:Nat}{xs:List V}{v:Value}(h:Rep g w (.list z xs) v):∃A c,v=.slice A xs.length c:=by
 cases h with
 |list vals hc hm hA hz hi hcell hr=>exact⟨_,_,rfl⟩
set_option maxHeartbeats 8000000 in
set_option maxRecDepth 100000 in
theorem vU_(l:List Int)(n:Int):PC Try.prog 4 [.list 1 (iv l),.s (.int .i64 n)] (fun r=>r=.s (.bool true)):=by
 refine ko_ (by intro x hx;simp at hx;rcases hx with rfl|rfl<;>rfl) fun g w vs hl hr hlt=>?_
 obtain⟨lv,nv,rfl⟩:∃a b,vs=#[a,b]:=by
  have:vs.toList.length=2:=by simpa using hl.symm
  match hv:vs.toList,this with
  |[a,b],_=>exact⟨a,b,Array.ext' (by simpa using hv)⟩
 have mx:=zF_
 have hlv:=hr 0 _ lv rfl rfl
 have hnv:=(hr 1 _ nv rfl rfl).of_s rfl
 subst hnv
 have fin:∀w',Below w.heap.size w w'→∃(v:Value) (r:V) (I':Nat→Nat),Ending.returned (.bool true)=.returned v∧r=.s (.bool true)∧immT r=true∧okV r=true∧(∀b,b<w.heap.size→I' b=g.I b)∧(∀b,0<I' b→b<w'.heap.size)∧Rep ⟨I',g.φ⟩ w' r v∧Below w.heap.size w w':=fun w' hb =>
  ⟨_,_,g.I,rfl,rfl,rfl,rfl,fun _ _=>rfl,fun b hb'=>zzk_ (hlt b hb') hb.size,.s rfl,hb⟩
 have HF:=Lib.hid fin
 have HL:=Lib.hid hlv
 have H0:=Lib.hid (sC_ hlt hlv)
 clear hr hlv fin
 have hd:decide (l.length≤400)=true∨decide (l.length≤400)=false:=by cases decide (l.length≤400)<;>simp
 rcases hd with hd|hd
 ·have h4:l.length≤400:=of_decide_eq_true hd
  go_enter Try.func4,Try.ntmps4
  go_wp2_with (first
   | (go_at_call 7
      refine H0.out.mono ?_
      rintro e w1 ⟨rfl,hb1⟩
      have hlt1:∀k,0<g.I k→k<w1.heap.size:=fun k hk=>zzk_ (hlt k hk) hb1.size
      have HB1:=Lib.hid hb1
      have HLT:=Lib.hid hlt1
      clear hb1 hlt1)
   | (go_at_call 9
      refine(mY_ HLT.out (qa_ hlt HL.out HB1.out) h4 n).mono ?_
      rintro e w2 ⟨X,k,Q,K,j,B,M,T,g2,h2,rfl,hmd,hsm,hj,hp⟩
      have hb2:=HB1.out.trans (Below.mono1 hp.below HB1.out.size)
      have hlt2:∀k,0<g.I k→k<w2.heap.size:=fun k hk=>zzk_ (hlt k hk) hb2.size
      have HB2:=Lib.hid hb2
      have HLT2:=Lib.hid hlt2
      have HN:=Lib.hid hp.net
      have HI:=Lib.hid (hp.rch.inv (uf_ hmd))
      have k9:k≤9:=hmd.k1.2
      have x2:=hp.net.x2
      have hbcn:=hp.net.bcn
      have hmcn:=hp.net.mcn
      have hml:=hp.rch.len (uf_ hmd)
      have hj11:j*(k+2)≤1474:=Nat.le_trans (Nat.mul_le_mul hj (show k+2≤11 by omega)) (by omega)
      have HC:=Lib.hid (fun v i=>nR_ (B:=B) hml v i)
      have HML:=Lib.hid hml
      have HS:=Lib.hid (fun i hi=>(r4_ hmd ((hp.rch.inv (uf_ hmd)).ao i hi)).votes)
      clear hp hb2 hlt2 hmd hsm hj hml))
  clear HLT HB1
  go_wp2
  go_loopg [32] k (fun kx s32 wr=>∃v:Nat,s32=.int .i64 v∧v+kx=k∧Below w2.heap.size w2 wr)
  case atStart=>exact⟨0,rfl,by omega,Below.refl _ _⟩
  case round =>
   obtain⟨v,rfl,hv,hbel⟩:=hrel
   have HNr:=Lib.hid (HN.out.below hbel)
   have HBr:=Lib.hid hbel
   have HV:=Lib.hid hv
   clear hbel hv
   by_cases hm:v<k
   ·have hvz:(v:Int)<(k:Int):=by omega
    have hv0:¬(v:Int)<0:=by omega
    have hwv:IntKind.i64.wrap ((v:Int)+1)=(v:Int)+1:=by rw[IntKind.wrap_i64];omega
    have y2:=HNr.out.x2
    go_wp2
    go_loopg [8,40] k (fun kx s8 s40 wi=>∃i:Nat,s8=.int .i64 (vcs B M v i:Nat)∧s40=.int .i64 i∧i+kx=k∧Below w2.heap.size w2 wi)
    case atStart=>exact⟨0,rfl,rfl,by omega,HBr.out⟩
    case round =>
     obtain⟨i,rfl,rfl,hi,hbi⟩:=hrel
     have hnI:=HN.out.below hbi
     have HBi:=Lib.hid hbi
     have HIi:=Lib.hid hi
     clear hbi hi
     by_cases hmi:i<k
     ·obtain⟨v0,v1,v2,v3,v4,v5,v6,v7,v8,v9,v10,a0,a1,a2,a3,a4,a5,a6,a7,a8,a9,a10,hrv,⟨o0,o1,o2,o3,o4,o5,o6,o7,o8,o9,o10⟩,e7,e1⟩:=hnI.st hmi
      have e2:v2=.int .i64 ((B i).votes:Nat):=by
       cases hrv with
       |agg q1 q2 q3=>exact(q3 2 _ v2 rfl rfl).of_s rfl
      obtain⟨y1,y2,y3,y4,y5,y6,y7,y8,y9,y10,W,z0,z1,z2,z3,z4,z5,z6,z7,z8,z9,z10,hW1,hW2,hW3⟩:=oj_ (P:=Try.prog) wr (v0:=v0) (v1:=v1) (v2:=v2) (v3:=v3) (v4:=v4) (v5:=v5) (v6:=v6) (v7:=v7) (v8:=v8) (v9:=v9) (v10:=v10) (by
       intro v hv
       simp at hv
       rcases hv with rfl|rfl|rfl|rfl|rfl|rfl|rfl|rfl|rfl|rfl|rfl<;>assumption)
      have hW7:W.cell? ⟨wr.heap.size,2,none⟩=some (.int .i64 ((B i).votes:Nat)):=by simp[World.cell?,hW3,e2]
      have hbW:Below w2.heap.size w2 W:=HBi.out.trans (Below.mono1 hW1 HBi.out.size)
      have hnW:=HN.out.below hbW
      have HnW:=Lib.hid hnW
      have HbW:=Lib.hid hbW
      have hiz:(i:Int)<(k:Int):=by omega
      have hi0:¬(i:Int)<0:=by omega
      have y3:=hnW.x3
      have m1:=hnW.m1 hm
      have m2:=hnW.m2 hm hmi
      have hrc:=HN.out.rcn v hm
      obtain⟨A1,C1,hmv1⟩:=(HN.out.vv v i hm hmi).form
      obtain⟨A2,C2,hmv2⟩:=(HN.out.vv i v hmi hm).form
      rw[hmv1]at m2
      have hbt:=vbit (v:=v) (HS.out i hmi) k9
      have hc0:vcs B M v i≤27000:=by
       have h1:=HC.out v i
       have h2:i*(1+2*(j*(k+2)))≤9*(1+2*1474):=Nat.mul_le_mul (by omega) (by omega)
       omega
      have hvs:vcs B M v (i+1)=vcs B M v i+vc1 B v i+((toMs M) v i).countP isY+((toMs M) i v).countP isR:=rfl
      have hl1:((toMs M) v i).length≤1474:=by rw[yL_];exact Nat.le_trans (HML.out v i) hj11
      have hl2:((toMs M) i v).length≤1474:=by rw[yL_];exact Nat.le_trans (HML.out i v) hj11
      have HVS:=Lib.hid hvs
      have hq1:((toMs M) v i).countP isY≤1474:=Nat.le_trans List.countP_le_length hl1
      have hq2:((toMs M) i v).countP isR≤1474:=Nat.le_trans List.countP_le_length hl2
      have HM1:=Lib.hid hmv1
      have HM2:=Lib.hid hmv2
      have HVC:=Lib.hid (show vc1 B v i=if (B i).votes.testBit v then 1 else 0 from rfl)
      clear hrv e7 e1 e2 hnI hW1 hW2 hW3 hbW hnW o0 o1 o2 o3 o4 o5 o6 o7 o8 o9 o10 hvs hmv1 hmv2
      have hbit:(B i).votes.testBit v=true∨(B i).votes.testBit v=false:=by cases (B i).votes.testBit v<;>simp
      obtain⟨c1,hc1,hc1b⟩:∃c1,vcs B M v i+vc1 B v i=c1∧c1≤27001:=⟨_,rfl,by
       have:vc1 B v i≤1:=by rw[HVC.out];split<;>omega
       omega⟩
      rcases hbit with hbit|hbit
      all_goals
       rw[hbit]at hbt
       have hwc:IntKind.i64.wrap ((vcs B M v i:Int)+1)=(vcs B M v i:Int)+1:=by rw[IntKind.wrap_i64];omega
       have hc1':c1=vcs B M v i+if (B i).votes.testBit v then 1 else 0:=by rw[←hc1,HVC.out]
       rw[hbit]at hc1'
       have hc2:(vcs B M v i:Int)+(if (B i).votes.testBit v then 1 else 0)=c1:=by rw[hc1',hbit];simp
       rw[hbit]at hc2
       have HC1:=Lib.hid hc1
       have HC2:=Lib.hid hc2
       clear hc1 hc1' hc2
       go_wp2
       go_loopg [8,64] ((toMs M) v i).length (fun kx s8 s64 wx=>∃p:Nat,s8=.int .i64 ((c1+((toMs M v i).take p).countP isY:Nat))∧s64=.int .i64 p∧p+kx=((toMs M) v i).length∧Below w2.heap.size w2 wx)
       case atStart =>
        have:=HC2.out
        simp at this
        refine⟨0,?_,rfl,by omega,HbW.out⟩
        first|(simp;omega)|simp[this]
       case round =>
        obtain⟨p,rfl,rfl,hp,hbp⟩:=hrel
        have hnP:=HN.out.below hbp
        have HBp:=Lib.hid hbp
        have HPp:=Lib.hid hp
        clear hbp hp
        by_cases hpm:p<((toMs M) v i).length
        ·obtain⟨kk,off,cap,hsl,hkl,g0,g1,g2,g3⟩:=(hnP.vv v i hm hmi).get hpm
         rw[HM1.out]at hsl
         cases hsl
         have htk:=vZ_ isY ((toMs M) v i) hpm
         have hct:(((toMs M) v i).take p).countP isY≤1474:=Nat.le_trans List.countP_le_length (Nat.le_trans (by rw[List.length_take];exact Nat.min_le_right _ _) hl1)
         generalize ((toMs M) v i)[p]=m at g0 g1 g2 g3 htk
         obtain⟨mk,mt,ms,mss⟩:=m
         simp only at g0 g1 g2 g3
         generalize (((toMs M) v i).take p).countP isY=cp at htk hct ⊢
         have hpz:(p:Int)<(((toMs M) v i).length:Int):=by omega
         have hp0:¬(p:Int)<0:=by omega
         have hwp:IntKind.i64.wrap ((p:Int)+1)=(p:Int)+1:=by rw[IntKind.wrap_i64];omega
         have hwq:IntKind.i64.wrap (((c1+cp:Nat):Int)+1)=((c1+cp:Nat):Int)+1:=by rw[IntKind.wrap_i64];omega
         obtain⟨W4,hW4⟩:∃W4,wr.alloc (.cells #[.int .i64 mk,.int .i64 mt,.int .i64 ms,.int .i64 mss] 46)=W4:=⟨_,rfl⟩
         have hk4:W4.heap[wr.heap.size]?=some (.cells #[.int .i64 mk,.int .i64 mt,.int .i64 ms,.int .i64 mss] 46 (0,0)):=by rw[←hW4];exact heap_alloc_new wr _
         have q0:W4.cell? ⟨wr.heap.size,0,none⟩=some (.int .i64 mk):=by simp[World.cell?,hk4]
         have HB4:=Lib.hid (HBp.out.trans (Below.mono1 (show Below wr.heap.size wr W4 by rw[←hW4];exact y6_ wr _) HBp.out.size))
         have HTK:=Lib.hid htk
         have HW4:Asd (wr.alloc (.cells #[.int .i64 mk,.int .i64 mt,.int .i64 ms,.int .i64 mss] 46)=W4):=⟨hW4⟩
         clear htk hk4 hnP hW4
         have hk:(mk==2)=true∨(mk==2)=false:=by cases (mk==2)<;>simp
         rcases hk with hk|hk
         all_goals
          go_wp2
          rw[HW4.out]
          go_wp2
          go_roundg (((toMs M) v i).length-(p+1))
          case measure=>have:=HPp.out;omega
          case rel =>
           have h1:=HTK.out
           have h2:=HPp.out
           refine⟨p+1,?_,rfl,by omega,HB4.out⟩
           rw[h1]
           simp[isY, *]
           try omega
        ·have hpe:p=((toMs M) v i).length:=by have:=HPp.out;omega
         have hpz:¬(p:Int)<(((toMs M) v i).length:Int):=by omega
         rw[hpe,List.take_length]
         have y3':=hnP.x3
         have m1':=hnP.m1 hmi
         have m2':=hnP.m2 hmi hm
         rw[HM2.out]at m2'
         have hrc':=HN.out.rcn i hmi
         have hiz':(i:Int)<(k:Int):=by omega
         have hcs:c1+((toMs M) v i).countP isY≤28500:=by omega
         clear hnP
         go_wp2
         go_loopg [8,85] ((toMs M) i v).length (fun kx s8 s85 wx=>∃p:Nat,s8=.int .i64 ((c1+((toMs M) v i).countP isY+((toMs M i v).take p).countP isR:Nat))∧s85=.int .i64 p∧p+kx=((toMs M) i v).length∧Below w2.heap.size w2 wx)
         case atStart=>exact⟨0,by simp,rfl,by omega,HBp.out⟩
         case round =>
          obtain⟨p,rfl,rfl,hp,hbp⟩:=hrel
          have hnP:=HN.out.below hbp
          have HBp:=Lib.hid hbp
          have HPp:=Lib.hid hp
          clear hbp hp
          by_cases hpm:p<((toMs M) i v).length
          ·obtain⟨kk,off,cap,hsl,hkl,g0,g1,g2,g3⟩:=(hnP.vv i v hmi hm).get hpm
           rw[HM2.out]at hsl
           cases hsl
           have htk:=vZ_ isR ((toMs M) i v) hpm
           have hct:(((toMs M) i v).take p).countP isR≤1474:=Nat.le_trans List.countP_le_length (Nat.le_trans (by rw[List.length_take];exact Nat.min_le_right _ _) hl2)
           generalize ((toMs M) i v)[p]=m at g0 g1 g2 g3 htk
           obtain⟨mk,mt,ms,mss⟩:=m
           simp only at g0 g1 g2 g3
           generalize (((toMs M) i v).take p).countP isR=cp at htk hct ⊢
           have hpz:(p:Int)<(((toMs M) i v).length:Int):=by omega
           have hp0:¬(p:Int)<0:=by omega
           have hwp:IntKind.i64.wrap ((p:Int)+1)=(p:Int)+1:=by rw[IntKind.wrap_i64];omega
           have hwq:IntKind.i64.wrap ((((c1+((toMs M) v i).countP isY)+cp:Nat):Int)+1)=(((c1+((toMs M) v i).countP isY)+cp:Nat):Int)+1:=by rw[IntKind.wrap_i64];omega
           obtain⟨W4,hW4⟩:∃W4,wr.alloc (.cells #[.int .i64 mk,.int .i64 mt,.int .i64 ms,.int .i64 mss] 46)=W4:=⟨_,rfl⟩
           have hk4:W4.heap[wr.heap.size]?=some (.cells #[.int .i64 mk,.int .i64 mt,.int .i64 ms,.int .i64 mss] 46 (0,0)):=by rw[←hW4];exact heap_alloc_new wr _
           have q0:W4.cell? ⟨wr.heap.size,0,none⟩=some (.int .i64 mk):=by simp[World.cell?,hk4]
           have HB4:=Lib.hid (HBp.out.trans (Below.mono1 (show Below wr.heap.size wr W4 by rw[←hW4];exact y6_ wr _) HBp.out.size))
           have HTK:=Lib.hid htk
           have HW4:Asd (wr.alloc (.cells #[.int .i64 mk,.int .i64 mt,.int .i64 ms,.int .i64 mss] 46)=W4):=⟨hW4⟩
           clear htk hk4 hnP hW4
           have hk:((mk==5)=true∨(mk==5)=false)∧((mk==6)=true∨(mk==6)=false):=by cases (mk==5)<;>cases (mk==6)<;>simp
           obtain⟨hk|hk,hk6|hk6⟩:=hk
           all_goals
            go_wp2
            rw[HW4.out]
            go_wp2
            go_roundg (((toMs M) i v).length-(p+1))
            case measure=>have:=HPp.out;omega
            case rel =>
             have h1:=HTK.out
             have h2:=HPp.out
             refine⟨p+1,?_,rfl,by omega,HB4.out⟩
             rw[h1]
             simp[isR, *]
             try omega
          ·have hpe:p=((toMs M) i v).length:=by have:=HPp.out;omega
           have hpz:¬(p:Int)<(((toMs M) i v).length:Int):=by omega
           have hie:i+1+(k-(i+1))=k:=by omega
           have h3:=HVS.out
           have h4:=HC1.out
           have hci:c1+((toMs M) v i).countP isY+((toMs M) i v).countP isR=vcs B M v (i+1):=by omega
           have HCI:=Lib.hid hci
           have hwi:IntKind.i64.wrap ((i:Int)+1)=(i:Int)+1:=by rw[IntKind.wrap_i64];omega
           rw[hpe,List.take_length]
           rw[hci]
           clear h3 h4 hci hnP
           go_wp2
           go_roundg (k-(i+1))
           case measure=>have:=HIi.out;omega
           case rel=>exact⟨i+1,rfl,rfl,by omega,HBp.out⟩
     ·have hie:i=k:=by have:=HIi.out;omega
      subst hie
      have hiz:¬(i:Int)<(i:Int):=by omega
      obtain⟨v0,v1,v2,v3,v4,v5,v6,v7,v8,v9,v10,a0,a1,a2,a3,a4,a5,a6,a7,a8,a9,a10,hrv,⟨o0,o1,o2,o3,o4,o5,o6,o7,o8,o9,o10⟩,e7,e1⟩:=hnI.st hm
      have e8:∃A c,v8=.slice A (B v).given.length c:=by
       cases hrv with
       | agg q1 q2 q3 =>
         have h8:=q3 8 _ v8 rfl rfl
         obtain⟨A,c,h⟩:=qZ_ h8
         exact⟨A,c,by rw[h];simp[toBl]⟩
      obtain⟨A8,c8,rfl⟩:=e8
      have y2':=hnI.x2
      rw[lX_ HI.out hm]
      have hne:(((B v).given.length:Int) != ((B v).given.length:Int))=false:=by simp
      clear hrv e7 e1 hnI a0 a1 a2 a3 a4 a5 a6 a7 a9 a10
      go_wp2
      go_roundg (i-(v+1))
      case measure=>have:=HV.out;omega
      case rel=>exact⟨v+1,rfl,by have:=HV.out;omega,HBi.out⟩
   ·have hvz:¬(v:Int)<(k:Int):=by have:=HV.out;omega
    clear HNr
    go_wp2_with (go_at_call 8
                 refine(vO_ (g:=g) (fun b hb=>zzk_ (HLT2.out b hb) HBr.out.size)).mono ?_
                 rintro e w3 ⟨rfl,hb3⟩
                 have HB3:=Lib.hid ((HB2.out.trans (Below.mono1 HBr.out HB2.out.size)).trans (Below.mono1 hb3 (by have:=HB2.out.size;have:=HBr.out.size;omega)))
                 clear hb3)
    all_goals go_wp2
    all_goals go_ret
    all_goals exact HF.out _ HB3.out
 ·go_enter Try.func4,Try.ntmps4
  go_wp2_with (first
   | (go_at_call 7
      refine H0.out.mono ?_
      rintro e w1 ⟨rfl,hb1⟩
      have hlt1:∀k,0<g.I k→k<w1.heap.size:=fun k hk=>zzk_ (hlt k hk) hb1.size
      have HB1:=Lib.hid hb1
      have HLT:=Lib.hid hlt1
      clear hb1 hlt1)
   | (go_at_call 8
      refine(vO_ HLT.out).mono ?_
      rintro e w3 ⟨rfl,hb3⟩
      have HB3:=Lib.hid (HB1.out.trans (Below.mono1 hb3 HB1.out.size))
      clear hb3))
  all_goals go_wp2
  all_goals go_ret
  all_goals exact HF.out _ HB3.out
end Go.Proofs.Ytpfjlnmnolbiaaa
namespace Go.Proofs.Ytpfjlnmnolbiaaa
open Go.RowKit
structure Rd(w:World)(g:Gh)(cs:List Value)(xs:List V):Prop where
 len:xs.length=cs.length
 rep:∀(j:Nat) (x:V) (c:Value),xs[j]?=some x→cs[j]?=some c→Rep (allG w g) w x c∧immC x=true∧c.oneCell'=true
def wM_(P:Program)(e:TypeId)(xs:List V):V:=if aggT P e=some true then .agg xs else xs.headD .no
def Shape(P:Program):Nat→TypeId→List V→Prop
 |0,_,_=>False
 | f + 1, t, xs =>
   match P.underlying t with
   |some .bool=>∃b,xs=[.s (.bool b)]
   |some (.int k)=>∃n,(Lit.int k n).wf=true∧xs=[.s (.int k n)]
   |some .string=>∃s:ByteArray,s.size≤maxLen∧xs=[.s (.string s)]
   |some (.slice e)=>∃els:List (List V),xs=[.list (P.cellsOf e) (els.map (wM_ P e))]∧els.length≤maxLen∧∀el∈els,Shape P f e el
   |some (.struct fs)=>∃parts:List (List V),xs=parts.flatten∧parts.length=fs.size∧∀(i:Nat) (fl:Field) (p:List V),fs[i]?=some fl→parts[i]?=some p→Shape P f fl.type p
   |_=>False
def rE_(P:Program):List Field→Nat→Bool
 |[],_=>true
 |f::r,off=>decide (f.offset=off)&&rE_ P r (off+P.cellsOf f.type)
def w8_(P:Program):List Field→Nat
 |[]=>0
 |f::r=>P.cellsOf f.type+w8_ P r
def okTy(P:Program):Nat→TypeId→Bool
 |0,_=>false
 | f + 1, t =>
   match P.underlying t with
   |some .bool|some (.int _)|some .string=>Nat.beq (P.cellsOf t) 1
   |some (.slice e)=>Nat.beq (P.cellsOf t) 1&&okTy P f e&&((match aggT P e with|some true=>true|some false=>Nat.beq (P.cellsOf e) 1|none=>false))
   |some (.struct fs)=>rE_ P fs.toList 0&&Nat.beq (w8_ P fs.toList) (P.cellsOf t)&&fs.all fun fl=>okTy P f fl.type
   |_=>false
section
variable{H:Type}{enc:TypeId×Value→H}{P:Program}{w:World}{g:Gh}{base:Nat}{sp:Nat→Bool}{held:Bool}
theorem tY_:∀(fs:List Field) (off:Nat) (cs:List Value) (parts:List (List V)),rE_ P fs off=true→off+w8_ P fs=cs.length→parts.length=fs.length →
 (∀(i:Nat) (fl:Field) (p:List V),fs[i]?=some fl→parts[i]?=some p→Rd w g ((cs.drop fl.offset).take (P.cellsOf fl.type)) p)→Rd w g (cs.drop off) parts.flatten
 | [], off, cs, parts, hc, hl, hp, h => by
   have:parts=[]:=List.length_eq_zero_iff.1 hp
   subst this
   simp only[w8_,Nat.add_zero]at hl
   rw[List.drop_of_length_le (by omega)]
   exact⟨rfl,fun j x c hx=>by simp at hx⟩
 |f::r,off,cs,[],hc,hl,hp,h=>by simp at hp
 | f :: r, off, cs, p :: ps, hc, hl, hp, h => by
   simp only[rE_,zzg_,zzp_]at hc
   simp only[w8_]at hl
   have h0:=h 0 f p rfl rfl
   have ih:=tY_ r (off+P.cellsOf f.type) cs ps hc.2 (by omega) (by simpa using hp) (fun i fl q hi hq=>h (i+1) fl q (by simpa using hi) (by simpa using hq))
   rw[hc.1]at h0
   have hp0:p.length=P.cellsOf f.type:=by rw[h0.len];simp;omega
   refine⟨?_,fun j x c hx hcj=>?_⟩
   ·have:=ih.len
    simp only[List.flatten_cons,zzr_,List.length_drop]at this ⊢
    omega
   ·simp only[List.flatten_cons,List.getElem?_append]at hx
    split at hx
    ·next hj =>
     refine h0.rep j x c hx ?_
     rw[zzu_,if_pos (by omega)]
     exact hcj
    ·next hj =>
     refine ih.rep (j-p.length) x c hx ?_
     rw[zzA_]at hcj ⊢
     rw[←hcj]
     congr 1
     omega
theorem p7_{c:Value}(h:c.oneCell'=true):Rd w g [c] [.s c]:=⟨rfl,fun j x c' hx hc=>by
 cases j with
 |zero=>simp at hx hc;subst hx hc;exact⟨.s h,rfl,h⟩
 |succ j=>simp at hx⟩
theorem w3_{α:Type}{Q:Nat→α→Prop}:∀(n:Nat),(∀i,i<n→∃a,Q i a)→∃l:List α,l.length=n∧∀(i:Nat) (a:α),l[i]?=some a→Q i a
 |0,_=>⟨[],rfl,by simp⟩
 | n + 1, h => by
   obtain⟨l,h1,h2⟩:=w3_ n (fun i hi=>h i (by omega))
   obtain⟨a,ha⟩:=h n (by omega)
   refine⟨l++[a],by simp[h1],fun i b hi=>?_⟩
   rw[List.getElem?_append]at hi
   split at hi
   ·exact h2 i b hi
   ·have:i=n:=by
     have:=(zzc_.1 hi).1
     simp at this
     omega
    subst this
    rw[h1]at hi
    simp at hi
    subst hi
    exact ha
theorem uy_:∀(dep:Nat) (t:TypeId),okTy P dep t=true→∀(fuel:Nat) (cs:List Value) (x:DataW H×List MemPlace),DataW.trod enc P w base sp held fuel t cs=some x→∃xs,Rd w g cs xs∧Shape P dep t xs∧cs.length=P.cellsOf t
 |0,t,h=>by simp[okTy]at h
 | dep + 1, t, hok => fun fuel cs x h => by
   unfold okTy at hok
   unfold Shape
   cases hu:P.underlying t with
   |none=>rw[hu]at hok;simp at hok
   | some td =>
     rw[hu]at hok
     cases td with
     | bool =>
       have h1:=Nat.eq_of_beq_eq_true hok
       obtain⟨b,rfl⟩:∃b,cs=[.bool b]:=by
        cases fuel with
        |zero=>simp[DataW.trod]at h
        | succ n =>
          unfold DataW.trod at h
          rw[hu]at h
          split at h<;>simp_all
       exact⟨[.s (.bool b)],p7_ rfl,⟨b,rfl⟩,by simp[h1]⟩
     | int k =>
       have h1:=Nat.eq_of_beq_eq_true hok
       obtain⟨n,hn,rfl⟩:∃n,(Lit.int k n).wf=true∧cs=[.int k n]:=by
        cases fuel with
        |zero=>simp[DataW.trod]at h
        | succ n =>
          unfold DataW.trod at h
          rw[hu]at h
          split at h<;>simp_all
       exact⟨[.s (.int k n)],p7_ rfl,⟨n,hn,rfl⟩,by simp[h1]⟩
     | string =>
       have h1:=Nat.eq_of_beq_eq_true hok
       obtain⟨s,hs,rfl⟩:∃s:ByteArray,s.size≤maxLen∧cs=[.string s]:=by
        cases fuel with
        |zero=>simp[DataW.trod]at h
        | succ n =>
          unfold DataW.trod at h
          rw[hu]at h
          split at h<;>simp_all
       exact⟨[.s (.string s)],p7_ rfl,⟨s,hs,rfl⟩,by simp[h1]⟩
     | slice e =>
       simp only[zzg_]at hok
       obtain⟨⟨h1,h2⟩,h3⟩:=hok
       have h1:=Nat.eq_of_beq_eq_true h1
       simp only
       rcases DataW.trod_slice hu h with ⟨rfl,_⟩|⟨a,len,cap,elems,rest,n,rfl,rfl,rfl,hb,hl,hm,hel,hget,_,_⟩
       ·exact⟨[.list (P.cellsOf e) []],⟨rfl,fun j x c hx hc=>by
         cases j with
         | zero =>
           simp at hx hc
           subst hx hc
           exact⟨.list (fun _=>undef) (zzl_ _) (zzn_ _) (fun _=>rfl) (by simp) (by simp[flat]) (fun j hj=>by simp[flat]at hj) (fun j u hu=>by simp[flat]at hu),rfl,rfl⟩
         |succ j=>simp at hx⟩,⟨[],rfl,zzn_ _,by simp⟩,by simp[h1]⟩
       · -- the elements
         have hone:∀i,i<len→∃(cs':List Value) (xs:List V),w.cells? base (a.add (i*P.cellsOf e)) (P.cellsOf e)=some cs'∧Rd w g cs' xs∧Shape P dep e xs∧cs'.length=P.cellsOf e:=by
          intro i hi
          have:=hget i hi
          rw[zzf_ (by omega)]at this
          obtain⟨cs',k1,k2⟩:=zza_.1 this
          obtain⟨xs,k3,k4,k5⟩:=uy_ dep e h2 _ _ _ k2
          exact⟨cs',xs,k1,k3,k4,k5⟩
         obtain⟨els,e1,e2⟩:=w3_ (Q:=fun i xs=>∃cs':List Value,w.cells? base (a.add (i*P.cellsOf e)) (P.cellsOf e)=some cs'∧Rd w g cs' xs∧Shape P dep e xs∧cs'.length=P.cellsOf e) len (fun i hi=>by
          obtain⟨cs',xs,q⟩:=hone i hi
          exact⟨xs,cs',q⟩)
         have hlen:∀el∈els,el.length=P.cellsOf e:=fun el hel'=>by
          obtain⟨i,hi⟩:=List.mem_iff_getElem?.1 hel'
          obtain⟨cs',q1,q2,q3,q4⟩:=e2 i el hi
          rw[q2.len,q4]
         have hcells:∀el∈els,cellsOf (wM_ P e el)=el:=fun el hel'=>by
          have hl':=hlen el hel'
          unfold wM_
          cases hag:aggT P e with
          |none=>rw[hag]at h3;cases h3
          | some b =>
            cases b with
            |true=>simp[cellsOf]
            | false =>
              rw[hag]at h3
              have h3:=Nat.eq_of_beq_eq_true h3
              rw[h3]at hl'
              obtain⟨y,rfl⟩:=List.length_eq_one_iff.1 hl'
              obtain⟨i,hi⟩:=List.mem_iff_getElem?.1 hel'
              obtain⟨cs',q1,q2,q3,q4⟩:=e2 i [y] hi
              have hc0:∃c,cs'[0]?=some c:=⟨cs'[0]'(by omega),by simp[(by omega:0<cs'.length)]⟩
              obtain⟨c,hc⟩:=hc0
              have hi':=(q2.rep 0 y c rfl hc).2.1
              simp only[Option.some.injEq,Bool.false_eq_true,if_false,List.headD_cons]
              cases y<;>simp[immC]at hi'<;>rfl
         have hz:∀y∈els.map (wM_ P e),(cellsOf y).length=P.cellsOf e:=fun y hy=>by
          obtain⟨el,q1,rfl⟩:=List.mem_map.1 hy
          rw[hcells el q1,hlen el q1]
         have hfl:=zb_ hz
         rw[List.length_map,e1]at hfl
         -- one cell among all
         have hat:∀j,j<len*P.cellsOf e→∃(i o:Nat) (el:List V) (u:V) (c:Value),j=i*P.cellsOf e+o∧els[i]?=some el∧el[o]?=some u∧(flat (els.map (wM_ P e)))[j]?=some u∧w.cell? (a.add j)=some c∧Rep (allG w g) w u c∧immC u=true:=by
          intro j hj
          have hz0:0<P.cellsOf e:=by
           rcases Nat.eq_zero_or_pos (P.cellsOf e) with q|q
           ·rw[q]at hj;omega
           ·exact q
          have hi:j/P.cellsOf e<len:=(Nat.div_lt_iff_lt_mul hz0).2 hj
          have ho:j%P.cellsOf e<P.cellsOf e:=Nat.mod_lt _ hz0
          have hje:j=j/P.cellsOf e*P.cellsOf e+j%P.cellsOf e:=by rw[Nat.mul_comm];exact(Nat.div_add_mod _ _).symm
          have hel':els[j/P.cellsOf e]?=some (els[j/P.cellsOf e]'(by omega)):=zzf_ (by omega)
          generalize els[j/P.cellsOf e]'(by omega)=el at hel'
          obtain⟨cs',q1,q2,q3,q4⟩:=e2 _ el hel'
          have hm:=zzd_ hel'
          have hu:el[j%P.cellsOf e]?=some (el[j%P.cellsOf e]'(by rw[hlen el hm];exact ho)):=by simp
          generalize el[j%P.cellsOf e]'(by rw[hlen el hm];exact ho)=u at hu
          have hc:cs'[j%P.cellsOf e]?=some (cs'[j%P.cellsOf e]'(by rw[q4];exact ho)):=by simp
          generalize cs'[j%P.cellsOf e]'(by rw[q4];exact ho)=c at hc
          obtain⟨_,_,q5⟩:=World.cells?_some q1
          have q6:=q5 _ ho
          rw[Addr.add_add,←hje,hc]at q6
          obtain⟨r1,r2,_⟩:=q2.rep _ u c hu hc
          refine⟨_,_,el,u,c,hje,hel',hu,?_,q6,r1,r2⟩
          have hx:(els.map (wM_ P e))[j/P.cellsOf e]?=some (wM_ P e el):=by rw[zzs_,hel'];rfl
          have:=xR_ hz hx ho
          rw[hcells el hm,←hje]at this
          rw[this,hu]
         have hrd:Rep (allG w g) w (.list (P.cellsOf e) (els.map (wM_ P e))) (.slice (some a) (els.map (wM_ P e)).length cap):=by
          refine .list (fun j=>(w.cell? (a.add j)).getD undef) (by simp;omega) hm (fun q=>by cases q) hz (fun u hu=>?_) (fun j hj=>?_) (fun j u hu=>?_)
          ·obtain⟨j,hj⟩:=List.mem_iff_getElem?.1 hu
           have hjl:=(zzc_.1 hj).1
           obtain⟨_,_,_,u',c,_,_,_,q4,_,_,q7⟩:=hat j (by omega)
           rw[hj]at q4
           cases q4
           exact q7
          ·obtain⟨_,_,_,u',c,_,_,_,_,q5,_,_⟩:=hat j (by omega)
           have h0:∃c0,w.cell? (a.add 0)=some c0:=by
            obtain⟨_,_,_,_,c0,_,_,_,_,q,_,_⟩:=hat 0 (by omega)
            exact⟨c0,q⟩
           obtain⟨c0,h0⟩:=h0
           have ha:a=⟨a.block,a.off,none⟩:=by
            have e0:a.add 0=a:=by simp[Addr.add]
            rw[e0]at h0
            obtain⟨b,o,s⟩:=a
            cases s with
            |none=>rfl
            | some q =>
              unfold World.cell? at h0
              split at h0
              ·simp at h0
              ·cases h0
           have hadd:a.add j=⟨a.block,a.off+j,none⟩:=by rw[ha,addr_add]
           rw[hadd]at q5
           refine⟨a.block,a.off,congrArg some ha,ot_ q5,?_⟩
           rw[hadd,q5]
           rfl
          ·have hjl:=(zzc_.1 hu).1
           obtain⟨_,_,_,u',c,_,_,_,q4,q5,q6,_⟩:=hat j (by omega)
           rw[hu]at q4
           cases q4
           rw[q5]
           exact q6
         refine⟨[.list (P.cellsOf e) (els.map (wM_ P e))],⟨rfl,fun j x c hx hc=>?_⟩,⟨els,rfl,by omega,fun el hel'=>?_⟩,by simp[h1]⟩
         ·cases j with
          | zero =>
            simp only[List.getElem?_cons_zero,Option.some.injEq]at hx hc
            subst hx hc
            rw[List.length_map,e1]at hrd
            exact⟨hrd,rfl,rfl⟩
          |succ j=>simp at hx
         ·obtain⟨i,hi⟩:=List.mem_iff_getElem?.1 hel'
          obtain⟨_,_,_,q,_⟩:=e2 i el hi
          exact q
     | struct fs =>
       simp only[zzg_]at hok
       obtain⟨⟨h1,h2⟩,h3⟩:=hok
       have h2:=Nat.eq_of_beq_eq_true h2
       obtain⟨xs,n,rfl,rfl,k1,k2,k3⟩:=DataW.trod_struct hu h
       have hone:∀(i:Nat) (fl:Field),fs[i]?=some fl→∃p,Rd w g ((cs.drop fl.offset).take (P.cellsOf fl.type)) p∧Shape P dep fl.type p:=by
        intro i fl hi
        have hi':=(zzm_.1 hi).1
        have:=k3 i fl hi
        rw[zzf_ (by omega)]at this
        obtain⟨p,q1,q2,_⟩:=uy_ dep fl.type (by
         rw[Array.all_eq_true]at h3
         have:=h3 i hi'
         have e:fs[i]=fl:=by simpa[hi'] using hi
         rw[e]at this
         exact this) _ _ _ this
        exact⟨p,q1,q2⟩
       have hex:∃parts:List (List V),parts.length=fs.size∧∀(i:Nat) (fl:Field) (p:List V),fs[i]?=some fl→parts[i]?=some p→Rd w g ((cs.drop fl.offset).take (P.cellsOf fl.type)) p∧Shape P dep fl.type p:=by
        obtain⟨parts,e1,e2⟩:=w3_ (Q:=fun i p=>∀fl,fs[i]?=some fl→Rd w g ((cs.drop fl.offset).take (P.cellsOf fl.type)) p∧Shape P dep fl.type p) fs.size (fun i hi=>by
         obtain⟨p,hp⟩:=hone i fs[i] (by simp[hi])
         refine⟨p,fun fl hfl=>?_⟩
         have:fs[i]=fl:=by simpa[hi] using hfl
         rw[←this]
         exact hp)
        exact⟨parts,e1,fun i fl p hi hp=>e2 i p hp fl hi⟩
       obtain⟨parts,m1,m2⟩:=hex
       refine⟨parts.flatten,?_,⟨parts,rfl,m1,fun i fl p hi hp=>(m2 i fl p hi hp).2⟩,k1⟩
       have:=tY_ (w:=w) (g:=g) fs.toList 0 cs parts h1 (by omega) (by simpa using m1) (fun i fl p hi hp=>(m2 i fl p (by simpa using hi) hp).1)
       simpa using this
     |_=>simp at hok
end
end Go.Proofs.Ytpfjlnmnolbiaaa
namespace Go.Proofs.Ytpfjlnmnolbiaaa
open Go.RowKit Go.WideShapes
def g00:Gh:=⟨fun _=>0,fun _=>0⟩
def x2_(P:Program)(dep:Nat)(t:TypeId)(x:V):Prop :=
 match P.underlying t with
 |some (.struct _)=>∃xs,x=.agg xs∧Shape P dep t xs
 |_=>Shape P dep t [x]
section
variable{H:Type}{enc:TypeId×Value→H}{P:Program}{w:World}{base:Nat}{sp:Nat→Bool}{held:Bool}
theorem rM_{dep b2:Nat}{t:TypeId}{v:Value}{d:DataW H}{ps:List MemPlace}(hok:okTy P dep t=true)(hval:Value.okWide P w .any b2 t v)(htr:DataW.Trod enc P w base sp held t v d ps) :
 ∃x,Rep (allG w g00) w x v∧immA x=true∧x2_ P dep t x:=by
 obtain⟨fuel,h⟩:=htr
 obtain⟨xs,h1,h2,h3⟩:=uy_ (g:=g00) dep t hok _ _ _ h
 cases dep with
 |zero=>simp[okTy]at hok
 | succ dep =>
   have hone:(∀cs,v≠.agg cs)→v.cells.toList.length=1→∃x,xs=[x]∧Rep (allG w g00) w x v∧immC x=true:=by
    intro hna hl
    have hlx:xs.length=1:=by rw[h1.len,hl]
    obtain⟨x,rfl⟩:=List.length_eq_one_iff.1 hlx
    have hc:v.cells.toList[0]?=some v:=by cases v<;>first|rfl|exact absurd rfl (hna _)
    obtain⟨k1,k2,_⟩:=h1.rep 0 x v rfl hc
    exact⟨x,rfl,k1,k2⟩
   have hsc:∀td,P.underlying t=some td→(∀fs,td≠.struct fs)→(∀cs,v≠.agg cs)→∃x,Rep (allG w g00) w x v∧immA x=true∧x2_ P (dep+1) t x:=by
    intro td hu hns hna
    obtain⟨x,rfl,k1,k2⟩:=hone hna (by cases v<;>first|rfl|exact absurd rfl (hna _))
    refine⟨x,k1,by cases x<;>first|exact k2|(simp[immC]at k2),?_⟩
    unfold x2_
    rw[hu]
    cases td<;>first|exact absurd rfl (hns _)|exact h2
   cases hu:P.underlying t with
   |none=>unfold okTy at hok;rw[hu]at hok;simp at hok
   | some td =>
     cases td with
     |bool=>obtain⟨b,rfl⟩:=okWide_bool hu hval;exact hsc _ hu (by simp) (by simp)
     |int k=>obtain⟨n,rfl⟩:=okWide_int hu hval;exact hsc _ hu (by simp) (by simp)
     |string=>obtain⟨s,rfl⟩:=okWide_string hu hval;exact hsc _ hu (by simp) (by simp)
     |slice e=>obtain⟨a,l,c,rfl⟩:=okWide_slice hu hval;exact hsc _ hu (by simp) (by simp)
     | struct fs =>
       obtain⟨cs,rfl,hsz⟩:=okWide_struct hu hval
       have hcells:(Value.agg cs).cells.toList=cs.toList:=rfl
       rw[hcells]at h1
       refine⟨.agg xs,.agg (by simpa using h1.len) (fun c hc=>?_) (fun j u c hu' hc=>(h1.rep j u c hu' (by simpa using hc)).1),?_,?_⟩
       ·obtain⟨j,hj⟩:=List.mem_iff_getElem?.1 hc
        have hjl:j<xs.length:=by rw[h1.len];exact(zzc_.1 hj).1
        exact(h1.rep j _ c (zzf_ hjl) hj).2.2
       ·simp only[immA,zzh_]
        intro u hu'
        obtain⟨j,hj⟩:=List.mem_iff_getElem?.1 hu'
        have hjl:j<cs.toList.length:=by rw[←h1.len];exact(zzc_.1 hj).1
        exact(h1.rep j u _ hj (zzf_ hjl)).2.1
       ·unfold x2_
        rw[hu]
        exact⟨xs,rfl,h2⟩
     |_=>unfold okTy at hok;rw[hu]at hok;simp at hok
theorem pL_{f:FuncId}{args:List V}{vals:Array Value}(hpc:PC P f args (fun r=>r=.s (.bool true)))(hl:args.length=vals.size)(hr:∀(i:Nat) (x:V) (v:Value),args[i]?=some x→vals[i]?=some v→Rep (allG w g00) w x v∧immA x=true) :
 Calls P f vals w fun e w'=>e=.returned (.bool true)∧Below w.heap.size w w':=by
 have himm:∀x∈args,immA x=true:=by
  intro x hx
  obtain⟨i,hi⟩:=List.mem_iff_getElem?.1 hx
  have hil:i<vals.size:=by rw[←hl];exact(zzc_.1 hi).1
  exact(hr i x vals[i] hi (by simp[hil])).2
 obtain⟨hbd,hno⟩:=up_ (g:=allG w g00) (w:=w) hl himm (fun i x v h1 h2=>(hr i x v h1 h2).1) (fun k hk=>by
  simp only[allG,g00]at hk
  split at hk
  ·next hk'=>exact(zzm_.1 hk').1
  ·simp at hk)
 refine(hpc _ w _ hbd).mono ?_
 rintro e w' ⟨v,r,bs',g',rfl,⟨rfl,rfl⟩,_,hb,hex⟩
 have hrep:=hb.rep (.l (.var 0)) _ v ⟨rfl,by simp[z4_,Frn,Act.tv]⟩
 cases hrep
 exact⟨rfl,hex.os,hex.tape,hex.output,hex.size,fun k hk=>(hex.same k hk (hno k)).1⟩
end
end Go.Proofs.Ytpfjlnmnolbiaaa
namespace Go.Proofs.Ytpfjlnmnolbiaaa
open Go.RowKit Go.Proofs
set_option maxRecDepth 100000 in
theorem qT_{dep:Nat}{el:List V}(h:Shape Try.prog (dep+1) 3 el):∃n:Int,el=[.s (.int .i64 n)]:=by
 unfold Shape at h
 rw[Try.underlying3]at h
 obtain⟨n,_,hn⟩:=h
 exact⟨n,by simpa using hn⟩
set_option maxRecDepth 100000 in
theorem nS_{α:Type}{dep:Nat}{t:TypeId}{f:α→V}(hf:∀el,Shape Try.prog dep t el→∃a,wM_ Try.prog t el=f a):∀(els:List (List V)),(∀el∈els,Shape Try.prog dep t el)→∃m:List α,els.map (wM_ Try.prog t)=m.map f
 |[],_=>⟨[],rfl⟩
 | x :: r, h => by
   obtain⟨m,hm⟩:=nS_ hf r (fun el hel=>h el (by simp[hel]))
   obtain⟨a,ha⟩:=hf x (h x (by simp))
   exact⟨a::m,by rw[List.map_cons,hm,ha];rfl⟩
set_option maxRecDepth 100000 in
theorem oI_{dep:Nat}{el:List V}(h:Shape Try.prog (dep+2) 22 el):∃l:List Int,el=[.list 1 (iv l)]:=by
 unfold Shape at h
 rw[Try.underlying22]at h
 obtain⟨els,hx,_,hb⟩:=h
 have e1:Try.prog.cellsOf 3=1:=by kernel_rfl
 have e2:aggT Try.prog 3=some false:=by kernel_rfl
 rw[e1]at hx
 obtain⟨m,hm⟩:=nS_ (f:=fun n:Int=>V.s (.int .i64 n)) (fun el hel=>by
  obtain⟨n,rfl⟩:=qT_ hel
  exact⟨n,by simp[wM_,e2]⟩) els hb
 rw[hm]at hx
 exact⟨m,hx⟩
set_option maxRecDepth 100000 in
theorem k4_{dep:Nat}{x:V}(h:x2_ Try.prog (dep+1) 3 x):∃n:Int,x=.s (.int .i64 n):=by
 unfold x2_ at h
 rw[Try.underlying3]at h
 simp only at h
 obtain⟨n,hn⟩:=qT_ h
 exact⟨n,by simpa using hn⟩
set_option maxRecDepth 100000 in
theorem mM_{dep:Nat}{x:V}(h:x2_ Try.prog (dep+2) 22 x):∃l:List Int,x=.list 1 (iv l):=by
 unfold x2_ at h
 rw[Try.underlying22]at h
 simp only at h
 obtain⟨l,hl⟩:=oI_ h
 exact⟨l,by simpa using hl⟩
end Go.Proofs.Ytpfjlnmnolbiaaa
