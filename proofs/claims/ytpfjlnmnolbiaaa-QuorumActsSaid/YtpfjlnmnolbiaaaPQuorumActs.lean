/- The law QuorumActs holds: for every input it returns true, and each argument reads behind the call as it read before. -/
import Derived.Test.YtpfjlnmnolbiaaaRows
import Derived.Test.YtpfjlnmnolbiaaaZH
import Derived.WalkKit
import Derived.ProofKit
import Derived.OpenShut
import Derived.ShutString
import Derived.ChangeOld
import Derived.Below
import Derived.SizedLaws
set_option linter.unusedVariables false
set_option maxHeartbeats 64000000
set_option maxRecDepth 100000
set_option linter.unusedSimpArgs false
namespace Go.Proofs.Ytpfjlnmnolbiaaa.quorumActs
open Go.ChangeShapes Go.WideShapes Go.ChangeAt Go.RowKit
set_option linter.unusedVariables false
theorem own:ownKnob Try.prog.godebug=none:=by kernel_rfl
theorem laidOut:laidOutB Try.prog=true:=by kernel_rfl
theorem lifted(os:Os)(started:os.Started)(H:Type)(enc:TypeId×Value->H) :
 ReturnsInHanded {} Try.checked os 5 .any (Rows.quorumActsSpec.pre6 enc Try.prog Try.f5 Rows.quorumActsRow.domain false) (Rows.quorumActsSpec.post enc Try.prog Try.f5 false true false false):=by
 refine returnsInHanded_of_change_sized (C:=Try.checked) own started (by kernel_rfl) Try.func5
  (ChangeSpec.witness6 (enc:=enc) (C:=Try.checked) false ⟨#[],#[.agg #[.int .i64 0,.int .i64 0,.int .i64 0,.int .i64 0,.int .i64 0,.int .i64 0,.int .i64 0,.bool false,.slice none 0 0,.slice none 0 0,.bool false],.agg #[.int .i64 0,.slice none 0 0],.int .i64 0,.int .i64 0,.int .i64 0,.agg #[.int .i64 0,.int .i64 0,.int .i64 0,.int .i64 0],.slice none 0 0,.int .i64 0],[]⟩ 8 (by kernel_rfl) (by kernel_rfl) (by kernel_rfl) (by kernel_rfl)) ?_
 intro W base args ds gs before hval0 hW hcnd hsz0 _
 have hval:∀(j:Nat) t v,Try.f5.params[j]?=some t->args[j]?=some v->Value.okWide Try.prog W .any base t v:=hval0
 have hW':=hW
 obtain⟨p,q,hA0,hV,rfl,hfz,hnd⟩:=hW
 have hA:DataW.TrodAll enc Try.prog W 0 (fun _=>true) true Try.f5.params.toList args.toList ds p:=hA0
 rw[Try.params5]at hA hval
 obtain⟨v0,vs0,d0,ds0,p0,q0,hargs,rfl,rfl,h0,r0⟩:=trodAll_cons hA
 obtain⟨v1,vs1,d1,ds1,p1,q1,rfl,rfl,rfl,h1,r1⟩:=trodAll_cons r0
 obtain⟨v2,vs2,d2,ds2,p2,q2,rfl,rfl,rfl,h2,r2⟩:=trodAll_cons r1
 obtain⟨v3,vs3,d3,ds3,p3,q3,rfl,rfl,rfl,h3,r3⟩:=trodAll_cons r2
 obtain⟨v4,vs4,d4,ds4,p4,q4,rfl,rfl,rfl,h4,r4⟩:=trodAll_cons r3
 obtain⟨v5,vs5,d5,ds5,p5,q5,rfl,rfl,rfl,h5,r5⟩:=trodAll_cons r4
 obtain⟨v6,vs6,d6,ds6,p6,q6,rfl,rfl,rfl,h6,r6⟩:=trodAll_cons r5
 obtain⟨v7,vs7,d7,ds7,p7,q7,rfl,rfl,rfl,h7,r7⟩:=trodAll_cons r6
 obtain⟨rfl,rfl,rfl⟩:=trodAll_nil r7
 obtain rfl:args=#[v0,v1,v2,v3,v4,v5,v6,v7]:=by cases args;simp_all
 obtain⟨rfl,rfl⟩:=trodVars_none hV
 have lt0:∀x∈p0,x.block<W.heap.size:=by obtain⟨m,hm⟩:=h0;exact DataW.trod_lt m _ _ _ hm
 obtain⟨x0,rep0,imm0,sh0⟩:=x7_ (dep:=6) (by kernel_rfl) (hval 0 39 v0 rfl rfl) h0
 have lt1:∀x∈p1,x.block<W.heap.size:=by obtain⟨m,hm⟩:=h1;exact DataW.trod_lt m _ _ _ hm
 obtain⟨x1,rep1,imm1,sh1⟩:=x7_ (dep:=6) (by kernel_rfl) (hval 1 29 v1 rfl rfl) h1
 have lt2:∀x∈p2,x.block<W.heap.size:=by obtain⟨m,hm⟩:=h2;exact DataW.trod_lt m _ _ _ hm
 obtain⟨x2,rep2,imm2,sh2⟩:=x7_ (dep:=6) (by kernel_rfl) (hval 2 3 v2 rfl rfl) h2
 have lt3:∀x∈p3,x.block<W.heap.size:=by obtain⟨m,hm⟩:=h3;exact DataW.trod_lt m _ _ _ hm
 obtain⟨x3,rep3,imm3,sh3⟩:=x7_ (dep:=6) (by kernel_rfl) (hval 3 3 v3 rfl rfl) h3
 have lt4:∀x∈p4,x.block<W.heap.size:=by obtain⟨m,hm⟩:=h4;exact DataW.trod_lt m _ _ _ hm
 obtain⟨x4,rep4,imm4,sh4⟩:=x7_ (dep:=6) (by kernel_rfl) (hval 4 3 v4 rfl rfl) h4
 have lt5:∀x∈p5,x.block<W.heap.size:=by obtain⟨m,hm⟩:=h5;exact DataW.trod_lt m _ _ _ hm
 obtain⟨x5,rep5,imm5,sh5⟩:=x7_ (dep:=6) (by kernel_rfl) (hval 5 46 v5 rfl rfl) h5
 have lt6:∀x∈p6,x.block<W.heap.size:=by obtain⟨m,hm⟩:=h6;exact DataW.trod_lt m _ _ _ hm
 obtain⟨x6,rep6,imm6,sh6⟩:=x7_ (dep:=6) (by kernel_rfl) (hval 6 22 v6 rfl rfl) h6
 have lt7:∀x∈p7,x.block<W.heap.size:=by obtain⟨m,hm⟩:=h7;exact DataW.trod_lt m _ _ _ hm
 obtain⟨x7,rep7,imm7,sh7⟩:=x7_ (dep:=6) (by kernel_rfl) (hval 7 3 v7 rfl rfl) h7
 clear hA0 hval0 hsz0
 -- SHAPES
 have hpc:PC Try.prog 5 [x0,x1,x2,x3,x4,x5,x6,x7] (fun r=>r=.s (.bool true)):=by
  obtain⟨b,⟨h1,h2,h3⟩,rfl⟩:=pT_ (dep:=2) sh0
  obtain⟨n0,q0,rfl⟩:=jI_ (dep:=3) sh1
  obtain⟨site,rfl⟩:=rS_ (dep:=5) sh2
  obtain⟨f,rfl⟩:=rS_ (dep:=5) sh3
  obtain⟨x,rfl⟩:=rS_ (dep:=5) sh4
  obtain⟨m,rfl⟩:=kb_ (dep:=3) sh5
  obtain⟨l,rfl⟩:=kc_ (dep:=4) sh6
  obtain⟨n,rfl⟩:=rS_ (dep:=5) sh7
  exact tA_ b n0 q0 site f x m l n ⟨h1,h2,h3⟩
 refine(oP_ (w:=W) hpc rfl (fun i x v hx hv=>?_)).mono fun e W' ⟨he,bel⟩=>?_
 .match i,hx,hv with
  |0,hx,hv=>simp at hx hv;subst hx hv;exact⟨rep0,imm0⟩
  |1,hx,hv=>simp at hx hv;subst hx hv;exact⟨rep1,imm1⟩
  |2,hx,hv=>simp at hx hv;subst hx hv;exact⟨rep2,imm2⟩
  |3,hx,hv=>simp at hx hv;subst hx hv;exact⟨rep3,imm3⟩
  |4,hx,hv=>simp at hx hv;subst hx hv;exact⟨rep4,imm4⟩
  |5,hx,hv=>simp at hx hv;subst hx hv;exact⟨rep5,imm5⟩
  |6,hx,hv=>simp at hx hv;subst hx hv;exact⟨rep6,imm6⟩
  |7,hx,hv=>simp at hx hv;subst hx hv;exact⟨rep7,imm7⟩
  |k+8,hx,hv=>simp at hx
 subst he
 exact⟨_,rfl,_,_,_,[],_,[],hW',trodAll_mk1 (shut_bool Try.underlying4 _),(trodAll_cons_mk (Below.trod laidOut (by kernel_rfl) (of_decide_eq_true (by kernel_rfl)) h0 bel lt0) (trodAll_cons_mk (Below.trod laidOut (by kernel_rfl) (of_decide_eq_true (by kernel_rfl)) h1 bel lt1) (trodAll_cons_mk (Below.trod laidOut (by kernel_rfl) (of_decide_eq_true (by kernel_rfl)) h2 bel lt2) (trodAll_cons_mk (Below.trod laidOut (by kernel_rfl) (of_decide_eq_true (by kernel_rfl)) h3 bel lt3) (trodAll_cons_mk (Below.trod laidOut (by kernel_rfl) (of_decide_eq_true (by kernel_rfl)) h4 bel lt4) (trodAll_cons_mk (Below.trod laidOut (by kernel_rfl) (of_decide_eq_true (by kernel_rfl)) h5 bel lt5) (trodAll_cons_mk (Below.trod laidOut (by kernel_rfl) (of_decide_eq_true (by kernel_rfl)) h6 bel lt6) (trodAll_cons_mk (Below.trod laidOut (by kernel_rfl) (of_decide_eq_true (by kernel_rfl)) h7 bel lt7) trodAll_mk0)))))))),rfl,bel.frame _,fun h=>by cases h⟩
theorem proved:Rows.QuorumActsSaid :=
 OpenClaim.holds_of_wide 5 Try.f5 rfl rfl rfl rfl rfl rfl rfl ⟨rfl,rfl,rfl,rfl,rfl⟩ rfl rfl rfl rfl rfl (by kernel_rfl) Try.func5 (by kernel_rfl)
  (of_decide_eq_true (by kernel_rfl)) (by unfold Func.isWrapper;first|(rw[if_pos (by decide +kernel)];kernel_rfl)|(rw[if_neg (by decide +kernel)];exact⟨rfl,rfl⟩))
  (fun os started H enc _=>lifted os started H enc)
end Go.Proofs.Ytpfjlnmnolbiaaa.quorumActs
