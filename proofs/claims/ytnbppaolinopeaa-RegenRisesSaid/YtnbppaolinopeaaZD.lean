/- Parts of the proof of a law of chapter 30, put behind one another. -/
import Derived.Test.YtnbppaolinopeaaZC
import Derived.Tactics
import Derived.IntWalk
import Derived.Test.YtnbppaolinopeaaProg
import Derived.WalkKit
import Derived.Below
import Derived.OwnWalk
import Derived.Laws.NewBlocks
import Derived.WalkSpells
import Derived.WalkLawsBesides
import Derived.WalkSmall
import Derived.Lib.Hide
import Derived.Deep.DeepMust
import Derived.BigQuiet
import Derived.Deep.QuietTactic
import Derived.Deep.RegionHeld3
import Derived.RegionTactic
import Derived.Laws.EntriesVeiled
import Derived.Test.YtnbppaolinopeaaZB
set_option linter.unusedVariables false
set_option maxHeartbeats 64000000
set_option maxRecDepth 100000
set_option linter.unusedSimpArgs false
namespace Go.Proofs.Ytnbppaolinopeaa
open Go.RowKit Go.Proofs
section
def ob{α:Type}(o:Option α)(K:α->Prop):Prop:=match o with
 |some x=>K x
 |none=>False
@[simp] theorem ob_some {α:Type} (x:α) (K:α->Prop):ob (some x) K=K x:=rfl
@[simp] theorem ob_none {α:Type} (K:α->Prop):ob none K=False:=rfl
section
variable{P:Program}{F:Fr}{n:Nat}
@[simp] theorem upd_at (f:Nat->V) (d:Nat) (x:V) (t:Nat):upd f d x t=if t=d then x else f t:=rfl
@[simp] theorem W_skip (S:St) (Q:AX->St->Prop):W P F n .skip S Q=Q .normal S:=rfl
@[simp] theorem W_exit (id:Nat) (S:St) (Q:AX->St->Prop):W P F n (.exit id) S Q=Q (.exit id) S:=rfl
@[simp] theorem W_ret (S:St) (Q:AX->St->Prop):W P F n .ret S Q=Q .ret S:=rfl
def sq(P:Program)(F:Fr)(n:Nat)(y:ACode)(Q:AX->St->Prop):AX->St->Prop:=fun e S=>match e with
 |.normal=>W P F n y S Q
 |e=>Q e S
def bq(id:Nat)(Q:AX->St->Prop):AX->St->Prop:=fun e S=>match e with
 |.exit id'=>if id'=id then Q .normal S else Q (.exit id') S
 |e=>Q e S
@[simp] theorem sq_normal (y:ACode) (Q:AX->St->Prop) (S:St):sq P F n y Q .normal S=W P F n y S Q:=rfl
@[simp] theorem sq_exit (y:ACode) (Q:AX->St->Prop) (S:St) (id:Nat):sq P F n y Q (.exit id) S=Q (.exit id) S:=rfl
@[simp] theorem sq_ret (y:ACode) (Q:AX->St->Prop) (S:St):sq P F n y Q .ret S=Q .ret S:=rfl
@[simp] theorem sq_goto (y:ACode) (Q:AX->St->Prop) (S:St) (l:Nat):sq P F n y Q (.goto l) S=Q (.goto l) S:=rfl
@[simp] theorem bq_goto (id:Nat) (Q:AX->St->Prop) (S:St) (l:Nat):bq id Q (.goto l) S=Q (.goto l) S:=rfl
@[simp] theorem W_label (l:Nat) (S:St) (Q:AX->St->Prop):W P F n (.label l) S Q=Q .normal S:=rfl
@[simp] theorem W_goto (l:Nat) (S:St) (Q:AX->St->Prop):W P F n (.goto l) S Q=Q (.goto l) S:=rfl
def ng(Q:AX->St->Prop):AX->St->Prop:=fun e S=>match e with
 |.goto _=>False
 |e=>Q e S
@[simp] theorem ng_normal (Q:AX->St->Prop) (S:St):ng Q .normal S=Q .normal S:=rfl
@[simp] theorem ng_exit (Q:AX->St->Prop) (S:St) (id:Nat):ng Q (.exit id) S=Q (.exit id) S:=rfl
@[simp] theorem ng_ret (Q:AX->St->Prop) (S:St):ng Q .ret S=Q .ret S:=rfl
def jq(P:Program)(F:Fr)(n:Nat)(l:Nat)(r:ACode)(Q:AX->St->Prop):AX->St->Prop:=fun e S=>match e with
 |.goto l'=>l'=l/\W P F n r S (ng Q)
 |e=>Q e S
@[simp] theorem jq_normal (l:Nat) (r:ACode) (Q:AX->St->Prop) (S:St):jq P F n l r Q .normal S=Q .normal S:=rfl
@[simp] theorem jq_exit (l:Nat) (r:ACode) (Q:AX->St->Prop) (S:St) (id:Nat):jq P F n l r Q (.exit id) S=Q (.exit id) S:=rfl
@[simp] theorem jq_ret (l:Nat) (r:ACode) (Q:AX->St->Prop) (S:St):jq P F n l r Q .ret S=Q .ret S:=rfl
@[simp] theorem jq_goto (l l':Nat) (r:ACode) (Q:AX->St->Prop) (S:St):jq P F n l r Q (.goto l') S=(l'=l/\W P F n r S (ng Q)):=rfl
@[simp] theorem W_scope (l:Nat) (c r:ACode) (S:St) (Q:AX->St->Prop):W P F n (.scope l c r) S Q=W P F n c S (jq P F n l r Q):=rfl
@[simp] theorem bq_normal (id:Nat) (Q:AX->St->Prop) (S:St):bq id Q .normal S=Q .normal S:=rfl
@[simp] theorem bq_exit (id:Nat) (Q:AX->St->Prop) (S:St) (id':Nat):bq id Q (.exit id') S=if id'=id then Q .normal S else Q (.exit id') S:=rfl
@[simp] theorem bq_ret (id:Nat) (Q:AX->St->Prop) (S:St):bq id Q .ret S=Q .ret S:=rfl
@[simp] theorem W_seq (x y : ACode) (S : St) (Q : AX → St → Prop) : W P F n (.seq x y) S Q = W P F n x S (sq P F n y Q) := by
  simp only[W]
  congr 1
def cd(P:Program)(F:Fr)(n:Nat)(c:V)(x y:ACode)(S:St)(Q:AX->St->Prop):Prop:=match c with
 |.s (.bool b)=>if b then W P F n x S Q else W P F n y S Q
 |_=>False
@[simp] theorem W_cond (c:Opd) (x y:ACode) (S:St) (Q:AX->St->Prop):W P F n (.cond c x y) S Q=cd P F n (z7_ S c) x y S Q:=rfl
@[simp] theorem cd_true (x y:ACode) (S:St) (Q:AX->St->Prop):cd P F n (.s (.bool true)) x y S Q=W P F n x S Q:=rfl
@[simp] theorem cd_false (x y:ACode) (S:St) (Q:AX->St->Prop):cd P F n (.s (.bool false)) x y S Q=W P F n y S Q:=rfl
@[simp] theorem W_block (id : Nat) (c : ACode) (S : St) (Q : AX → St → Prop) : W P F n (.block id c) S Q = W P F n c S (bq id Q) := by
  simp only[W]
  congr 1
def wrk(P:Program)(ops:List AOper)(K:St->Prop):St->Prop:=fun S=>WR P ops S K
@[simp] theorem wrk_at (ops:List AOper) (K:St->Prop) (S:St):wrk P ops K S=WR P ops S K:=rfl
@[simp] theorem W_reg (id : Nat) (pre : List Ghost) (ops : List AOper) (an : Ann) (S : St) (Q : AX → St → Prop) : W P F n (.reg id pre ops none an) S Q = (pre.all (xK_ F) = true ∧ ob (xY_ pre S) (wrk P ops (Q .normal))) := by
  simp only[W]
  cases xY_ pre S<;>rfl
def WGD(P:Program)(ac:Bool)(o:AOper)(S:St)(K:St->Prop):Prop:=∃S',DG P ac o S S'/\K S'
def wdk(P:Program)(A:Ann)(k:Nat)(ops:List AOper)(K:St->Prop):St->Prop:=fun S=>WDR P A K k ops S
@[simp] theorem wdk_at (A:Ann) (k:Nat) (ops:List AOper) (K:St->Prop) (S:St):wdk P A k ops K S=WDR P A K k ops S:=rfl
def WNM(P:Program)(ops:List AOper)(es:List (List Nat))(S:St)(K:St->Prop):Prop:=WN P ops es ops.length [] S K
def wdm(P:Program)(A:Ann)(es:List (List Nat))(ops:List AOper)(K:St->Prop):St->Prop:=fun S=>if A.acs=[1000000] then WNM P ops es S K else WDR P A K 0 ops S
@[simp] theorem wdm_at (sh lf acs:List Nat) (ap:List (Nat×Nat×Nat)) (es:List (List Nat)) (ops:List AOper) (K:St->Prop) (S:St):wdm P ⟨sh,lf,acs,ap⟩ es ops K S=if acs=[1000000] then WNM P ops es S K else WDR P ⟨sh,lf,acs,ap⟩ K 0 ops S:=rfl
@[simp] theorem W_regd (id : Nat) (pre : List Ghost) (ops : List AOper) (es : List (List Nat)) (an : Ann) (S : St) (Q : AX → St → Prop) : W P F n (.reg id pre ops (some es) an) S Q = (pre.all (xK_ F) = true ∧ ob (xY_ pre S) (wdm P an es ops (Q .normal))) := by
  simp only[W]
  cases xY_ pre S<;>rfl
@[simp] theorem WR_nil (S:St) (K:St->Prop):WR P [] S K=K S:=rfl
@[simp] theorem WR_cons (o:AOper) (r:List AOper) (S:St) (K:St->Prop):WR P (o::r) S K=WG P o S (wrk P r K):=rfl
@[simp] theorem WG_none (d:Dst) (op:AOp) (S:St) (K:St->Prop):WG P ⟨d,op,none⟩ S K=WO P ⟨d,op,none⟩ S K:=rfl
def gd(P:Program)(x:V)(want:Bool)(d:Nat)(op:AOp)(S:St)(K:St->Prop):Prop:=match gB x want with
 |some true=>WO P ⟨.t d,op,none⟩ S K
 |some false=>K { S with tm:=upd S.tm d (.tup []) }
 |none=>False
@[simp] theorem WG_some (d:Nat) (op:AOp) (t:Nat) (want:Bool) (S:St) (K:St->Prop):WG P ⟨.t d,op,some (t,want)⟩ S K=gd P (S.tm t) want d op S K:=rfl
@[simp] theorem gd_tt (d:Nat) (op:AOp) (S:St) (K:St->Prop):gd P (.s (.bool true)) true d op S K=WO P ⟨.t d,op,none⟩ S K:=rfl
@[simp] theorem gd_ff (d:Nat) (op:AOp) (S:St) (K:St->Prop):gd P (.s (.bool false)) false d op S K=WO P ⟨.t d,op,none⟩ S K:=rfl
@[simp] theorem gd_tf (d:Nat) (op:AOp) (S:St) (K:St->Prop):gd P (.s (.bool true)) false d op S K=K { S with tm:=upd S.tm d (.tup []) }:=rfl
@[simp] theorem gd_ft (d:Nat) (op:AOp) (S:St) (K:St->Prop):gd P (.s (.bool false)) true d op S K=K { S with tm:=upd S.tm d (.tup []) }:=rfl
@[simp] theorem gd_no (want:Bool) (d:Nat) (op:AOp) (S:St) (K:St->Prop):gd P (.tup []) want d op S K=K { S with tm:=upd S.tm d (.tup []) }:=rfl
def obc(o:Option (Nat×List V))(K:Nat×List V->Prop):Prop:=match o with
 |some r=>K r
 |none=>False
def sS_:AOp->Bool
 |.call _ _|.isn _ _|.callv _ _=>true
 |_=>false
theorem zu_(d:Dst)(op:AOp)(gu:Option (Nat×Bool))(S:St)(K:St->Prop)(h:sS_ op=false):WO P ⟨d,op,gu⟩ S K=ob (step S d op) K:=by
 cases op<;>first|(simp[sS_]at h;done)|(simp only[WO];cases step S d _<;>rfl)
@[simp] theorem WO_isn (d : Nat) (ne : Bool) (x : Opd) (gu : Option (Nat × Bool)) (S : St) (K : St → Prop) : WO P ⟨.t d, .isn ne x, gu⟩ S K = obc (cont S (z7_ S x)) fun r => (r.2 ≠ [] → K { S with tm := upd S.tm d (.s (.bool ne)) }) ∧ (r.2 = [] → K { S with tm := upd S.tm d (.s (.bool true)) } ∧ K { S with tm := upd S.tm d (.s (.bool false)) }) := by
  simp only[WO]
  cases cont S (z7_ S x) with
  |none=>rfl
  | some r =>
    simp only[obc]
    refine propext ⟨fun h=>⟨fun hr=>h ne (fun _=>rfl),fun hr=>⟨h true (fun q=>absurd hr q),h false (fun q=>absurd hr q)⟩⟩,fun h b hb=>?_⟩
    by_cases hr:r.2=[]
    .cases b
     .exact(h.2 hr).2
     .exact(h.2 hr).1
    .rw[hb hr];exact h.1 hr
@[simp] theorem WO_ex (d:Dst) (k:Ex) (x y:Opd) (gu:Option (Nat×Bool)) (S:St) (K:St->Prop):WO P ⟨d,.ex k x y,gu⟩ S K=ob (step S d (.ex k x y)) K:=zu_ d _ gu S K rfl
@[simp] theorem WO_mv (d:Dst) (x:Opd) (gu:Option (Nat×Bool)) (S:St) (K:St->Prop):WO P ⟨d,.mv x,gu⟩ S K=ob (step S d (.mv x)) K:=zu_ d _ gu S K rfl
@[simp] theorem WO_asg (d:Dst) (x:Opd) (gu:Option (Nat×Bool)) (S:St) (K:St->Prop):WO P ⟨d,.asg x,gu⟩ S K=ob (step S d (.asg x)) K:=zu_ d _ gu S K rfl
@[simp] theorem WO_pick (d:Dst) (c:Opd) (a:Opd) (b:Opd) (gu:Option (Nat×Bool)) (S:St) (K:St->Prop):WO P ⟨d,.pick c a b,gu⟩ S K=ob (step S d (.pick c a b)) K:=zu_ d _ gu S K rfl
@[simp] theorem WO_bin (d:Dst) (o:BinOp) (x:Opd) (y:Opd) (gu:Option (Nat×Bool)) (S:St) (K:St->Prop):WO P ⟨d,.bin o x y,gu⟩ S K=ob (step S d (.bin o x y)) K:=zu_ d _ gu S K rfl
@[simp] theorem WO_bib (d:Dst) (o:BinOp) (x:Opd) (y:Opd) (gu:Option (Nat×Bool)) (S:St) (K:St->Prop):WO P ⟨d,.bib o x y,gu⟩ S K=ob (step S d (.bib o x y)) K:=zu_ d _ gu S K rfl
@[simp] theorem WO_un (d:Dst) (o:UnOp) (x:Opd) (gu:Option (Nat×Bool)) (S:St) (K:St->Prop):WO P ⟨d,.un o x,gu⟩ S K=ob (step S d (.un o x)) K:=zu_ d _ gu S K rfl
@[simp] theorem WO_conv (d:Dst) (k:IntKind) (x:Opd) (gu:Option (Nat×Bool)) (S:St) (K:St->Prop):WO P ⟨d,.conv k x,gu⟩ S K=ob (step S d (.conv k x)) K:=zu_ d _ gu S K rfl
@[simp] theorem WO_b2s (d:Dst) (x:Opd) (gu:Option (Nat×Bool)) (S:St) (K:St->Prop):WO P ⟨d,.b2s x,gu⟩ S K=ob (step S d (.b2s x)) K:=zu_ d _ gu S K rfl
@[simp] theorem WO_cvb (d:Dst) (x:Opd) (gu:Option (Nat×Bool)) (S:St) (K:St->Prop):WO P ⟨d,.cvb x,gu⟩ S K=ob (step S d (.cvb x)) K:=zu_ d _ gu S K rfl
@[simp] theorem WO_mkf (d:Dst) (f:Nat) (x:Opd) (gu:Option (Nat×Bool)) (S:St) (K:St->Prop):WO P ⟨d,.mkf f x,gu⟩ S K=ob (step S d (.mkf f x)) K:=zu_ d _ gu S K rfl
@[simp] theorem WO_nilck (d:Dst) (x:Opd) (gu:Option (Nat×Bool)) (S:St) (K:St->Prop):WO P ⟨d,.nilck x,gu⟩ S K=ob (step S d (.nilck x)) K:=zu_ d _ gu S K rfl
@[simp] theorem WO_ext (d:Dst) (t:Nat) (i:Nat) (gu:Option (Nat×Bool)) (S:St) (K:St->Prop):WO P ⟨d,.ext t i,gu⟩ S K=ob (step S d (.ext t i)) K:=zu_ d _ gu S K rfl
@[simp] theorem WO_bld (d:Dst) (zs:List Value) (ps:List (Nat×Nat×Opd)) (gu:Option (Nat×Bool)) (S:St) (K:St->Prop):WO P ⟨d,.bld zs ps,gu⟩ S K=ob (step S d (.bld zs ps)) K:=zu_ d _ gu S K rfl
@[simp] theorem WO_bls (d:Dst) (e:Nat) (z:Nat) (zero:Value) (m:Nat) (ps:List (Nat×Opd)) (gu:Option (Nat×Bool)) (S:St) (K:St->Prop):WO P ⟨d,.bls e z zero m ps,gu⟩ S K=ob (step S d (.bls e z zero m ps)) K:=zu_ d _ gu S K rfl
@[simp] theorem WO_allo (d:Dst) (zs:List Value) (gu:Option (Nat×Bool)) (S:St) (K:St->Prop):WO P ⟨d,.allo zs,gu⟩ S K=ob (step S d (.allo zs)) K:=zu_ d _ gu S K rfl
@[simp] theorem WO_box (d:Dst) (m:Nat) (x:Opd) (gu:Option (Nat×Bool)) (S:St) (K:St->Prop):WO P ⟨d,.box m x,gu⟩ S K=ob (step S d (.box m x)) K:=zu_ d _ gu S K rfl
@[simp] theorem WO_ld (d:Dst) (m:Nat) (ag:Bool) (p:Opd) (gu:Option (Nat×Bool)) (S:St) (K:St->Prop):WO P ⟨d,.ld m ag p,gu⟩ S K=ob (step S d (.ld m ag p)) K:=zu_ d _ gu S K rfl
@[simp] theorem WO_st (d:Dst) (m:Nat) (p:Opd) (x:Opd) (gu:Option (Nat×Bool)) (S:St) (K:St->Prop):WO P ⟨d,.st m p x,gu⟩ S K=ob (step S d (.st m p x)) K:=zu_ d _ gu S K rfl
@[simp] theorem WO_fa (d:Dst) (off:Nat) (p:Opd) (gu:Option (Nat×Bool)) (S:St) (K:St->Prop):WO P ⟨d,.fa off p,gu⟩ S K=ob (step S d (.fa off p)) K:=zu_ d _ gu S K rfl
@[simp] theorem WO_ia (d:Dst) (z:Nat) (x:Opd) (i:Opd) (gu:Option (Nat×Bool)) (S:St) (K:St->Prop):WO P ⟨d,.ia z x i,gu⟩ S K=ob (step S d (.ia z x i)) K:=zu_ d _ gu S K rfl
@[simp] theorem WO_iaa (d:Dst) (z:Nat) (len:Nat) (x:Opd) (i:Opd) (gu:Option (Nat×Bool)) (S:St) (K:St->Prop):WO P ⟨d,.iaa z len x i,gu⟩ S K=ob (step S d (.iaa z len x i)) K:=zu_ d _ gu S K rfl
@[simp] theorem WO_sl (d:Dst) (e:Nat) (z:Nat) (x:Opd) (lo:Option Opd) (hi:Option Opd) (mx:Option Opd) (gu:Option (Nat×Bool)) (S:St) (K:St->Prop):WO P ⟨d,.sl e z x lo hi mx,gu⟩ S K=ob (step S d (.sl e z x lo hi mx)) K:=zu_ d _ gu S K rfl
@[simp] theorem WO_ssl (d:Dst) (x:Opd) (lo:Option Opd) (hi:Option Opd) (gu:Option (Nat×Bool)) (S:St) (K:St->Prop):WO P ⟨d,.ssl x lo hi,gu⟩ S K=ob (step S d (.ssl x lo hi)) K:=zu_ d _ gu S K rfl
@[simp] theorem WO_app (d:Dst) (e:Nat) (z:Nat) (b:Nat) (x:Opd) (y:Opd) (gu:Option (Nat×Bool)) (S:St) (K:St->Prop):WO P ⟨d,.app e z b x y,gu⟩ S K=ob (step S d (.app e z b x y)) K:=zu_ d _ gu S K rfl
@[simp] theorem WO_len (d:Dst) (x:Opd) (gu:Option (Nat×Bool)) (S:St) (K:St->Prop):WO P ⟨d,.len x,gu⟩ S K=ob (step S d (.len x)) K:=zu_ d _ gu S K rfl
@[simp] theorem WO_slen (d:Dst) (x:Opd) (gu:Option (Nat×Bool)) (S:St) (K:St->Prop):WO P ⟨d,.slen x,gu⟩ S K=ob (step S d (.slen x)) K:=zu_ d _ gu S K rfl
@[simp] theorem WO_mk (d:Dst) (e:Nat) (z:Nat) (b:Nat) (zero:Value) (m:Opd) (c:Opd) (gu:Option (Nat×Bool)) (S:St) (K:St->Prop):WO P ⟨d,.mk e z b zero m c,gu⟩ S K=ob (step S d (.mk e z b zero m c)) K:=zu_ d _ gu S K rfl
@[simp] theorem WO_mnx (d:Dst) (mx:Bool) (x:Opd) (y:Opd) (gu:Option (Nat×Bool)) (S:St) (K:St->Prop):WO P ⟨d,.mnx mx x y,gu⟩ S K=ob (step S d (.mnx mx x y)) K:=zu_ d _ gu S K rfl
def WK(P:Program)(S:St)(d f:Nat)(args:List Opd)(K:St->Prop):Prop:=oC_ P S (.t d) f args K
@[simp] theorem WO_call (d f:Nat) (args:List Opd) (gu:Option (Nat×Bool)) (S:St) (K:St->Prop):WO P ⟨.t d,.call f args,gu⟩ S K=WK P S d f args K:=rfl
def WKV(P:Program)(S:St)(d t:Nat)(args:List Opd)(K:St->Prop):Prop:=n2_ P S (.t d) t args K
@[simp] theorem WO_callv (d t:Nat) (args:List Opd) (gu:Option (Nat×Bool)) (S:St) (K:St->Prop):WO P ⟨.t d,.callv t args,gu⟩ S K=WKV P S d t args K:=rfl
def WC(P:Program)(S:St)(d f:Nat)(K:St->Prop)(r:List V×(Nat->V)):Prop:=(r.1.map toImm).all immA=true/\∃q,PC P f (r.1.map toImm) q/\∀y,q y->K { S with tm:=upd r.2 d y }
theorem z5_{S:St}{d f:Nat}{args:List Opd}{K:St->Prop}(h:ob (takes S S.tm args) (WC P S d f K)):WK P S d f args K:=by
 cases hk:takes S S.tm args with
 |none=>rw[hk]at h;exact h.elim
 |some r=>rw[hk]at h;exact⟨d,rfl,.inl ⟨r.1,r.2,hk,h⟩⟩
theorem zj_{S:St}{d f:Nat}{K:St->Prop}{ys:List V}{tm1:Nat->V}{args:List V}{q:V->Prop}(hc:PC P f args q)(ha:ys.map toImm=args)(hi:args.all immA=true)(hk:∀y,q y->K { S with tm:=upd tm1 d y }):WC P S d f K (ys,tm1):=by
 subst ha
 exact⟨hi,q,hc,hk⟩
theorem pA_(A:Ann)(k:Nat)(o:AOper)(r:List AOper)(K:St->Prop)(S:St):WDR P A K k (o::r) S=(dynOk A k o S=true/\WGD P (A.acs.contains k) o S (wdk P A (k+1) r K)):=by
 simp only[WDR,WGD,DGd,wdk,eq_iff_iff]
 constructor
 .rintro⟨S',⟨h1,h2⟩,h3⟩;exact⟨h2,S',h1,h3⟩
 .rintro⟨h2,S',h1,h3⟩;exact⟨S',⟨h1,h2⟩,h3⟩
@[simp] theorem WDR_nil (A:Ann) (k:Nat) (K:St->Prop) (S:St):WDR P A K k [] S=K S:=rfl
@[simp] theorem WDR_cons (A:Ann) (k:Nat) (o:AOper) (r:List AOper) (K:St->Prop) (S:St):WDR P A K k (o::r) S=(dynOk A k o S=true/\WGD P (A.acs.contains k) o S (wdk P A (k+1) r K)):=pA_ A k o r K S
theorem zp_(ac:Bool)(d:Dst)(op:AOp)(S:St)(K:St->Prop)(h:sS_ op=false):WGD P ac ⟨d,op,none⟩ S K=ob (step S d op) K:=by
 unfold WGD DG DO
 cases op<;>first
  |(simp[sS_]at h;done)
  | (simp only
     cases hs:step S d _ with
     |none=>simp
     |some S'=>simp)
def gdd(P:Program)(ac:Bool)(x:V)(want:Bool)(d:Nat)(op:AOp)(S:St)(K:St->Prop):Prop:=match gB x want with
 |some true=>WGD P ac ⟨.t d,op,none⟩ S K
 |some false=>K { S with tm:=upd S.tm d (.tup []) }
 |none=>False
@[simp] theorem WGD_some (ac : Bool) (d : Nat) (op : AOp) (t : Nat) (want : Bool) (S : St) (K : St → Prop) : WGD P ac ⟨.t d, op, some (t, want)⟩ S K = gdd P ac (S.tm t) want d op S K := by
  unfold WGD DG gdd
  simp only
  cases hx:gB (S.tm t) want with
  |none=>simp
  | some go =>
    cases go
    .simp only[yya_,exists_eq_left',yyi_,if_false,wC_]
    .simp only[yya_,exists_eq_left',if_true]
     rfl
@[simp] theorem gdd_tt (ac:Bool) (d:Nat) (op:AOp) (S:St) (K:St->Prop):gdd P ac (.s (.bool true)) true d op S K=WGD P ac ⟨.t d,op,none⟩ S K:=rfl
@[simp] theorem gdd_ff (ac:Bool) (d:Nat) (op:AOp) (S:St) (K:St->Prop):gdd P ac (.s (.bool false)) false d op S K=WGD P ac ⟨.t d,op,none⟩ S K:=rfl
@[simp] theorem gdd_tf (ac:Bool) (d:Nat) (op:AOp) (S:St) (K:St->Prop):gdd P ac (.s (.bool true)) false d op S K=K { S with tm:=upd S.tm d (.tup []) }:=rfl
@[simp] theorem gdd_ft (ac:Bool) (d:Nat) (op:AOp) (S:St) (K:St->Prop):gdd P ac (.s (.bool false)) true d op S K=K { S with tm:=upd S.tm d (.tup []) }:=rfl
@[simp] theorem gdd_no (ac:Bool) (want:Bool) (d:Nat) (op:AOp) (S:St) (K:St->Prop):gdd P ac (.tup []) want d op S K=K { S with tm:=upd S.tm d (.tup []) }:=rfl
@[simp] theorem WGD_mv (ac:Bool) (d:Dst) (x:Opd) (S:St) (K:St->Prop):WGD P ac ⟨d,.mv x,none⟩ S K=ob (step S d (.mv x)) K:=zp_ ac d _ S K rfl
@[simp] theorem WGD_asg (ac:Bool) (d:Dst) (x:Opd) (S:St) (K:St->Prop):WGD P ac ⟨d,.asg x,none⟩ S K=ob (step S d (.asg x)) K:=zp_ ac d _ S K rfl
@[simp] theorem WGD_pick (ac:Bool) (d:Dst) (c a b:Opd) (S:St) (K:St->Prop):WGD P ac ⟨d,.pick c a b,none⟩ S K=ob (step S d (.pick c a b)) K:=zp_ ac d _ S K rfl
@[simp] theorem WGD_bin (ac:Bool) (d:Dst) (o:BinOp) (x y:Opd) (S:St) (K:St->Prop):WGD P ac ⟨d,.bin o x y,none⟩ S K=ob (step S d (.bin o x y)) K:=zp_ ac d _ S K rfl
@[simp] theorem WGD_bib (ac:Bool) (d:Dst) (o:BinOp) (x y:Opd) (S:St) (K:St->Prop):WGD P ac ⟨d,.bib o x y,none⟩ S K=ob (step S d (.bib o x y)) K:=zp_ ac d _ S K rfl
@[simp] theorem WGD_un (ac:Bool) (d:Dst) (o:UnOp) (x:Opd) (S:St) (K:St->Prop):WGD P ac ⟨d,.un o x,none⟩ S K=ob (step S d (.un o x)) K:=zp_ ac d _ S K rfl
@[simp] theorem WGD_conv (ac:Bool) (d:Dst) (k:IntKind) (x:Opd) (S:St) (K:St->Prop):WGD P ac ⟨d,.conv k x,none⟩ S K=ob (step S d (.conv k x)) K:=zp_ ac d _ S K rfl
@[simp] theorem WGD_b2s (ac:Bool) (d:Dst) (x:Opd) (S:St) (K:St->Prop):WGD P ac ⟨d,.b2s x,none⟩ S K=ob (step S d (.b2s x)) K:=zp_ ac d _ S K rfl
@[simp] theorem WGD_ex (ac:Bool) (d:Dst) (k:Ex) (x y:Opd) (S:St) (K:St->Prop):WGD P ac ⟨d,.ex k x y,none⟩ S K=ob (step S d (.ex k x y)) K:=zp_ ac d _ S K rfl
@[simp] theorem WGD_cvb (ac:Bool) (d:Dst) (x:Opd) (S:St) (K:St->Prop):WGD P ac ⟨d,.cvb x,none⟩ S K=ob (step S d (.cvb x)) K:=zp_ ac d _ S K rfl
@[simp] theorem WGD_mkf (ac:Bool) (d:Dst) (f:Nat) (x:Opd) (S:St) (K:St->Prop):WGD P ac ⟨d,.mkf f x,none⟩ S K=ob (step S d (.mkf f x)) K:=zp_ ac d _ S K rfl
@[simp] theorem WGD_nilck (ac:Bool) (d:Dst) (x:Opd) (S:St) (K:St->Prop):WGD P ac ⟨d,.nilck x,none⟩ S K=ob (step S d (.nilck x)) K:=zp_ ac d _ S K rfl
@[simp] theorem WGD_ext (ac:Bool) (d:Dst) (t i:Nat) (S:St) (K:St->Prop):WGD P ac ⟨d,.ext t i,none⟩ S K=ob (step S d (.ext t i)) K:=zp_ ac d _ S K rfl
@[simp] theorem WGD_bld (ac:Bool) (d:Dst) (zs:List Value) (ps:List (Nat×Nat×Opd)) (S:St) (K:St->Prop):WGD P ac ⟨d,.bld zs ps,none⟩ S K=ob (step S d (.bld zs ps)) K:=zp_ ac d _ S K rfl
@[simp] theorem WGD_bls (ac:Bool) (d:Dst) (e z:Nat) (zero:Value) (m:Nat) (ps:List (Nat×Opd)) (S:St) (K:St->Prop):WGD P ac ⟨d,.bls e z zero m ps,none⟩ S K=ob (step S d (.bls e z zero m ps)) K:=zp_ ac d _ S K rfl
@[simp] theorem WGD_allo (ac:Bool) (d:Dst) (zs:List Value) (S:St) (K:St->Prop):WGD P ac ⟨d,.allo zs,none⟩ S K=ob (step S d (.allo zs)) K:=zp_ ac d _ S K rfl
@[simp] theorem WGD_box (ac:Bool) (d:Dst) (m:Nat) (x:Opd) (S:St) (K:St->Prop):WGD P ac ⟨d,.box m x,none⟩ S K=ob (step S d (.box m x)) K:=zp_ ac d _ S K rfl
@[simp] theorem WGD_ld (ac:Bool) (d:Dst) (m:Nat) (ag:Bool) (p:Opd) (S:St) (K:St->Prop):WGD P ac ⟨d,.ld m ag p,none⟩ S K=ob (step S d (.ld m ag p)) K:=zp_ ac d _ S K rfl
@[simp] theorem WGD_st (ac:Bool) (d:Dst) (m:Nat) (p x:Opd) (S:St) (K:St->Prop):WGD P ac ⟨d,.st m p x,none⟩ S K=ob (step S d (.st m p x)) K:=zp_ ac d _ S K rfl
@[simp] theorem WGD_fa (ac:Bool) (d:Dst) (off:Nat) (p:Opd) (S:St) (K:St->Prop):WGD P ac ⟨d,.fa off p,none⟩ S K=ob (step S d (.fa off p)) K:=zp_ ac d _ S K rfl
@[simp] theorem WGD_ia (ac:Bool) (d:Dst) (z:Nat) (x i:Opd) (S:St) (K:St->Prop):WGD P ac ⟨d,.ia z x i,none⟩ S K=ob (step S d (.ia z x i)) K:=zp_ ac d _ S K rfl
@[simp] theorem WGD_iaa (ac:Bool) (d:Dst) (z len:Nat) (x i:Opd) (S:St) (K:St->Prop):WGD P ac ⟨d,.iaa z len x i,none⟩ S K=ob (step S d (.iaa z len x i)) K:=zp_ ac d _ S K rfl
@[simp] theorem WGD_sl (ac:Bool) (d:Dst) (e z:Nat) (x:Opd) (lo hi mx:Option Opd) (S:St) (K:St->Prop):WGD P ac ⟨d,.sl e z x lo hi mx,none⟩ S K=ob (step S d (.sl e z x lo hi mx)) K:=zp_ ac d _ S K rfl
@[simp] theorem WGD_ssl (ac:Bool) (d:Dst) (x:Opd) (lo hi:Option Opd) (S:St) (K:St->Prop):WGD P ac ⟨d,.ssl x lo hi,none⟩ S K=ob (step S d (.ssl x lo hi)) K:=zp_ ac d _ S K rfl
@[simp] theorem WGD_app (ac:Bool) (d:Dst) (e z b:Nat) (x y:Opd) (S:St) (K:St->Prop):WGD P ac ⟨d,.app e z b x y,none⟩ S K=ob (step S d (.app e z b x y)) K:=zp_ ac d _ S K rfl
@[simp] theorem WGD_len (ac:Bool) (d:Dst) (x:Opd) (S:St) (K:St->Prop):WGD P ac ⟨d,.len x,none⟩ S K=ob (step S d (.len x)) K:=zp_ ac d _ S K rfl
@[simp] theorem WGD_slen (ac:Bool) (d:Dst) (x:Opd) (S:St) (K:St->Prop):WGD P ac ⟨d,.slen x,none⟩ S K=ob (step S d (.slen x)) K:=zp_ ac d _ S K rfl
@[simp] theorem WGD_mk (ac:Bool) (d:Dst) (e z b:Nat) (zero:Value) (m c:Opd) (S:St) (K:St->Prop):WGD P ac ⟨d,.mk e z b zero m c,none⟩ S K=ob (step S d (.mk e z b zero m c)) K:=zp_ ac d _ S K rfl
@[simp] theorem WGD_mnx (ac:Bool) (d:Dst) (mx:Bool) (x y:Opd) (S:St) (K:St->Prop):WGD P ac ⟨d,.mnx mx x y,none⟩ S K=ob (step S d (.mnx mx x y)) K:=zp_ ac d _ S K rfl
def WKD(P:Program)(ac:Bool)(S:St)(d f:Nat)(args:List Opd)(K:St->Prop):Prop:=WGD P ac ⟨.t d,.call f args,none⟩ S K
@[simp] theorem WGD_call (ac:Bool) (d f:Nat) (args:List Opd) (S:St) (K:St->Prop):WGD P ac ⟨.t d,.call f args,none⟩ S K=WKD P ac S d f args K:=rfl
def WCD(P:Program)(S:St)(d f:Nat)(K:St->Prop)(r:List V×(Nat->V)):Prop:=(r.1.map toImm).all immA=true/\∃R,PC P f (r.1.map toImm) (fun r=>r=R)/\K { S with tm:=upd r.2 d R }
theorem sp_{S:St}{d f:Nat}{args:List Opd}{K:St->Prop}(h:ob (takes S S.tm args) (WCD P S d f K)):WKD P false S d f args K:=by
 cases hk:takes S S.tm args with
 |none=>rw[hk]at h;exact h.elim
 | some r =>
   rw[hk]at h
   obtain⟨h1,R,h2,h3⟩:=h
   exact⟨_,⟨d,rfl,.inl ⟨r.1,r.2,hk,h1,R,h2,rfl⟩⟩,h3⟩
theorem oH_{S:St}{d f:Nat}{K:St->Prop}{ys:List V}{tm1:Nat->V}{args:List V}{R:V}(hc:PC P f args (fun r=>r=R))(ha:ys.map toImm=args)(hi:args.all immA=true)(hk:K { S with tm:=upd tm1 d R }):WCD P S d f K (ys,tm1):=by
 subst ha
 exact⟨hi,R,hc,hk⟩
end
attribute [simp] cps rD_ nD_ qN_ lenT appR St.frzTo FULL FRZ ldC sepC vpOk ldV BIG reep xB_ yo_ pd_ immA St.lendN u6_ rB_ apOk uZ_ sepO sepV ldOk uY_ gB exV eqC eqCs qD_ obc ldA p1_ vO_ wx_ cvbV zF_ yG_ dynOk zv_ opdS wY_ zh_ noVO zZ_ borL wb_ bor bors isS t2_ s1_ aftS ren renA renL fwd xl_ vH_ yH_ step za_ stV mvV mvD ldD iaV iaaV slV sslV zo_ uJ_ appV mkV xY_ nG_ xK_ St.adopt St.lend St.freeze St.setAt St.at St.row takes ym_ wJ_ give yh_ yR_ zE_ spentL spent y2_ z7_ ofC cont binS binB unS yI_ ya_ seens y6_ x4_ cellsOf vA_ x3_ sets qA_ St.place St.places yJ_ p0_ yb_ immL toImm flat wW_ rvVs rvV rvAt t8_ resL wT_ dupF locK ptrA ptrK yS_ wkn uP_ pack AX.isEnd St0 immA y7_
@[simp] theorem locky_s (v:Value):locky (.s v)=false:=rfl
@[simp] theorem locky_list (z:Nat) (xs:List V):locky (.list z xs)=false:=rfl
@[simp] theorem locky_ownT (e z:Nat) (xs:List V):locky (.own true e z xs)=true:=rfl
@[simp] theorem locky_ownF (e z:Nat) (xs:List V):locky (.own false e z xs)=true:=rfl
@[simp] theorem locky_lent (d e0 e z:Nat) (xs:List V):locky (.lent d e0 e z xs)=true:=rfl
@[simp] theorem locky_agg (cs:List V):locky (.agg cs)=false:=rfl
@[simp] theorem locky_tup (cs:List V):locky (.tup cs)=false:=rfl
@[simp] theorem locky_ptr (b o:Nat):locky (.ptr b o)=false:=rfl
@[simp] theorem locky_ip (cs:List V):locky (.ip cs)=false:=rfl
@[simp] theorem locky_view (l:Loc) (e:Nat):locky (.view l e)=false:=rfl
@[simp] theorem locky_sview (l:Loc) (e lo m:Nat):locky (.sview l e lo m)=false:=rfl
@[simp] theorem locky_vp (l:Loc) (e i q:Nat):locky (.vp l e i q)=false:=rfl
@[simp] theorem locky_no  : locky (.no )=false:=rfl
@[simp] theorem locky_gone  : locky (.gone )=true:=rfl
@[simp] theorem storable_s (v:Value):ze_ (.s v)=true:=rfl
@[simp] theorem storable_list (z:Nat) (xs:List V):ze_ (.list z xs)=true:=rfl
@[simp] theorem storable_ownT (e z:Nat) (xs:List V):ze_ (.own true e z xs)=true:=rfl
@[simp] theorem storable_ownF (e z:Nat) (xs:List V):ze_ (.own false e z xs)=decide (e=FULL):=rfl
@[simp] theorem storable_lent (d e0 e z:Nat) (xs:List V):ze_ (.lent d e0 e z xs)=false:=rfl
@[simp] theorem storable_agg (cs:List V):ze_ (.agg cs)=false:=rfl
@[simp] theorem storable_tup (cs:List V):ze_ (.tup cs)=false:=rfl
@[simp] theorem storable_ptr (b o:Nat):ze_ (.ptr b o)=true:=rfl
@[simp] theorem storable_ip (cs:List V):ze_ (.ip cs)=false:=rfl
@[simp] theorem storable_view (l:Loc) (e:Nat):ze_ (.view l e)=false:=rfl
@[simp] theorem storable_sview (l:Loc) (e lo m:Nat):ze_ (.sview l e lo m)=false:=rfl
@[simp] theorem storable_vp (l:Loc) (e i q:Nat):ze_ (.vp l e i q)=false:=rfl
@[simp] theorem storable_no  : ze_ (.no )=false:=rfl
@[simp] theorem storable_gone  : ze_ (.gone )=false:=rfl
@[simp] theorem known_s (v:Value):y1_ (.s v)=true:=rfl
@[simp] theorem known_list (z:Nat) (xs:List V):y1_ (.list z xs)=true:=rfl
@[simp] theorem known_ownT (e z:Nat) (xs:List V):y1_ (.own true e z xs)=true:=rfl
@[simp] theorem known_ownF (e z:Nat) (xs:List V):y1_ (.own false e z xs)=true:=rfl
@[simp] theorem known_lent (d e0 e z:Nat) (xs:List V):y1_ (.lent d e0 e z xs)=true:=rfl
@[simp] theorem known_agg (cs:List V):y1_ (.agg cs)=true:=rfl
@[simp] theorem known_tup (cs:List V):y1_ (.tup cs)=true:=rfl
@[simp] theorem known_ptr (b o:Nat):y1_ (.ptr b o)=true:=rfl
@[simp] theorem known_ip (cs:List V):y1_ (.ip cs)=true:=rfl
@[simp] theorem known_view (l:Loc) (e:Nat):y1_ (.view l e)=true:=rfl
@[simp] theorem known_sview (l:Loc) (e lo m:Nat):y1_ (.sview l e lo m)=true:=rfl
@[simp] theorem known_vp (l:Loc) (e i q:Nat):y1_ (.vp l e i q)=true:=rfl
@[simp] theorem known_no  : y1_ (.no )=false:=rfl
@[simp] theorem known_gone  : y1_ (.gone )=false:=rfl
@[simp] theorem immC_s (v:Value):immC (.s v)=true:=rfl
@[simp] theorem immC_list (z:Nat) (xs:List V):immC (.list z xs)=true:=rfl
@[simp] theorem immC_ownT (e z:Nat) (xs:List V):immC (.own true e z xs)=false:=rfl
@[simp] theorem immC_ownF (e z:Nat) (xs:List V):immC (.own false e z xs)=false:=rfl
@[simp] theorem immC_lent (d e0 e z:Nat) (xs:List V):immC (.lent d e0 e z xs)=false:=rfl
@[simp] theorem immC_agg (cs:List V):immC (.agg cs)=false:=rfl
@[simp] theorem immC_tup (cs:List V):immC (.tup cs)=false:=rfl
@[simp] theorem immC_ptr (b o:Nat):immC (.ptr b o)=false:=rfl
@[simp] theorem immC_ip (cs:List V):immC (.ip cs)=false:=rfl
@[simp] theorem immC_view (l:Loc) (e:Nat):immC (.view l e)=false:=rfl
@[simp] theorem immC_sview (l:Loc) (e lo m:Nat):immC (.sview l e lo m)=false:=rfl
@[simp] theorem immC_vp (l:Loc) (e i q:Nat):immC (.vp l e i q)=false:=rfl
@[simp] theorem immC_no  : immC (.no )=false:=rfl
@[simp] theorem immC_gone  : immC (.gone )=false:=rfl
@[simp] theorem cellK_s (n:Nat) (v:Value):yf_ n (.s v)=true:=rfl
@[simp] theorem cellK_list (n:Nat) (z:Nat) (xs:List V):yf_ n (.list z xs)=true:=rfl
@[simp] theorem cellK_ownT (n:Nat) (e z:Nat) (xs:List V):yf_ n (.own true e z xs)=true:=rfl
@[simp] theorem cellK_ownF (n:Nat) (e z:Nat) (xs:List V):yf_ n (.own false e z xs)=true:=rfl
@[simp] theorem cellK_lent (n:Nat) (d e0 e z:Nat) (xs:List V):yf_ n (.lent d e0 e z xs)=false:=rfl
@[simp] theorem cellK_agg (n:Nat) (cs:List V):yf_ n (.agg cs)=false:=rfl
@[simp] theorem cellK_tup (n:Nat) (cs:List V):yf_ n (.tup cs)=false:=rfl
@[simp] theorem cellK_ptr (n:Nat) (b o:Nat):yf_ n (.ptr b o)=decide (b<n):=rfl
@[simp] theorem cellK_ip (n:Nat) (cs:List V):yf_ n (.ip cs)=true:=rfl
@[simp] theorem cellK_view (n:Nat) (l:Loc) (e:Nat):yf_ n (.view l e)=true:=rfl
@[simp] theorem cellK_sview (n:Nat) (l:Loc) (e lo m:Nat):yf_ n (.sview l e lo m)=true:=rfl
@[simp] theorem cellK_vp (n:Nat) (l:Loc) (e i q:Nat):yf_ n (.vp l e i q)=true:=rfl
@[simp] theorem cellK_no (n:Nat)  : yf_ n (.no )=true:=rfl
@[simp] theorem cellK_gone (n:Nat)  : yf_ n (.gone )=true:=rfl
@[simp] theorem cellV_s (n:Nat) (v:Value):yX_ n (.s v)=true:=rfl
@[simp] theorem cellV_list (n:Nat) (z:Nat) (xs:List V):yX_ n (.list z xs)=true:=rfl
@[simp] theorem cellV_ownT (n:Nat) (e z:Nat) (xs:List V):yX_ n (.own true e z xs)=true:=rfl
@[simp] theorem cellV_ownF (n:Nat) (e z:Nat) (xs:List V):yX_ n (.own false e z xs)=true:=rfl
@[simp] theorem cellV_lent (n:Nat) (d e0 e z:Nat) (xs:List V):yX_ n (.lent d e0 e z xs)=false:=rfl
@[simp] theorem cellV_agg (n:Nat) (cs:List V):yX_ n (.agg cs)=cs.all immC:=rfl
@[simp] theorem cellV_tup (n:Nat) (cs:List V):yX_ n (.tup cs)=false:=rfl
@[simp] theorem cellV_ptr (n:Nat) (b o:Nat):yX_ n (.ptr b o)=decide (b<n):=rfl
@[simp] theorem cellV_ip (n:Nat) (cs:List V):yX_ n (.ip cs)=true:=rfl
@[simp] theorem cellV_view (n:Nat) (l:Loc) (e:Nat):yX_ n (.view l e)=true:=rfl
@[simp] theorem cellV_sview (n:Nat) (l:Loc) (e lo m:Nat):yX_ n (.sview l e lo m)=true:=rfl
@[simp] theorem cellV_vp (n:Nat) (l:Loc) (e i q:Nat):yX_ n (.vp l e i q)=true:=rfl
@[simp] theorem cellV_no (n:Nat)  : yX_ n (.no )=true:=rfl
@[simp] theorem cellV_gone (n:Nat)  : yX_ n (.gone )=true:=rfl
@[simp] theorem simpleV_s (n:Nat) (v:Value):zM_ n (.s v)=true:=rfl
@[simp] theorem simpleV_list (n:Nat) (z:Nat) (xs:List V):zM_ n (.list z xs)=true:=rfl
@[simp] theorem simpleV_ownT (n:Nat) (e z:Nat) (xs:List V):zM_ n (.own true e z xs)=false:=rfl
@[simp] theorem simpleV_ownF (n:Nat) (e z:Nat) (xs:List V):zM_ n (.own false e z xs)=false:=rfl
@[simp] theorem simpleV_lent (n:Nat) (d e0 e z:Nat) (xs:List V):zM_ n (.lent d e0 e z xs)=false:=rfl
@[simp] theorem simpleV_agg (n:Nat) (cs:List V):zM_ n (.agg cs)=cs.all immC:=rfl
@[simp] theorem simpleV_tup (n:Nat) (cs:List V):zM_ n (.tup cs)=false:=rfl
@[simp] theorem simpleV_ptr (n:Nat) (b o:Nat):zM_ n (.ptr b o)=decide (b<n):=rfl
@[simp] theorem simpleV_ip (n:Nat) (cs:List V):zM_ n (.ip cs)=false:=rfl
@[simp] theorem simpleV_view (n:Nat) (l:Loc) (e:Nat):zM_ n (.view l e)=false:=rfl
@[simp] theorem simpleV_sview (n:Nat) (l:Loc) (e lo m:Nat):zM_ n (.sview l e lo m)=false:=rfl
@[simp] theorem simpleV_vp (n:Nat) (l:Loc) (e i q:Nat):zM_ n (.vp l e i q)=false:=rfl
@[simp] theorem simpleV_no (n:Nat)  : zM_ n (.no )=false:=rfl
@[simp] theorem simpleV_gone (n:Nat)  : zM_ n (.gone )=false:=rfl
@[simp] theorem tmL_nil (u:Nat):tmL [] u=.no:=rfl
@[simp] theorem tmL_cons (t:Nat) (x:V) (r:List (Nat×V)) (u:Nat):tmL ((t,x)::r) u=if u=t then x else tmL r u:=rfl
def lq(keep drop:List Nat)(nb:Nat)(Inv:Nat->St->Prop)(m:Nat)(Q:AX->St->Prop):AX->St->Prop:=fun e S=>match e with
 |.normal=>uP_ keep drop nb S=true/\∃m',m'<m/\Inv m' (wkn keep drop nb S)
 |e=>Q e S
@[simp] theorem lq_normal (keep drop:List Nat) (nb:Nat) (Inv:Nat->St->Prop) (m:Nat) (Q:AX->St->Prop) (S:St):lq keep drop nb Inv m Q .normal S=(uP_ keep drop nb S=true/\∃m',m'<m/\Inv m' (wkn keep drop nb S)):=rfl
@[simp] theorem lq_exit (keep drop:List Nat) (nb:Nat) (Inv:Nat->St->Prop) (m:Nat) (Q:AX->St->Prop) (S:St) (id:Nat):lq keep drop nb Inv m Q (.exit id) S=Q (.exit id) S:=rfl
@[simp] theorem lq_ret (keep drop:List Nat) (nb:Nat) (Inv:Nat->St->Prop) (m:Nat) (Q:AX->St->Prop) (S:St):lq keep drop nb Inv m Q .ret S=Q .ret S:=rfl
@[simp] theorem lq_goto (keep drop:List Nat) (nb:Nat) (Inv:Nat->St->Prop) (m:Nat) (Q:AX->St->Prop) (S:St) (l:Nat):lq keep drop nb Inv m Q (.goto l) S=Q (.goto l) S:=rfl
theorem ui_{P:Program}{F:Fr}{n:Nat}{c:ACode}{S:St}{Q:AX->St->Prop}(keep drop:List Nat)(nb:Nat)(hnb:n<=nb)(Inv:Nat->St->Prop)(m0:Nat)(h0:uP_ keep drop nb S=true/\Inv m0 (wkn keep drop nb S))
 (hr:∀m S,Inv m S->W P F n c S (lq keep drop nb Inv m Q)):W P F n (.loop c) S Q:=m3_ keep drop nb hnb Inv m0 h0 hr
def endP(rvs:List RV)(q:V->Prop)(x:AX)(S:St):Prop:=x.isEnd=true/\RetP rvs q S
def retQ(S:St)(q:V->Prop)(r:List V×List Loc):Prop:=wT_ 0 S r.1 r.2=true/\q (pack r.1)
theorem px_(rvs:List RV)(q:V->Prop)(S:St):RetP rvs q S=ob (rvVs S rvs) (retQ S q):=by
 unfold RetP
 cases rvVs S rvs<;>rfl
@[simp] theorem endP_ret (rvs:List RV) (q:V->Prop) (S:St):endP rvs q .ret S=ob (rvVs S rvs) (retQ S q):=by simp[endP,px_]
@[simp] theorem endP_normal (rvs:List RV) (q:V->Prop) (S:St):endP rvs q .normal S=ob (rvVs S rvs) (retQ S q):=by simp[endP,px_]
@[simp] theorem retQ_at (S:St) (q:V->Prop) (ys:List V) (ls:List Loc):retQ S q (ys,ls)=(wT_ 0 S ys ls=true/\q (pack ys)):=rfl
def endA(n:Nat)(rvs:List RV)(q:V->List (List V)->Prop)(x:AX)(S:St):Prop:=x.isEnd=true/\tT_ n rvs q S
def retA(n:Nat)(S:St)(q:V->List (List V)->Prop)(r:List V×List Loc):Prop:=∃m,n<=m/\wT_ m S r.1 r.2=true/\q (pack r.1) (S.bx.take m)
theorem v9_(n:Nat)(rvs:List RV)(q:V->List (List V)->Prop)(S:St):tT_ n rvs q S=ob (rvVs S rvs) (retA n S q):=by
 unfold tT_
 cases rvVs S rvs<;>rfl
@[simp] theorem endA_ret (n:Nat) (rvs:List RV) (q:V->List (List V)->Prop) (S:St):endA n rvs q .ret S=ob (rvVs S rvs) (retA n S q):=by simp[endA,v9_]
@[simp] theorem endA_normal (n:Nat) (rvs:List RV) (q:V->List (List V)->Prop) (S:St):endA n rvs q .normal S=ob (rvVs S rvs) (retA n S q):=by simp[endA,v9_]
theorem zx_{P:Program}{F:Fr}{f np:Nat}{ac:ACode}{rvs:List RV}(h:zC_ P f F=some (np,zs_ ac,rvs)/\zq_ ac=true)(hm:P.follows .mixedOrders=true){args:List V}(hl:args.length=np){q:V->Prop}
 (hw:W P F 0 ac (St0 F args []) (endP rvs q)):PC P f args q:=ll_ h hm hl hw
end
section
def nilL(x y:V):Prop:=x=y\/(x=.s (.slice none 0 0)/\∃z,y=.list z [])
def nw_:List V->List V->Prop
 |[],[]=>True
 |x::r,y::s=>nilL x y/\nw_ r s
 |_,_=>False
def nilA(x y:V):Prop :=
 match x,y with
 |.agg cs,.agg ds=>nw_ cs ds
 |x,y=>nilL x y
def mu_:List V->List V->Prop
 |[],[]=>True
 |x::r,y::s=>nilA x y/\mu_ r s
 |_,_=>False
theorem o6_{g:Gh}{w:World}{x y:V}{v:Value}(h:nilL x y)(hr:Rep g w x v):Rep g w y v:=by
 rcases h with rfl|⟨rfl,z,rfl⟩
 .exact hr
 .cases hr
  exact .list (fun _=>undef) (zzl_ _) (zzn_ _) (fun _=>rfl) (by simp) (by simp[flat]) (fun j hj=>by simp[flat]at hj) (fun j u hu=>by simp[flat]at hu)
section
variable{P:Program}
end
@[simp] theorem rg1:List.range 1=[0]:=by decide
@[simp] theorem rg2:List.range 2=[0,1]:=by decide
@[simp] theorem rg3:List.range 3=[0,1,2]:=by decide
@[simp] theorem rg4:List.range 4=[0,1,2,3]:=by decide
@[simp] theorem rg5:List.range 5=[0,1,2,3,4]:=by decide
@[simp] theorem rg6:List.range 6=[0,1,2,3,4,5]:=by decide
@[simp] theorem rg7:List.range 7=[0,1,2,3,4,5,6]:=by decide
@[simp] theorem rg8:List.range 8=[0,1,2,3,4,5,6,7]:=by decide
@[simp] theorem rg9:List.range 9=[0,1,2,3,4,5,6,7,8]:=by decide
@[simp] theorem rg10:List.range 10=[0,1,2,3,4,5,6,7,8,9]:=by decide
@[simp] theorem rg11:List.range 11=[0,1,2,3,4,5,6,7,8,9,10]:=by decide
@[simp] theorem rg12:List.range 12=[0,1,2,3,4,5,6,7,8,9,10,11]:=by decide
@[simp] theorem rg13:List.range 13=[0,1,2,3,4,5,6,7,8,9,10,11,12]:=by decide
@[simp] theorem rg14:List.range 14=[0,1,2,3,4,5,6,7,8,9,10,11,12,13]:=by decide
@[simp] theorem rg15:List.range 15=[0,1,2,3,4,5,6,7,8,9,10,11,12,13,14]:=by decide
@[simp] theorem rg16:List.range 16=[0,1,2,3,4,5,6,7,8,9,10,11,12,13,14,15]:=by decide
attribute [simp] nilL nw_ nilA mu_
end
def F6:Fr:=⟨6,[0,2],[]⟩
def a6:ACode :=
 (.seq (qP 0 [
 qV 1 (.c (.bool false))])
 (.seq (qP 1 [
 qN 3 (qm 0),
 qN 4 (.len (T 3)),
 qN 5 (qi .leq 4 400),
 qV 1 (T 5)])
 .ret))
theorem c6:zC_ Try.prog 6 F6=some (1,zs_ a6,[.v 1])/\zq_ a6=true:=⟨by kernel_rfl,by kernel_rfl⟩
def F7:Fr:=⟨111,[0,2,4,5,6,7,8,9,10],[]⟩
def a7:ACode :=
 (.seq (qP 0 [
 qV 0 (.c (.bool false))])
 (.seq (qP 1 [
 qN 12 (.call 14 [(qI 0),(qI 2)]),
 qN 11 (qt 12),
 qN 13 (.ext 11 0),
 qN 14 (.ext 11 1),
 qN 1 (.allo [(.int .i64 0),(.bool false),(.bool false),(.slice none 0 0),(.bool false),(.bool false),(.bool false),(.int .i64 0),(.int .i64 0)]),
 qS 9 (T 1) (T 13),
 qV 1 (T 14)])
 (.seq (qP 2 [
 qN 16 (.call 14 [(qI 1),(qI 2)]),
 qN 15 (qt 16),
 qN 17 (.ext 15 0),
 qN 18 (.ext 15 1),
 qN 3 (.allo [(.int .i64 0),(.bool false),(.bool false),(.slice none 0 0),(.bool false),(.bool false),(.bool false),(.int .i64 0),(.int .i64 0)]),
 qS 9 (T 3) (T 17),
 qV 2 (T 18)])
 (.seq (qP 3 [
 qN 20 (qL 9 3),
 qN 21 (.call 10 [(T 20),(qI 1),(qI 2)]),
 qN 19 (qt 21),
 qN 22 (.ext 19 0),
 qN 23 (.ext 19 1),
 qN 24 (.ext 19 2),
 qS 9 (T 3) (T 22),
 qV 3 (T 23),
 qV 4 (T 24)])
 (.seq (.seq (qP 4 [
 qN 25 (qm 1),
 qN 26 (qi .neq 25 0),
 qN 27 (qt 26),
 qG 28 27 false (qm 2),
 qG 29 27 false (qi .neq 28 0),
 qN 30 (qo 27 29),
 qN 31 (qt 30),
 qG 32 31 false (qm 4),
 qG 33 31 false (qi .neq 32 0),
 qN 34 (qo 31 33),
 qN 35 (qt 34),
 qG 36 35 false (qm 3),
 qG 37 35 false (.len (T 36)),
 qG 38 35 false (qi .neq 37 1),
 qN 39 (qo 35 38),
 qN 40 (qt 39),
 qG 41 40 false (qm 3),
 qG 42 40 false (.ia 19 (T 41) (qI 0)),
 qG 43 40 false (qf 1 42),
 qG 44 40 false (qf 11 43),
 qG 45 40 false (ql 1 44),
 qG 46 40 false (qi .neq 45 1),
 qN 47 (qo 40 46),
 qN 48 (qt 47),
 qG 49 48 false (qf 2 3),
 qG 50 48 false (ql 1 49),
 qG 51 48 false (.un .not (T 50)),
 qN 52 (qo 48 51)])
 (.cond (T 52)
 (.seq (qP 5 [
 qV 0 (.c (.bool false))])
 .ret)
 .skip))
 (.seq (.reg 6 [] [
 qN 54 (qL 9 1),
 qN 55 (qm 3),
 qN 56 (.ia 19 (T 55) (qI 0)),
 qN 57 (qf 1 56),
 qN 58 (qL 18 57),
 qN 59 (.call 13 [(T 54),(qI 0),(qI 2),(qI 1),(T 58)]),
 qN 53 (qt 59),
 qN 60 (.ext 53 0),
 qN 61 (.ext 53 1),
 qN 62 (.ext 53 2),
 qS 9 (T 1) (T 60),
 qV 5 (T 61),
 qV 6 (T 62)] (some [[],[],[1],[2],[3],[0,4],[5],[6],[6],[6],[7,5,0,1,2,3,4,5,6,7],[8,10,0,1,2,3,4,5,6,7,8,10],[9,11,0,1,2,3,4,5,6,7,8,9,10,11]]) ⟨[],[8,9],[],[]⟩)
 (.seq (.seq (qP 7 [
 qN 63 (qm 6),
 qN 64 (qi .neq 63 0),
 qN 65 (qt 64),
 qG 66 65 false (qm 5),
 qG 67 65 false (.len (T 66)),
 qG 68 65 false (qi .neq 67 1),
 qN 69 (qo 65 68),
 qN 70 (qt 69),
 qG 71 70 false (qf 4 1),
 qG 72 70 false (qf 0 71),
 qG 73 70 false (ql 1 72),
 qN 74 (qo 70 73),
 qN 75 (qt 74),
 qG 76 75 false (qf 4 1),
 qG 77 75 false (qf 3 76),
 qG 78 75 false (ql 1 77),
 qG 79 75 false (qi .neq 78 1),
 qN 80 (qo 75 79)])
 (.cond (T 80)
 (.seq (qP 8 [
 qV 0 (.c (.bool false))])
 .ret)
 .skip))
 (.seq (.reg 9 [] [
 qN 82 (qL 9 3),
 qN 83 (qm 5),
 qN 84 (.ia 19 (T 83) (qI 0)),
 qN 85 (qf 1 84),
 qN 86 (qL 18 85),
 qN 87 (.call 13 [(T 82),(qI 1),(qI 2),(qI 0),(T 86)]),
 qN 81 (qt 87),
 qN 88 (.ext 81 0),
 qN 89 (.ext 81 1),
 qN 90 (.ext 81 2),
 qS 9 (T 3) (T 88),
 qV 7 (T 89),
 qV 8 (T 90)] (some [[],[],[1],[2],[3],[0,4],[5],[6],[6],[6],[7,5,0,1,2,3,4,5,6,7],[8,10,0,1,2,3,4,5,6,7,8,10],[9,11,0,1,2,3,4,5,6,7,8,9,10,11]]) ⟨[],[8,9],[],[]⟩)
 (.seq (qP 10 [
 qN 91 (qm 8),
 qN 92 (qi .eql 91 0),
 qN 93 (qt 92),
 qG 94 93 true (qf 4 3),
 qG 95 93 true (qf 0 94),
 qG 96 93 true (ql 1 95),
 qN 97 (qa 93 96),
 qN 98 (qt 97),
 qG 99 98 true (qf 2 3),
 qG 100 98 true (ql 1 99),
 qG 101 98 true (.un .not (T 100)),
 qN 102 (qa 98 101),
 qN 103 (qt 102),
 qG 104 103 true (qL 9 1),
 qG 105 103 true (.call 15 [(T 104),(qI 0),(qI 2)]),
 qN 106 (qa 103 105),
 qN 107 (qt 106),
 qG 108 107 true (qL 9 3),
 qG 109 107 true (.call 15 [(T 108),(qI 1),(qI 2)]),
 qN 110 (qa 107 109),
 qV 0 (T 110)])
 .ret)))))))))
theorem c7:zC_ Try.prog 7 F7=some (0,zs_ a7,[.v 0])/\zq_ a7=true:=⟨by kernel_rfl,by kernel_rfl⟩
def F10:Fr:=⟨75,[0,1,2,7,8,9,11,12,13],[]⟩
def a10:ACode :=
 (.seq (qP 0 [
 qN 3 (.box 9 (.v 0)),
 qN 6 (.allo [(.int .i64 0),(.bool false),(.bool false),(.slice none 0 0),(.bool false),(.bool false),(.bool false),(.int .i64 0),(.int .i64 0)]),
 qV 3 (.c (.slice none 0 0)),
 qV 4 (qI 0)])
 (.seq (.seq (qP 1 [
 qN 14 (qL 9 3),
 qN 15 (qm 1),
 qN 16 (qm 2),
 qN 17 (.call 15 [(T 14),(T 15),(T 16)]),
 qN 18 (.un .not (T 17))])
 (.cond (T 18)
 (.seq (qP 2 [
 qN 19 (.call 21 [(qI 2)]),
 qN 20 (.ext 19 0),
 qN 21 (.ext 19 1),
 qN 22 (.ext 19 2),
 qS 9 (T 6) (T 20),
 qV 3 (T 21),
 qV 4 (T 22)])
 .ret)
 .skip))
 (.seq (qP 3 [
 qN 23 (qf 0 3),
 qN 24 (ql 1 23),
 qN 25 (qi .add 24 1),
 qV 5 (T 25)])
 (.seq (.block 0
 (.loop
 (.seq (.seq (qP 4 [
 qN 26 (qm 5),
 qN 27 (qm 2),
 qN 28 (qb .rem 26 27),
 qN 29 (qm 1),
 qN 30 (qb .neq 28 29)])
 (.cond (T 30)
 .skip
 (.exit 0)))
 (.block 1
 (qP 5 [
 qN 31 (qm 5),
 qN 32 (qi .add 31 1),
 qV 5 (T 32)])))))
 (.seq (.seq (qP 6 [
 qN 33 (qm 5),
 qN 34 (qi .gtr 33 1073741824)])
 (.cond (T 34)
 (.seq (qP 7 [
 qN 35 (.call 21 [(qI 16)]),
 qN 36 (.ext 35 0),
 qN 37 (.ext 35 1),
 qN 38 (.ext 35 2),
 qS 9 (T 6) (T 36),
 qV 3 (T 37),
 qV 4 (T 38)])
 .ret)
 .skip))
 (.seq (qP 8 [
 qN 39 (qL 9 3),
 qN 40 (qm 5),
 qN 41 (.call 22 [(T 39),(T 40)]),
 qS 9 (T 3) (T 41)])
 (.seq (.seq (qP 9 [
 qN 42 (qm 2),
 qN 43 (qi .eql 42 1)])
 (.cond (T 43)
 (.seq (qP 10 [
 qN 45 (qL 9 3),
 qN 46 (.call 23 [(T 45)]),
 qN 44 (qt 46),
 qN 47 (.ext 44 0),
 qN 48 (.ext 44 1),
 qN 10 (.allo [(.int .i64 0),(.bool false),(.bool false),(.slice none 0 0),(.bool false),(.bool false),(.bool false),(.int .i64 0),(.int .i64 0)]),
 qS 9 (T 10) (T 47),
 qV 6 (T 48)])
 (.seq (qR 11 [.lend (.cell 2 0) 49,.lend (.cell 2 1) 49,.lend (.cell 2 2) 49,.lend (.cell 2 3) 49,.lend (.cell 2 4) 49,.lend (.cell 2 5) 49,.lend (.cell 2 6) 49,.lend (.cell 2 7) 49,.lend (.cell 2 8) 49] [
 qN 49 (qL 9 10),
 qN 50 (qm 6),
 qS 9 (T 6) (T 49),
 qV 3 (T 50),
 qV 4 (qI 0)])
 .ret))
 .skip))
 (.seq (qP 12 [
 qN 51 (qf 2 3),
 ⟨.none,.st 1 (T 51) (.c (.bool true)),none⟩])
 (.seq (qP 13 [
 qN 52 (qm 2),
 qN 53 (.mk 4 1 1 (.bool false) (T 52) (T 52)),
 qN 54 (qf 3 3),
 qS 1 (T 54) (T 53)])
 (.seq (qP 14 [
 qN 55 (qf 3 3),
 qN 56 (ql 1 55),
 qN 57 (qm 1),
 qN 58 (.ia 1 (T 56) (T 57)),
 ⟨.none,.st 1 (T 58) (.c (.bool true)),none⟩])
 (.seq (qP 15 [
 qV 7 (.c (.slice none 0 0))])
 (.seq (.seq (qR 16 [.own (.var 7) 64 19] [
 qN 59 (qm 2),
 qN 60 (.mv (qI 0))])
 (.block 2
 (.loop
 (.seq (qP 17 [
 qN 61 (qb .lss 60 59)])
 (.seq (.cond (T 61)
 .skip
 (.exit 2))
 (.seq (.block 3
 (.seq (qP 18 [
 qN 62 (qt 60),
 qV 8 (T 62)])
 (.seq (qP 19 [
 qN 63 (qm 8),
 qN 64 (qm 1),
 qN 65 (qb .neq 63 64)])
 (.cond (T 65)
 (qR 20 [.lend (.var 7) 71] [
 qN 66 (qm 7),
 qN 67 (qm 8),
 qN 68 (qm 5),
 qN 69 (.call 24 [(T 67),(qI 14),(T 68)]),
 qN 70 (.bls 64 19 (.agg #[(.int .i64 0),(.int .i64 0),(.int .i64 0),(.int .i64 0),(.int .i64 0),(.int .i64 0),(.string (ByteArray.mk #[])),(.int .i64 0),(.int .i64 0),(.int .i64 0),(.int .i64 0),(.int .i64 0),(.int .i64 0),(.int .i64 0),(.int .i64 0),(.bool false),(.slice none 0 0),(.slice none 0 0),(.slice none 0 0)]) 1 [(0,(T 69))]),
 qN 71 (.app 64 19 208 (T 66) (T 70)),
 qV 7 (T 71)])
 .skip))))
 (qP 21 [
 qN 72 (qi .add 60 1),
 qN 60 (qt 72)])))))))
 (.seq (qR 22 [.lend (.var 7) 74,.lend (.cell 0 0) 73,.lend (.cell 0 1) 73,.lend (.cell 0 2) 73,.lend (.cell 0 3) 73,.lend (.cell 0 4) 73,.lend (.cell 0 5) 73,.lend (.cell 0 6) 73,.lend (.cell 0 7) 73,.lend (.cell 0 8) 73] [
 qN 73 (qL 9 3),
 qN 74 (qm 7),
 qS 9 (T 6) (T 73),
 qV 3 (T 74),
 qV 4 (qI 0)])
 .ret)))))))))))))
theorem c10:zC_ Try.prog 10 F10=some (3,zs_ a10,[.c 6 9 true,.v 3,.v 4])/\zq_ a10=true:=⟨by kernel_rfl,by kernel_rfl⟩
def F12:Fr:=⟨16,[0,1,4],[]⟩
def a12:ACode :=
 (.seq (qP 0 [
 qV 2 (qI 0)])
 (.seq (.seq (qP 1 [
 qN 5 (qm 1),
 qN 6 (qi .lss 5 1)])
 (.cond (T 6)
 (.seq (qP 2 [
 qV 2 (qI 0)])
 .ret)
 .skip))
 (.seq (qP 3 [
 qN 7 (qm 0),
 qN 8 (qm 1),
 qN 9 (qb .rem 7 8),
 qV 0 (T 9)])
 (.seq (.seq (qP 4 [
 qN 10 (qm 0),
 qN 11 (qi .lss 10 0)])
 (.cond (T 11)
 (qP 5 [
 qN 12 (qm 0),
 qN 13 (qm 1),
 qN 14 (qb .add 12 13),
 qV 0 (T 14)])
 .skip))
 (.seq (qP 6 [
 qN 15 (qm 0),
 qV 2 (T 15)])
 .ret)))))
theorem c12:zC_ Try.prog 12 F12=some (2,zs_ a12,[.v 2])/\zq_ a12=true:=⟨by kernel_rfl,by kernel_rfl⟩
def F13:Fr:=⟨104,[0,1,2,3,4,11,12,13,44,46,48,15,17],[]⟩
def a13:ACode :=
 (.seq (qP 0 [
 qN 5 (.box 9 (.v 0)),
 qN 9 (.box 18 (.v 4)),
 qN 10 (.allo [(.int .i64 0),(.bool false),(.bool false),(.slice none 0 0),(.bool false),(.bool false),(.bool false),(.int .i64 0),(.int .i64 0)]),
 qV 5 (.c (.slice none 0 0)),
 qV 6 (qI 0)])
 (.seq (.seq (qP 1 [
 qN 18 (qL 9 5),
 qN 19 (qm 1),
 qN 20 (qm 2),
 qN 21 (.call 15 [(T 18),(T 19),(T 20)]),
 qN 22 (.un .not (T 21))])
 (.cond (T 22)
 (.seq (qP 2 [
 qN 23 (.call 21 [(qI 2)]),
 qN 24 (.ext 23 0),
 qN 25 (.ext 23 1),
 qN 26 (.ext 23 2),
 qS 9 (T 10) (T 24),
 qV 5 (T 25),
 qV 6 (T 26)])
 .ret)
 .skip))
 (.seq (.seq (qP 3 [
 qN 27 (qL 9 5),
 qN 28 (qm 1),
 qN 29 (qm 2),
 qN 30 (qm 3),
 qN 31 (qL 18 9),
 qN 32 (.call 25 [(T 27),(T 28),(T 29),(T 30),(T 31)]),
 qV 7 (T 32)])
 (.seq (qP 4 [
 qN 33 (qm 7),
 qN 34 (qi .neq 33 0)])
 (.cond (T 34)
 (.seq (qP 5 [
 qN 35 (qm 7),
 qN 36 (.call 21 [(T 35)]),
 qN 37 (.ext 36 0),
 qN 38 (.ext 36 1),
 qN 39 (.ext 36 2),
 qS 9 (T 10) (T 37),
 qV 5 (T 38),
 qV 6 (T 39)])
 .ret)
 .skip)))
 (.seq (qP 6 [
 qN 40 (qL 9 5),
 qN 41 (.call 26 [(T 40)]),
 qS 9 (T 5) (T 41)])
 (.seq (.seq (qP 7 [
 qN 42 (qf 0 9),
 qN 43 (ql 1 42)])
 (.block 0
 (.seq (.block 4
 (.seq (.block 3
 (.seq (.block 2
 (.seq (.block 1
 (.seq (.seq (.seq (qP 8 [
 qN 45 (qi .eql 43 14),
 qV 8 (T 45)])
 (.cond (.v 8)
 (.exit 1)
 .skip))
 (.seq (.seq (qP 9 [
 qN 47 (qi .eql 43 15),
 qV 9 (T 47)])
 (.cond (.v 9)
 (.exit 2)
 .skip))
 (.seq (qP 10 [
 qN 49 (qi .eql 43 13),
 qV 10 (T 49)])
 (.cond (.v 10)
 (.exit 3)
 .skip))))
 (.exit 4)))
 (.seq (.seq (qP 11 [
 qN 51 (qL 9 5),
 qN 52 (qm 1),
 qN 53 (qm 3),
 qN 54 (qf 11 9),
 qN 55 (ql 1 54),
 qN 56 (.call 27 [(T 51),(T 52),(T 53),(T 55)]),
 qN 50 (qt 56),
 qN 57 (.ext 50 0),
 qN 58 (.ext 50 1),
 qN 14 (.allo [(.int .i64 0),(.bool false),(.bool false),(.slice none 0 0),(.bool false),(.bool false),(.bool false),(.int .i64 0),(.int .i64 0)]),
 qS 9 (T 14) (T 57),
 qV 11 (T 58)])
 (.seq (qR 12 [.lend (.cell 3 0) 59,.lend (.cell 3 1) 59,.lend (.cell 3 2) 59,.lend (.cell 3 3) 59,.lend (.cell 3 4) 59,.lend (.cell 3 5) 59,.lend (.cell 3 6) 59,.lend (.cell 3 7) 59,.lend (.cell 3 8) 59] [
 qN 59 (qL 9 14),
 qN 60 (qm 11),
 qS 9 (T 10) (T 59),
 qV 5 (T 60),
 qV 6 (qI 0)])
 .ret))
 (.exit 0))))
 (.seq (.seq (.seq (qP 13 [
 qN 61 (qf 2 5),
 qN 62 (ql 1 61),
 qN 63 (.un .not (T 62))])
 (.cond (T 63)
 (.seq (qP 14 [
 qN 64 (.call 21 [(qI 14)]),
 qN 65 (.ext 64 0),
 qN 66 (.ext 64 1),
 qN 67 (.ext 64 2),
 qS 9 (T 10) (T 65),
 qV 5 (T 66),
 qV 6 (T 67)])
 .ret)
 .skip))
 (.seq (qP 15 [
 qN 68 (qf 3 5),
 qN 69 (ql 1 68),
 qN 70 (qm 3),
 qN 71 (.ia 1 (T 69) (T 70)),
 ⟨.none,.st 1 (T 71) (.c (.bool true)),none⟩])
 (.seq (.seq (qP 16 [
 qN 72 (qf 3 5),
 qN 73 (ql 1 72),
 qN 74 (.call 28 [(T 73)]),
 qN 75 (.un .not (T 74))])
 (.cond (T 75)
 (.seq (qR 17 [.lend (.cell 0 0) 76,.lend (.cell 0 1) 76,.lend (.cell 0 2) 76,.lend (.cell 0 3) 76,.lend (.cell 0 4) 76,.lend (.cell 0 5) 76,.lend (.cell 0 6) 76,.lend (.cell 0 7) 76,.lend (.cell 0 8) 76] [
 qN 76 (qL 9 5),
 qS 9 (T 10) (T 76),
 qV 5 (.c (.slice none 0 0)),
 qV 6 (qI 0)])
 .ret)
 .skip))
 (.seq (qP 18 [
 qN 78 (qL 9 5),
 qN 79 (.call 23 [(T 78)]),
 qN 77 (qt 79),
 qN 80 (.ext 77 0),
 qN 81 (.ext 77 1),
 qN 16 (.allo [(.int .i64 0),(.bool false),(.bool false),(.slice none 0 0),(.bool false),(.bool false),(.bool false),(.int .i64 0),(.int .i64 0)]),
 qS 9 (T 16) (T 80),
 qV 12 (T 81)])
 (.seq (qR 19 [.lend (.cell 4 0) 82,.lend (.cell 4 1) 82,.lend (.cell 4 2) 82,.lend (.cell 4 3) 82,.lend (.cell 4 4) 82,.lend (.cell 4 5) 82,.lend (.cell 4 6) 82,.lend (.cell 4 7) 82,.lend (.cell 4 8) 82] [
 qN 82 (qL 9 16),
 qN 83 (qm 12),
 qS 9 (T 10) (T 82),
 qV 5 (T 83),
 qV 6 (qI 0)])
 .ret)))))
 (.exit 0))))
 (.seq (qP 20 [
 qN 84 (qf 2 5),
 qN 85 (ql 1 84)])
 (.cond (T 85)
 (.seq (qP 21 [
 qN 86 (.call 21 [(qI 14)]),
 qN 87 (.ext 86 0),
 qN 88 (.ext 86 1),
 qN 89 (.ext 86 2),
 qS 9 (T 10) (T 87),
 qV 5 (T 88),
 qV 6 (T 89)])
 .ret)
 .skip))))
 (.seq (.seq (qP 22 [
 qN 90 (qf 1 5),
 qN 91 (ql 1 90)])
 (.cond (T 91)
 (.seq (qP 23 [
 qN 92 (.call 21 [(qI 19)]),
 qN 93 (.ext 92 0),
 qN 94 (.ext 92 1),
 qN 95 (.ext 92 2),
 qS 9 (T 10) (T 93),
 qV 5 (T 94),
 qV 6 (T 95)])
 .ret)
 .skip))
 (.exit 0)))))
 (.seq (qP 24 [
 qN 96 (qL 9 5),
 qN 97 (qm 1),
 qN 98 (qm 2),
 qN 99 (qL 18 9),
 qN 100 (.call 29 [(T 96),(T 97),(T 98),(T 99)]),
 qN 101 (.ext 100 0),
 qN 102 (.ext 100 1),
 qN 103 (.ext 100 2),
 qS 9 (T 10) (T 101),
 qV 5 (T 102),
 qV 6 (T 103)])
 .ret))))))
theorem c13:zC_ Try.prog 13 F13=some (5,zs_ a13,[.c 10 9 true,.v 5,.v 6])/\zq_ a13=true:=⟨by kernel_rfl,by kernel_rfl⟩
def F14:Fr:=⟨20,[0,1,5,7],[]⟩
def a14:ACode :=
 (.seq (qP 0 [
 qN 4 (.allo [(.int .i64 0),(.bool false),(.bool false),(.slice none 0 0),(.bool false),(.bool false),(.bool false),(.int .i64 0),(.int .i64 0)]),
 qV 2 (qI 0)])
 (.seq (qP 1 [
 qN 9 (qm 0),
 qN 10 (qm 1),
 qN 11 (.call 30 [(T 9),(T 10)]),
 qN 8 (qt 11),
 qN 12 (.ext 8 0),
 qN 13 (.ext 8 1),
 qN 6 (.allo [(.bool false),(.bool false),(.bool false),(.int .i64 0),(.int .i64 0)]),
 qS 5 (T 6) (T 12),
 qV 3 (T 13)])
 (.seq (.seq (qP 2 [
 qN 14 (qm 3),
 qN 15 (qi .neq 14 0)])
 (.cond (T 15)
 (.seq (qP 3 [
 qN 16 (.bld [(.int .i64 0),(.bool false),(.bool false),(.slice none 0 0),(.bool false),(.bool false),(.bool false),(.int .i64 0),(.int .i64 0)] []),
 qN 17 (qm 3),
 qS 9 (T 4) (T 16),
 qV 2 (T 17)])
 .ret)
 .skip))
 (.seq (qP 4 [
 qN 18 (qL 5 6),
 qN 19 (.bld [(.int .i64 0),(.bool false),(.bool false),(.slice none 0 0),(.bool false),(.bool false),(.bool false),(.int .i64 0),(.int .i64 0)] [(4,5,(T 18))]),
 qS 9 (T 4) (T 19),
 qV 2 (qI 0)])
 .ret))))
theorem c14:zC_ Try.prog 14 F14=some (2,zs_ a14,[.c 4 9 true,.v 2])/\zq_ a14=true:=⟨by kernel_rfl,by kernel_rfl⟩
def F15:Fr:=⟨61,[0,1,2,6],[]⟩
def a15:ACode :=
 (.seq (qP 0 [
 qN 3 (.box 9 (.v 0)),
 qV 3 (.c (.bool false))])
 (.seq (.seq (qP 1 [
 qN 8 (qm 1),
 qN 9 (qm 2),
 qN 10 (.call 31 [(T 8),(T 9)]),
 qN 11 (.un .not (T 10)),
 qN 12 (qt 11),
 qG 13 12 false (qf 0 3),
 qG 14 12 false (ql 1 13),
 qG 15 12 false (.call 32 [(T 14)]),
 qG 16 12 false (.un .not (T 15)),
 qN 17 (qo 12 16)])
 (.cond (T 17)
 (.seq (qP 2 [
 qV 3 (.c (.bool false))])
 .ret)
 .skip))
 (.seq (.seq (qP 3 [
 qN 18 (qf 1 3),
 qN 19 (ql 1 18)])
 (.cond (T 19)
 (.seq (qR 4 [.lend (.cell 0 4) 21,.lend (.cell 0 5) 21,.lend (.cell 0 6) 21,.lend (.cell 0 7) 21,.lend (.cell 0 8) 21] [
 qN 20 (qf 4 3),
 qN 21 (qL 5 20),
 qN 7 (.allo [(.bool false),(.bool false),(.bool false),(.int .i64 0),(.int .i64 0)]),
 qS 5 (T 7) (T 21)])
 (.seq (qP 5 [
 qN 22 (qf 3 7),
 qN 23 (ql 1 22),
 qN 24 (qi .add 23 1),
 qN 25 (qf 3 7),
 qS 1 (T 25) (T 24)])
 (.seq (qP 6 [
 qN 26 (qf 4 7),
 qN 27 (ql 1 26),
 qN 28 (qi .add 27 1),
 qN 29 (qf 4 7),
 qS 1 (T 29) (T 28)])
 (.seq (qP 7 [
 qN 30 (qf 2 3),
 qN 31 (ql 1 30),
 qN 32 (.un .not (T 31)),
 qN 33 (qt 32),
 qG 34 33 true (qf 3 3),
 qG 35 33 true (ql 1 34),
 qG 36 33 true (.len (T 35)),
 qG 37 33 true (qi .eql 36 0),
 qN 38 (qa 33 37),
 qN 39 (qt 38),
 qG 40 39 true (qL 5 7),
 qG 41 39 true (.bld [(.bool false),(.bool false),(.bool false),(.int .i64 0),(.int .i64 0)] []),
 qG 42 39 true (.ex (.eqA false [.bool,.bool,.bool,.int,.int]) (T 40) (T 41)),
 qN 43 (qa 39 42),
 qV 3 (T 43)])
 .ret))))
 .skip))
 (.seq (.seq (qP 8 [
 qN 44 (qf 2 3),
 qN 45 (ql 1 44)])
 (.cond (T 45)
 (.seq (qP 9 [
 qN 46 (qL 9 3),
 qN 47 (qm 1),
 qN 48 (qm 2),
 qN 49 (.call 33 [(T 46),(T 47),(T 48)]),
 qV 3 (T 49)])
 .ret)
 .skip))
 (.seq (qP 10 [
 qN 50 (qf 3 3),
 qN 51 (ql 1 50),
 qN 52 (.len (T 51)),
 qN 53 (qi .eql 52 0),
 qN 54 (qt 53),
 qG 55 54 true (qf 4 3),
 qG 56 54 true (qL 5 55),
 qG 57 54 true (qm 1),
 qG 58 54 true (qm 2),
 qG 59 54 true (.call 34 [(T 56),(T 57),(T 58)]),
 qN 60 (qa 54 59),
 qV 3 (T 60)])
 .ret)))))
theorem c15:zC_ Try.prog 15 F15=some (3,zs_ a15,[.v 3])/\zq_ a15=true:=⟨by kernel_rfl,by kernel_rfl⟩
def F16:Fr:=⟨13,[0,2],[]⟩
def a16:ACode :=
 (.seq (qP 0 [
 qV 1 (.c (.bool false))])
 (.seq (.reg 1 [] [
 qN 3 (qm 0),
 qN 4 (.nilck (T 3)),
 qN 5 (qf 1 4),
 qN 6 (ql 1 5),
 qN 7 (qm 0),
 qN 8 (.nilck (T 7)),
 qN 9 (qf 0 8),
 qN 10 (ql 1 9),
 qN 11 (.len (T 10)),
 qN 12 (qb .lss 6 11),
 qV 1 (T 12)] (some [[],[0],[1],[2],[],[4],[5],[6],[7],[3,8],[9,0,1,2,3,4,5,6,7,8,9]]) ⟨[],[],[],[]⟩)
 .ret))
theorem c16:zC_ Try.prog 16 F16=some (1,zs_ a16,[.v 1])/\zq_ a16=true:=⟨by kernel_rfl,by kernel_rfl⟩
def F21:Fr:=⟨7,[0,3,4],[]⟩
def a21:ACode :=
 (.seq (qP 0 [
 qN 2 (.allo [(.int .i64 0),(.bool false),(.bool false),(.slice none 0 0),(.bool false),(.bool false),(.bool false),(.int .i64 0),(.int .i64 0)]),
 qV 1 (.c (.slice none 0 0)),
 qV 2 (qI 0)])
 (.seq (qP 1 [
 qN 5 (.bld [(.int .i64 0),(.bool false),(.bool false),(.slice none 0 0),(.bool false),(.bool false),(.bool false),(.int .i64 0),(.int .i64 0)] []),
 qN 6 (qm 0),
 qS 9 (T 2) (T 5),
 qV 1 (.c (.slice none 0 0)),
 qV 2 (T 6)])
 .ret))
theorem c21:zC_ Try.prog 21 F21=some (1,zs_ a21,[.c 2 9 true,.v 1,.v 2])/\zq_ a21=true:=⟨by kernel_rfl,by kernel_rfl⟩
def F22:Fr:=⟨18,[0,1,5],[]⟩
def a22:ACode :=
 (.seq (qP 0 [
 qN 2 (.box 9 (.v 0)),
 qN 4 (.allo [(.int .i64 0),(.bool false),(.bool false),(.slice none 0 0),(.bool false),(.bool false),(.bool false),(.int .i64 0),(.int .i64 0)])])
 (.seq (qP 1 [
 qN 6 (qf 4 2),
 qN 7 (qf 2 6),
 qN 8 (ql 1 7),
 qN 9 (qt 8),
 qG 10 9 false (qf 4 2),
 qG 11 9 false (qf 1 10),
 qG 12 9 false (ql 1 11),
 qN 13 (qo 9 12),
 qV 2 (T 13)])
 (.seq (qP 2 [
 qN 14 (qm 1),
 qN 15 (qm 2),
 qN 16 (.bld [(.bool false),(.bool false),(.bool false),(.int .i64 0),(.int .i64 0)] [(1,1,(T 15)),(3,1,(.c (.int .i64 (-1)))),(4,1,(.c (.int .i64 (-1))))]),
 qN 17 (.bld [(.int .i64 0),(.bool false),(.bool false),(.slice none 0 0),(.bool false),(.bool false),(.bool false),(.int .i64 0),(.int .i64 0)] [(0,1,(T 14)),(4,5,(T 16))]),
 qS 9 (T 4) (T 17)])
 .ret)))
theorem c22:zC_ Try.prog 22 F22=some (2,zs_ a22,[.c 4 9 true])/\zq_ a22=true:=⟨by kernel_rfl,by kernel_rfl⟩
def F23:Fr:=⟨35,[0,3,4],[]⟩
def F24:Fr:=⟨12,[0,1,2],[]⟩
def a24:ACode :=
 (.seq (qP 0 [
 qN 6 (.allo [(.int .i64 0),(.int .i64 0),(.int .i64 0),(.int .i64 0),(.int .i64 0),(.int .i64 0),(.string (ByteArray.mk #[])),(.int .i64 0),(.int .i64 0),(.int .i64 0),(.int .i64 0),(.int .i64 0),(.int .i64 0),(.int .i64 0),(.int .i64 0),(.bool false),(.slice none 0 0),(.slice none 0 0),(.slice none 0 0)])])
 (.seq (qP 1 [
 qN 7 (qm 0),
 qN 8 (qm 1),
 qN 9 (qm 2),
 qN 10 (.bld [(.int .i64 0),(.int .i64 0),(.int .i64 0),(.int .i64 0),(.int .i64 0),(.string (ByteArray.mk #[])),(.int .i64 0),(.int .i64 0),(.int .i64 0),(.int .i64 0),(.int .i64 0),(.int .i64 0),(.int .i64 0),(.int .i64 0),(.bool false),(.slice none 0 0),(.slice none 0 0),(.slice none 0 0)] [(0,1,(T 8)),(11,1,(T 9))]),
 qN 11 (.bld [(.int .i64 0),(.int .i64 0),(.int .i64 0),(.int .i64 0),(.int .i64 0),(.int .i64 0),(.string (ByteArray.mk #[])),(.int .i64 0),(.int .i64 0),(.int .i64 0),(.int .i64 0),(.int .i64 0),(.int .i64 0),(.int .i64 0),(.int .i64 0),(.bool false),(.slice none 0 0),(.slice none 0 0),(.slice none 0 0)] [(0,1,(T 7)),(1,18,(T 10))]),
 qS 19 (T 6) (T 11)])
 .ret))
theorem c24:zC_ Try.prog 24 F24=some (3,zs_ a24,[.c 6 19 true])/\zq_ a24=true:=⟨by kernel_rfl,by kernel_rfl⟩
def F25:Fr:=⟨49,[0,1,2,3,4,10,13,21],[]⟩
def a25:ACode :=
 (.seq (qP 0 [
 qN 5 (.box 9 (.v 0)),
 qN 9 (.box 18 (.v 4)),
 qV 5 (qI 0)])
 (.seq (.seq (qP 1 [
 qN 11 (qf 0 9),
 qN 12 (ql 1 11)])
 (.block 0
 (.seq (qP 3 [
 qN 14 (qi .eql 12 12),
 qV 6 (T 14)])
 (.cond (.v 6)
 (.seq (qP 4 [
 qN 15 (qf 12 9),
 qN 16 (ql 1 15),
 qN 17 (qm 1),
 qN 18 (qm 2),
 qN 19 (.call 38 [(T 16),(T 17),(T 18)]),
 qN 20 (.un .not (T 19))])
 (.cond (T 20)
 (.seq (qP 5 [
 qV 5 (qI 1)])
 .ret)
 .skip))
 (.seq (.seq (qP 6 [
 qN 22 (qi .eql 12 13),
 qV 7 (T 22)])
 (.cond (.v 7)
 .skip
 (.seq (qP 7 [
 qN 23 (qi .eql 12 14),
 qV 7 (T 23)])
 (.cond (.v 7)
 .skip
 (qP 8 [
 qN 24 (qi .eql 12 15),
 qV 7 (T 24)])))))
 (.cond (.v 7)
 .skip
 (.seq (qP 2 [
 qV 5 (qI 1)])
 .ret)))))))
 (.seq (.seq (qP 9 [
 qN 25 (qm 3),
 qN 26 (qm 1),
 qN 27 (qm 2),
 qN 28 (.call 38 [(T 25),(T 26),(T 27)]),
 qN 29 (.un .not (T 28)),
 qN 30 (qt 29),
 qG 31 30 false (qf 11 9),
 qG 32 30 false (ql 1 31),
 qG 33 30 false (.call 32 [(T 32)]),
 qG 34 30 false (.un .not (T 33)),
 qN 35 (qo 30 34)])
 (.cond (T 35)
 (.seq (qP 10 [
 qV 5 (qI 1)])
 .ret)
 .skip))
 (.seq (.seq (qP 11 [
 qN 36 (qf 0 9),
 qN 37 (ql 1 36),
 qN 38 (qi .eql 37 14)])
 (.cond (T 38)
 (.seq (qP 12 [
 qN 39 (qf 11 9),
 qN 40 (ql 1 39),
 qN 41 (qf 0 5),
 qN 42 (ql 1 41),
 qN 43 (qb .leq 40 42)])
 (.cond (T 43)
 (.seq (qP 13 [
 qV 5 (qI 18)])
 .ret)
 .skip))
 (.seq (qP 14 [
 qN 44 (qf 11 9),
 qN 45 (ql 1 44),
 qN 46 (qf 0 5),
 qN 47 (ql 1 46),
 qN 48 (qb .neq 45 47)])
 (.cond (T 48)
 (.seq (qP 15 [
 qV 5 (qI 18)])
 .ret)
 .skip))))
 (.seq (qP 16 [
 qV 5 (qI 0)])
 .ret)))))
theorem c25:zC_ Try.prog 25 F25=some (5,zs_ a25,[.v 5])/\zq_ a25=true:=⟨by kernel_rfl,by kernel_rfl⟩
def F26:Fr:=⟨8,[0],[]⟩
def a26:ACode :=
 (.seq (qP 0 [
 qN 1 (.box 9 (.v 0)),
 qN 2 (.allo [(.int .i64 0),(.bool false),(.bool false),(.slice none 0 0),(.bool false),(.bool false),(.bool false),(.int .i64 0),(.int .i64 0)])])
 (.seq (qP 1 [
 qN 3 (qf 3 1),
 qN 4 (ql 1 3),
 qN 5 (.app 4 1 1 (.c (.slice none 0 0)) (T 4)),
 qN 6 (qf 3 1),
 qS 1 (T 6) (T 5)])
 (.seq (qR 2 [.lend (.cell 0 0) 7,.lend (.cell 0 1) 7,.lend (.cell 0 2) 7,.lend (.cell 0 3) 7,.lend (.cell 0 4) 7,.lend (.cell 0 5) 7,.lend (.cell 0 6) 7,.lend (.cell 0 7) 7,.lend (.cell 0 8) 7] [
 qN 7 (qL 9 1),
 qS 9 (T 2) (T 7)])
 .ret)))
theorem c26:zC_ Try.prog 26 F26=some (1,zs_ a26,[.c 2 9 true])/\zq_ a26=true:=⟨by kernel_rfl,by kernel_rfl⟩
def F27:Fr:=⟨39,[0,1,2,3,9,10],[]⟩
def F28:Fr:=⟨14,[0,2,4],[]⟩
def a28:ACode :=
 (.seq (qP 0 [
 qV 1 (.c (.bool false))])
 (.seq (.seq (qP 1 [
 qN 5 (qm 0),
 qN 6 (.len (T 5)),
 qN 7 (.mv (qI 0))])
 (.block 0
 (.loop
 (.seq (qP 2 [
 qN 8 (qb .lss 7 6)])
 (.seq (.cond (T 8)
 .skip
 (.exit 0))
 (.seq (.block 1
 (.seq (qP 3 [
 qN 9 (.ia 1 (T 5) (T 7)),
 qN 10 (ql 1 9),
 qV 2 (T 10)])
 (.seq (qP 4 [
 qN 11 (qm 2),
 qN 12 (.un .not (T 11))])
 (.cond (T 12)
 (.seq (qP 5 [
 qV 1 (.c (.bool false))])
 .ret)
 .skip))))
 (qP 6 [
 qN 13 (qi .add 7 1),
 qN 7 (qt 13)])))))))
 (.seq (qP 7 [
 qV 1 (.c (.bool true))])
 .ret)))
theorem c28:zC_ Try.prog 28 F28=some (1,zs_ a28,[.v 1])/\zq_ a28=true:=⟨by kernel_rfl,by kernel_rfl⟩
def F29:Fr:=⟨47,[0,1,2,3,9,10,12,13],[]⟩
def a29:ACode :=
 (.seq (qP 0 [
 qN 4 (.box 9 (.v 0)),
 qN 7 (.box 18 (.v 3)),
 qN 8 (.allo [(.int .i64 0),(.bool false),(.bool false),(.slice none 0 0),(.bool false),(.bool false),(.bool false),(.int .i64 0),(.int .i64 0)]),
 qV 4 (.c (.slice none 0 0)),
 qV 5 (qI 0)])
 (.seq (qR 1 [.lend (.cell 0 4) 15,.lend (.cell 0 5) 15,.lend (.cell 0 6) 15,.lend (.cell 0 7) 15,.lend (.cell 0 8) 15] [
 qN 14 (qf 4 4),
 qN 15 (qL 5 14),
 qN 11 (.allo [(.bool false),(.bool false),(.bool false),(.int .i64 0),(.int .i64 0)]),
 qS 5 (T 11) (T 15)])
 (.seq (.seq (qP 2 [
 qN 16 (qf 2 4),
 qN 17 (ql 1 16)])
 (.cond (T 17)
 (qP 3 [
 qN 18 (qf 1 11),
 ⟨.none,.st 1 (T 18) (.c (.bool true)),none⟩])
 .skip))
 (.seq (qP 4 [
 qN 20 (qL 5 11),
 qN 21 (qm 1),
 qN 22 (qm 2),
 qN 23 (qf 0 4),
 qN 24 (ql 1 23),
 qN 25 (qL 18 7),
 qN 26 (.call 39 [(T 20),(T 21),(T 22),(T 24),(T 25)]),
 qN 19 (qt 26),
 qN 27 (.ext 19 0),
 qN 28 (.ext 19 1),
 qN 29 (.ext 19 2),
 qS 5 (T 11) (T 27),
 qV 6 (T 28),
 qV 7 (T 29)])
 (.seq (.seq (qP 5 [
 qN 30 (qm 7),
 qN 31 (qi .neq 30 0)])
 (.cond (T 31)
 (.seq (qP 6 [
 qN 32 (qm 7),
 qN 33 (.call 21 [(T 32)]),
 qN 34 (.ext 33 0),
 qN 35 (.ext 33 1),
 qN 36 (.ext 33 2),
 qS 9 (T 8) (T 34),
 qV 4 (T 35),
 qV 5 (T 36)])
 .ret)
 .skip))
 (.seq (.seq (qP 7 [
 qN 37 (qf 2 4),
 qN 38 (ql 1 37)])
 (.cond (T 38)
 (qP 8 [
 qN 39 (qf 4 4),
 qN 40 (qf 1 39),
 qN 41 (ql 1 40),
 qN 42 (qf 1 11),
 qS 1 (T 42) (T 41)])
 .skip))
 (.seq (qR 9 [.lend (.cell 3 0) 43,.lend (.cell 3 1) 43,.lend (.cell 3 2) 43,.lend (.cell 3 3) 43,.lend (.cell 3 4) 43] [
 qN 43 (qL 5 11),
 qN 44 (qf 4 4),
 qS 5 (T 44) (T 43)])
 (.seq (qR 10 [.lend (.cell 0 0) 45,.lend (.cell 0 1) 45,.lend (.cell 0 2) 45,.lend (.cell 0 3) 45,.lend (.cell 0 4) 45,.lend (.cell 0 5) 45,.lend (.cell 0 6) 45,.lend (.cell 0 7) 45,.lend (.cell 0 8) 45] [
 qN 45 (qL 9 4),
 qN 46 (qm 6),
 qS 9 (T 8) (T 45),
 qV 4 (T 46),
 qV 5 (qI 0)])
 .ret))))))))
theorem c29:zC_ Try.prog 29 F29=some (4,zs_ a29,[.c 8 9 true,.v 4,.v 5])/\zq_ a29=true:=⟨by kernel_rfl,by kernel_rfl⟩
def F30:Fr:=⟨15,[0,1,5],[]⟩
def a30:ACode :=
 (.seq (qP 0 [
 qN 4 (.allo [(.bool false),(.bool false),(.bool false),(.int .i64 0),(.int .i64 0)]),
 qV 2 (qI 0)])
 (.seq (.seq (qP 1 [
 qN 6 (qm 0),
 qN 7 (qm 1),
 qN 8 (.call 40 [(T 6),(T 7)]),
 qN 9 (.un .not (T 8))])
 (.cond (T 9)
 (.seq (qP 2 [
 qN 10 (.bld [(.bool false),(.bool false),(.bool false),(.int .i64 0),(.int .i64 0)] []),
 qS 5 (T 4) (T 10),
 qV 2 (qI 1)])
 .ret)
 .skip))
 (.seq (.seq (qP 3 [
 qN 11 (qm 0),
 qN 12 (qi .eql 11 0)])
 (.cond (T 12)
 (.seq (qP 4 [
 qN 13 (.bld [(.bool false),(.bool false),(.bool false),(.int .i64 0),(.int .i64 0)] [(0,1,(.c (.bool true))),(3,1,(.c (.int .i64 (-1)))),(4,1,(.c (.int .i64 (-1))))]),
 qS 5 (T 4) (T 13),
 qV 2 (qI 0)])
 .ret)
 .skip))
 (.seq (qP 5 [
 qN 14 (.bld [(.bool false),(.bool false),(.bool false),(.int .i64 0),(.int .i64 0)] [(3,1,(qI 0)),(4,1,(.c (.int .i64 (-1))))]),
 qS 5 (T 4) (T 14),
 qV 2 (qI 0)])
 .ret))))
theorem c30:zC_ Try.prog 30 F30=some (2,zs_ a30,[.c 4 5 true,.v 2])/\zq_ a30=true:=⟨by kernel_rfl,by kernel_rfl⟩
def F31:Fr:=⟨20,[0,1,4],[]⟩
def a31:ACode :=
 (.seq (qP 0 [
 qV 2 (.c (.bool false))])
 (.seq (qP 1 [
 qN 5 (qm 1),
 qN 6 (qi .geq 5 1),
 qN 7 (qt 6),
 qG 8 7 true (qm 1),
 qG 9 7 true (qi .leq 8 4),
 qN 10 (qa 7 9),
 qN 11 (qt 10),
 qG 12 11 true (qm 0),
 qG 13 11 true (qi .geq 12 0),
 qN 14 (qa 11 13),
 qN 15 (qt 14),
 qG 16 15 true (qm 0),
 qG 17 15 true (qm 1),
 qG 18 15 true (qb .lss 16 17),
 qN 19 (qa 15 18),
 qV 2 (T 19)])
 .ret))
theorem c31:zC_ Try.prog 31 F31=some (2,zs_ a31,[.v 2])/\zq_ a31=true:=⟨by kernel_rfl,by kernel_rfl⟩
def F32:Fr:=⟨9,[0,2],[]⟩
def a32:ACode :=
 (.seq (qP 0 [
 qV 1 (.c (.bool false))])
 (.seq (qP 1 [
 qN 3 (qm 0),
 qN 4 (qi .geq 3 0),
 qN 5 (qt 4),
 qG 6 5 true (qm 0),
 qG 7 5 true (qi .leq 6 1073741824),
 qN 8 (qa 5 7),
 qV 1 (T 8)])
 .ret))
theorem c32:zC_ Try.prog 32 F32=some (1,zs_ a32,[.v 1])/\zq_ a32=true:=⟨by kernel_rfl,by kernel_rfl⟩
def F33:Fr:=⟨65,[0,1,2,6],[]⟩
def a33:ACode :=
 (.seq (qP 0 [
 qN 3 (.box 9 (.v 0)),
 qV 3 (.c (.bool false))])
 (.seq (.seq (qP 1 [
 qN 8 (qf 3 3),
 qN 9 (ql 1 8),
 qN 10 (.len (T 9)),
 qN 11 (qm 2),
 qN 12 (qb .neq 10 11),
 qN 13 (qt 12),
 qG 14 13 false (qf 3 3),
 qG 15 13 false (ql 1 14),
 qG 16 13 false (qm 1),
 qG 17 13 false (.ia 1 (T 15) (T 16)),
 qG 18 13 false (ql 1 17),
 qG 19 13 false (.un .not (T 18)),
 qN 20 (qo 13 19),
 qN 21 (qt 20),
 qG 22 21 false (qf 3 3),
 qG 23 21 false (ql 1 22),
 qG 24 21 false (.call 28 [(T 23)]),
 qN 25 (qo 21 24)])
 (.cond (T 25)
 (.seq (qP 2 [
 qV 3 (.c (.bool false))])
 .ret)
 .skip))
 (.seq (qR 3 [.lend (.cell 0 4) 27,.lend (.cell 0 5) 27,.lend (.cell 0 6) 27,.lend (.cell 0 7) 27,.lend (.cell 0 8) 27] [
 qN 26 (qf 4 3),
 qN 27 (qL 5 26),
 qN 7 (.allo [(.bool false),(.bool false),(.bool false),(.int .i64 0),(.int .i64 0)]),
 qS 5 (T 7) (T 27)])
 (.seq (.seq (qP 4 [
 qN 28 (qf 0 7),
 qN 29 (ql 1 28),
 qN 30 (qt 29),
 qG 31 30 false (qf 2 7),
 qG 32 30 false (ql 1 31),
 qN 33 (qo 30 32)])
 (.cond (T 33)
 (.seq (qP 5 [
 qV 3 (.c (.bool false))])
 .ret)
 .skip))
 (.seq (.seq (qP 6 [
 qN 34 (qf 3 7),
 qN 35 (ql 1 34),
 qN 36 (.bin .neq (T 35) (.c (.int .i64 (-1)))),
 qN 37 (qt 36),
 qG 38 37 true (qf 3 7),
 qG 39 37 true (ql 1 38),
 qG 40 37 true (qm 1),
 qG 41 37 true (qm 2),
 qG 42 37 true (.call 38 [(T 39),(T 40),(T 41)]),
 qG 43 37 true (.un .not (T 42)),
 qN 44 (qa 37 43),
 qN 45 (qt 44),
 qG 46 45 false (qf 4 7),
 qG 47 45 false (ql 1 46),
 qG 48 45 false (.bin .neq (T 47) (.c (.int .i64 (-1)))),
 qG 49 45 false (qt 48),
 qG 50 49 true (qf 4 7),
 qG 51 49 true (ql 1 50),
 qG 52 49 true (qm 1),
 qG 53 49 true (qm 2),
 qG 54 49 true (.call 38 [(T 51),(T 52),(T 53)]),
 qG 55 49 true (.un .not (T 54)),
 qG 56 45 false (qa 49 55),
 qN 57 (qo 45 56)])
 (.cond (T 57)
 (.seq (qP 7 [
 qV 3 (.c (.bool false))])
 .ret)
 .skip))
 (.seq (qP 8 [
 qN 58 (qf 4 7),
 qN 59 (ql 1 58),
 qN 60 (.bin .eql (T 59) (.c (.int .i64 (-1)))),
 qN 61 (qf 3 7),
 qN 62 (ql 1 61),
 qN 63 (.bin .eql (T 62) (.c (.int .i64 (-1)))),
 qN 64 (.bib .eql (T 60) (T 63)),
 qV 3 (T 64)])
 .ret))))))
theorem c33:zC_ Try.prog 33 F33=some (3,zs_ a33,[.v 3])/\zq_ a33=true:=⟨by kernel_rfl,by kernel_rfl⟩
def F34:Fr:=⟨74,[0,1,2,6],[]⟩
def a34:ACode :=
 (.seq (qP 0 [
 qN 3 (.box 5 (.v 0)),
 qV 3 (.c (.bool false))])
 (.seq (.seq (qP 1 [
 qN 7 (qm 1),
 qN 8 (qm 2),
 qN 9 (.call 40 [(T 7),(T 8)]),
 qN 10 (.un .not (T 9))])
 (.cond (T 10)
 (.seq (qP 2 [
 qV 3 (.c (.bool false))])
 .ret)
 .skip))
 (.seq (.seq (qP 3 [
 qN 11 (qf 3 3),
 qN 12 (ql 1 11),
 qN 13 (.bin .neq (T 12) (.c (.int .i64 (-1)))),
 qN 14 (qt 13),
 qG 15 14 true (qf 3 3),
 qG 16 14 true (ql 1 15),
 qG 17 14 true (qm 1),
 qG 18 14 true (qm 2),
 qG 19 14 true (.call 41 [(T 16),(T 17),(T 18)]),
 qG 20 14 true (.un .not (T 19)),
 qN 21 (qa 14 20),
 qN 22 (qt 21),
 qG 23 22 false (qf 4 3),
 qG 24 22 false (ql 1 23),
 qG 25 22 false (.bin .neq (T 24) (.c (.int .i64 (-1)))),
 qG 26 22 false (qt 25),
 qG 27 26 true (qf 4 3),
 qG 28 26 true (ql 1 27),
 qG 29 26 true (qm 1),
 qG 30 26 true (qm 2),
 qG 31 26 true (.call 41 [(T 28),(T 29),(T 30)]),
 qG 32 26 true (.un .not (T 31)),
 qG 33 22 false (qa 26 32),
 qN 34 (qo 22 33)])
 (.cond (T 34)
 (.seq (qP 4 [
 qV 3 (.c (.bool false))])
 .ret)
 .skip))
 (.seq (.seq (qP 5 [
 qN 35 (qf 2 3),
 qN 36 (ql 1 35),
 qN 37 (qt 36),
 qG 38 37 true (qf 0 3),
 qG 39 37 true (ql 1 38),
 qG 40 37 true (.un .not (T 39)),
 qN 41 (qa 37 40),
 qN 42 (qt 41),
 qG 43 42 false (qf 1 3),
 qG 44 42 false (ql 1 43),
 qG 45 42 false (qt 44),
 qG 46 45 true (qf 0 3),
 qG 47 45 true (ql 1 46),
 qG 48 42 false (qa 45 47),
 qN 49 (qo 42 48)])
 (.cond (T 49)
 (.seq (qP 6 [
 qV 3 (.c (.bool false))])
 .ret)
 .skip))
 (.seq (.seq (qP 7 [
 qN 50 (qf 2 3),
 qN 51 (ql 1 50),
 qN 52 (qt 51),
 qG 53 52 false (qf 1 3),
 qG 54 52 false (ql 1 53),
 qN 55 (qo 52 54)])
 (.cond (T 55)
 (.seq (qP 8 [
 qN 56 (qf 4 3),
 qN 57 (ql 1 56),
 qN 58 (.bin .eql (T 57) (.c (.int .i64 (-1)))),
 qN 59 (qf 3 3),
 qN 60 (ql 1 59),
 qN 61 (.bin .eql (T 60) (.c (.int .i64 (-1)))),
 qN 62 (.bib .eql (T 58) (T 61)),
 qV 3 (T 62)])
 .ret)
 .skip))
 (.seq (qP 9 [
 qN 63 (qf 4 3),
 qN 64 (ql 1 63),
 qN 65 (.bin .eql (T 64) (.c (.int .i64 (-1)))),
 qN 66 (qt 65),
 qG 67 66 true (qf 3 3),
 qG 68 66 true (ql 1 67),
 qG 69 66 true (.bin .eql (T 68) (.c (.int .i64 (-1)))),
 qG 70 66 true (qf 0 3),
 qG 71 66 true (ql 1 70),
 qG 72 66 true (.bib .eql (T 69) (T 71)),
 qN 73 (qa 66 72),
 qV 3 (T 73)])
 .ret))))))
theorem c34:zC_ Try.prog 34 F34=some (3,zs_ a34,[.v 3])/\zq_ a34=true:=⟨by kernel_rfl,by kernel_rfl⟩
def F35:Fr:=⟨21,[0,1,2,7],[]⟩
def a35:ACode :=
 (.seq (qP 0 [
 qN 6 (.allo [(.int .i64 0),(.bool false),(.bool false),(.slice none 0 0),(.bool false),(.bool false),(.bool false),(.int .i64 0),(.int .i64 0)]),
 qV 3 (qI 0)])
 (.seq (.seq (qP 1 [
 qN 8 (qm 0),
 qN 9 (qm 1),
 qN 10 (.call 31 [(T 8),(T 9)]),
 qN 11 (.un .not (T 10)),
 qN 12 (qt 11),
 qG 13 12 false (qm 2),
 qG 14 12 false (.call 32 [(T 13)]),
 qG 15 12 false (.un .not (T 14)),
 qN 16 (qo 12 15)])
 (.cond (T 16)
 (.seq (qP 2 [
 qN 17 (.bld [(.int .i64 0),(.bool false),(.bool false),(.slice none 0 0),(.bool false),(.bool false),(.bool false),(.int .i64 0),(.int .i64 0)] []),
 qS 9 (T 6) (T 17),
 qV 3 (qI 1)])
 .ret)
 .skip))
 (.seq (qP 3 [
 qN 18 (qm 2),
 qN 19 (.bld [(.bool false),(.bool false),(.bool false),(.int .i64 0),(.int .i64 0)] [(3,1,(.c (.int .i64 (-1)))),(4,1,(.c (.int .i64 (-1))))]),
 qN 20 (.bld [(.int .i64 0),(.bool false),(.bool false),(.slice none 0 0),(.bool false),(.bool false),(.bool false),(.int .i64 0),(.int .i64 0)] [(0,1,(T 18)),(1,1,(.c (.bool true))),(4,5,(T 19))]),
 qS 9 (T 6) (T 20),
 qV 3 (qI 0)])
 .ret)))
theorem c35:zC_ Try.prog 35 F35=some (3,zs_ a35,[.c 6 9 true,.v 3])/\zq_ a35=true:=⟨by kernel_rfl,by kernel_rfl⟩
def F36:Fr:=⟨53,[0,1,2,7,8,10,11],[]⟩
def a36:ACode :=
 (.seq (qP 0 [
 qN 3 (.box 9 (.v 0)),
 qN 6 (.allo [(.int .i64 0),(.bool false),(.bool false),(.slice none 0 0),(.bool false),(.bool false),(.bool false),(.int .i64 0),(.int .i64 0)]),
 qV 3 (.c (.slice none 0 0)),
 qV 4 (qI 0)])
 (.seq (.seq (qP 1 [
 qN 12 (qL 9 3),
 qN 13 (qm 1),
 qN 14 (qm 2),
 qN 15 (.call 15 [(T 12),(T 13),(T 14)]),
 qN 16 (.un .not (T 15))])
 (.cond (T 16)
 (.seq (qP 2 [
 qN 17 (.call 21 [(qI 2)]),
 qN 18 (.ext 17 0),
 qN 19 (.ext 17 1),
 qN 20 (.ext 17 2),
 qS 9 (T 6) (T 18),
 qV 3 (T 19),
 qV 4 (T 20)])
 .ret)
 .skip))
 (.seq (.seq (qP 3 [
 qN 21 (qf 4 3),
 qN 22 (qf 2 21),
 qN 23 (ql 1 22),
 qN 24 (.un .not (T 23))])
 (.cond (T 24)
 (.seq (qP 4 [
 qN 25 (.call 21 [(qI 14)]),
 qN 26 (.ext 25 0),
 qN 27 (.ext 25 1),
 qN 28 (.ext 25 2),
 qS 9 (T 6) (T 26),
 qV 3 (T 27),
 qV 4 (T 28)])
 .ret)
 .skip))
 (.seq (qP 5 [
 qN 30 (qf 4 3),
 qN 31 (qL 5 30),
 qN 32 (qm 1),
 qN 33 (qm 2),
 qN 34 (qf 0 3),
 qN 35 (ql 1 34),
 qN 36 (.call 42 [(T 31),(T 32),(T 33),(T 35)]),
 qN 29 (qt 36),
 qN 37 (.ext 29 0),
 qN 38 (.ext 29 1),
 qN 39 (.ext 29 2),
 qN 9 (.allo [(.bool false),(.bool false),(.bool false),(.int .i64 0),(.int .i64 0)]),
 qS 5 (T 9) (T 37),
 qV 5 (T 38),
 qV 6 (T 39)])
 (.seq (.seq (qP 6 [
 qN 40 (qm 6),
 qN 41 (qi .neq 40 0)])
 (.cond (T 41)
 (.seq (qP 7 [
 qN 42 (qm 6),
 qN 43 (.call 21 [(T 42)]),
 qN 44 (.ext 43 0),
 qN 45 (.ext 43 1),
 qN 46 (.ext 43 2),
 qS 9 (T 6) (T 44),
 qV 3 (T 45),
 qV 4 (T 46)])
 .ret)
 .skip))
 (.seq (qP 8 [
 qN 47 (qL 9 3),
 qN 48 (.call 26 [(T 47)]),
 qS 9 (T 3) (T 48)])
 (.seq (qR 9 [.lend (.cell 2 0) 49,.lend (.cell 2 1) 49,.lend (.cell 2 2) 49,.lend (.cell 2 3) 49,.lend (.cell 2 4) 49] [
 qN 49 (qL 5 9),
 qN 50 (qf 4 3),
 qS 5 (T 50) (T 49)])
 (.seq (qR 10 [.lend (.cell 0 0) 51,.lend (.cell 0 1) 51,.lend (.cell 0 2) 51,.lend (.cell 0 3) 51,.lend (.cell 0 4) 51,.lend (.cell 0 5) 51,.lend (.cell 0 6) 51,.lend (.cell 0 7) 51,.lend (.cell 0 8) 51] [
 qN 51 (qL 9 3),
 qN 52 (qm 5),
 qS 9 (T 6) (T 51),
 qV 3 (T 52),
 qV 4 (qI 0)])
 .ret))))))))
theorem c36:zC_ Try.prog 36 F36=some (3,zs_ a36,[.c 6 9 true,.v 3,.v 4])/\zq_ a36=true:=⟨by kernel_rfl,by kernel_rfl⟩
def F37:Fr:=⟨68,[0,1,2,7,8,10,11],[]⟩
def a37:ACode :=
 (.seq (qP 0 [
 qN 3 (.box 9 (.v 0)),
 qN 6 (.allo [(.int .i64 0),(.bool false),(.bool false),(.slice none 0 0),(.bool false),(.bool false),(.bool false),(.int .i64 0),(.int .i64 0)]),
 qV 3 (.c (.slice none 0 0)),
 qV 4 (qI 0)])
 (.seq (.seq (qP 1 [
 qN 12 (qL 9 3),
 qN 13 (qm 1),
 qN 14 (qm 2),
 qN 15 (.call 15 [(T 12),(T 13),(T 14)]),
 qN 16 (.un .not (T 15))])
 (.cond (T 16)
 (.seq (qP 2 [
 qN 17 (.call 21 [(qI 2)]),
 qN 18 (.ext 17 0),
 qN 19 (.ext 17 1),
 qN 20 (.ext 17 2),
 qS 9 (T 6) (T 18),
 qV 3 (T 19),
 qV 4 (T 20)])
 .ret)
 .skip))
 (.seq (.seq (qP 3 [
 qN 21 (qf 1 3),
 qN 22 (ql 1 21)])
 (.cond (T 22)
 (.seq (qP 4 [
 qN 23 (.call 21 [(qI 19)]),
 qN 24 (.ext 23 0),
 qN 25 (.ext 23 1),
 qN 26 (.ext 23 2),
 qS 9 (T 6) (T 24),
 qV 3 (T 25),
 qV 4 (T 26)])
 .ret)
 .skip))
 (.seq (.seq (qP 5 [
 qN 27 (qf 4 3),
 qN 28 (qf 2 27),
 qN 29 (ql 1 28),
 qN 30 (qt 29),
 qG 31 30 false (qf 4 3),
 qG 32 30 false (qf 1 31),
 qG 33 30 false (ql 1 32),
 qN 34 (qo 30 33)])
 (.cond (T 34)
 (.seq (qP 6 [
 qN 35 (.call 21 [(qI 14)]),
 qN 36 (.ext 35 0),
 qN 37 (.ext 35 1),
 qN 38 (.ext 35 2),
 qS 9 (T 6) (T 36),
 qV 3 (T 37),
 qV 4 (T 38)])
 .ret)
 .skip))
 (.seq (qP 7 [
 qN 39 (qL 9 3),
 qN 40 (.call 26 [(T 39)]),
 qS 9 (T 3) (T 40)])
 (.seq (.seq (qP 8 [
 qN 41 (qf 2 3),
 qN 42 (ql 1 41)])
 (.cond (T 42)
 (.seq (qP 9 [
 qN 43 (qf 4 3),
 qN 44 (qf 1 43),
 ⟨.none,.st 1 (T 44) (.c (.bool true)),none⟩])
 (.seq (qR 10 [.lend (.cell 0 0) 45,.lend (.cell 0 1) 45,.lend (.cell 0 2) 45,.lend (.cell 0 3) 45,.lend (.cell 0 4) 45,.lend (.cell 0 5) 45,.lend (.cell 0 6) 45,.lend (.cell 0 7) 45,.lend (.cell 0 8) 45] [
 qN 45 (qL 9 3),
 qS 9 (T 6) (T 45),
 qV 3 (.c (.slice none 0 0)),
 qV 4 (qI 0)])
 .ret))
 .skip))
 (.seq (qP 11 [
 qN 47 (qf 4 3),
 qN 48 (qL 5 47),
 qN 49 (qm 1),
 qN 50 (qm 2),
 qN 51 (qf 0 3),
 qN 52 (ql 1 51),
 qN 53 (.call 43 [(T 48),(T 49),(T 50),(T 52)]),
 qN 46 (qt 53),
 qN 54 (.ext 46 0),
 qN 55 (.ext 46 1),
 qN 56 (.ext 46 2),
 qN 9 (.allo [(.bool false),(.bool false),(.bool false),(.int .i64 0),(.int .i64 0)]),
 qS 5 (T 9) (T 54),
 qV 5 (T 55),
 qV 6 (T 56)])
 (.seq (.seq (qP 12 [
 qN 57 (qm 6),
 qN 58 (qi .neq 57 0)])
 (.cond (T 58)
 (.seq (qP 13 [
 qN 59 (qm 6),
 qN 60 (.call 21 [(T 59)]),
 qN 61 (.ext 60 0),
 qN 62 (.ext 60 1),
 qN 63 (.ext 60 2),
 qS 9 (T 6) (T 61),
 qV 3 (T 62),
 qV 4 (T 63)])
 .ret)
 .skip))
 (.seq (qR 14 [.lend (.cell 2 0) 64,.lend (.cell 2 1) 64,.lend (.cell 2 2) 64,.lend (.cell 2 3) 64,.lend (.cell 2 4) 64] [
 qN 64 (qL 5 9),
 qN 65 (qf 4 3),
 qS 5 (T 65) (T 64)])
 (.seq (qR 15 [.lend (.cell 0 0) 66,.lend (.cell 0 1) 66,.lend (.cell 0 2) 66,.lend (.cell 0 3) 66,.lend (.cell 0 4) 66,.lend (.cell 0 5) 66,.lend (.cell 0 6) 66,.lend (.cell 0 7) 66,.lend (.cell 0 8) 66] [
 qN 66 (qL 9 3),
 qN 67 (qm 5),
 qS 9 (T 6) (T 66),
 qV 3 (T 67),
 qV 4 (qI 0)])
 .ret))))))))))
theorem c37:zC_ Try.prog 37 F37=some (3,zs_ a37,[.c 6 9 true,.v 3,.v 4])/\zq_ a37=true:=⟨by kernel_rfl,by kernel_rfl⟩
def F38:Fr:=⟨19,[0,1,2,6],[]⟩
def a38:ACode :=
 (.seq (qP 0 [
 qV 3 (.c (.bool false))])
 (.seq (qP 1 [
 qN 7 (qm 0),
 qN 8 (qi .geq 7 0),
 qN 9 (qt 8),
 qG 10 9 true (qm 0),
 qG 11 9 true (qm 2),
 qG 12 9 true (qb .lss 10 11),
 qN 13 (qa 9 12),
 qN 14 (qt 13),
 qG 15 14 true (qm 0),
 qG 16 14 true (qm 1),
 qG 17 14 true (qb .neq 15 16),
 qN 18 (qa 14 17),
 qV 3 (T 18)])
 .ret))
theorem c38:zC_ Try.prog 38 F38=some (3,zs_ a38,[.v 3])/\zq_ a38=true:=⟨by kernel_rfl,by kernel_rfl⟩
def F40:Fr:=⟨20,[0,1,4],[]⟩
def a40:ACode :=
 (.seq (qP 0 [
 qV 2 (.c (.bool false))])
 (.seq (qP 1 [
 qN 5 (qm 1),
 qN 6 (qi .geq 5 1),
 qN 7 (qt 6),
 qG 8 7 true (qm 1),
 qG 9 7 true (qi .leq 8 4),
 qN 10 (qa 7 9),
 qN 11 (qt 10),
 qG 12 11 true (qm 0),
 qG 13 11 true (qi .geq 12 0),
 qN 14 (qa 11 13),
 qN 15 (qt 14),
 qG 16 15 true (qm 0),
 qG 17 15 true (qm 1),
 qG 18 15 true (qb .lss 16 17),
 qN 19 (qa 15 18),
 qV 2 (T 19)])
 .ret))
theorem c40:zC_ Try.prog 40 F40=some (2,zs_ a40,[.v 2])/\zq_ a40=true:=⟨by kernel_rfl,by kernel_rfl⟩
def F41:Fr:=⟨19,[0,1,2,6],[]⟩
def a41:ACode :=
 (.seq (qP 0 [
 qV 3 (.c (.bool false))])
 (.seq (qP 1 [
 qN 7 (qm 0),
 qN 8 (qi .geq 7 0),
 qN 9 (qt 8),
 qG 10 9 true (qm 0),
 qG 11 9 true (qm 2),
 qG 12 9 true (qb .lss 10 11),
 qN 13 (qa 9 12),
 qN 14 (qt 13),
 qG 15 14 true (qm 0),
 qG 16 14 true (qm 1),
 qG 17 14 true (qb .neq 15 16),
 qN 18 (qa 14 17),
 qV 3 (T 18)])
 .ret))
theorem c41:zC_ Try.prog 41 F41=some (3,zs_ a41,[.v 3])/\zq_ a41=true:=⟨by kernel_rfl,by kernel_rfl⟩
def F44:Fr:=⟨9,[0,2],[]⟩
def a44:ACode :=
 (.seq (qP 0 [
 qV 1 (.c (.bool false))])
 (.seq (qP 1 [
 qN 3 (qm 0),
 qN 4 (qi .geq 3 0),
 qN 5 (qt 4),
 qG 6 5 true (qm 0),
 qG 7 5 true (qi .leq 6 1073741824),
 qN 8 (qa 5 7),
 qV 1 (T 8)])
 .ret))
theorem c44:zC_ Try.prog 44 F44=some (1,zs_ a44,[.v 1])/\zq_ a44=true:=⟨by kernel_rfl,by kernel_rfl⟩
theorem zN_:Try.prog.follows .mixedOrders=true:=by kernel_rfl
section
def immT:V->Bool
 |.tup vs=>vs.all immA
 |x=>immA x
theorem uw_{y x:V}{p:List Nat}(h:immT y=true)(hs:y.sub p=some x):(∃vs,x=.tup vs)\/(∃cs,x=.agg cs)\/immC x=true:=by
 have main:∀ {y x:V} {p:List Nat},immA y=true->y.sub p=some x->(∃cs,x=.agg cs)\/immC x=true:=by
  intro y x p h hs
  cases p with
  | nil =>
    simp[V.sub]at hs
    subst hs
    cases y with
    |agg cs=>exact .inl ⟨cs,rfl⟩
    |_=>exact .inr h
  | cons i p =>
    cases y with
    | agg cs =>
      simp only[V.sub,zza_]at hs
      obtain⟨c,hc,hp⟩:=hs
      simp only[immA,zzh_]at h
      obtain⟨_,rfl⟩:=xp_ (h c (zzd_ hc)) hp
      exact .inr (h _ (zzd_ hc))
    |tup vs=>simp[immA,immC]at h
    |_=>simp[V.sub]at hs
 cases y with
 | tup vs =>
   cases p with
   |nil=>simp[V.sub]at hs;exact .inl ⟨vs,hs.symm⟩
   | cons i p =>
     simp only[V.sub,zza_]at hs
     obtain⟨c,hc,hp⟩:=hs
     simp only[immT,zzh_]at h
     exact .inr (main (h c (zzd_ hc)) hp)
 |_=>refine .inr (main ?_ hs);exact h
section
variable{P:Program}{g:Gh}{w:World}
theorem pv_{y:V}{v:Value}(hi:immT y=true)(hr:Rep g w y v)(hlt:∀k,0<g.I k->k<w.heap.size):Bd g w [y] #[v] []/\∀k,¬OwnB g w [y] #[v] [] k:=by
 have hat:∀l x,(Stn [y] []).at l=some x->l=.var 0/\x=y:=by
  intro l x hx
  cases l with
  | var i =>
    cases i with
    |zero=>simp[Stn,St.at]at hx;exact⟨rfl,hx.symm⟩
    |succ i=>simp[Stn,St.at]at hx
  |cell b o=>simp[Stn,St.at]at hx
 have hval:z8_ (Frn 1) g w ⟨#[v],[]⟩ (.var 0)=some v:=by simp[z8_,Frn,Act.tv]
 have hno:∀ {t p x},((Stn [y] []).tm t).sub p=some x->x=.no:=by
  intro t p x hs
  cases p<;>simp[Stn,V.sub]at hs
  exact hs.symm
 have hnl:∀ {d e0 e z:Nat} {xs:List V},y≠.lent d e0 e z xs:=by
  intro d e0 e z xs q
  subst q
  simp[immT,immA,immC]at hi
 have hown:∀r p k,¬Own (Frn 1) g w (Stn [y] []) ⟨#[v],[]⟩ r p k:=by
  intro r p k ⟨x,u,hh,ho⟩
  cases r with
  | t t =>
    obtain⟨rfl,rfl⟩:=hh
    rcases ho with ⟨_,_,_,_,q,_⟩|⟨_,q,_⟩
    .cases hno q
    .simp[Stn,zi_]at q
  | l l =>
    obtain⟨rfl,rfl⟩:=hat l x hh.1
    rcases ho with ⟨e,z,xs,_,q,_⟩|⟨_,q,_⟩
    .rcases uw_ hi q with ⟨_,q⟩|⟨_,q⟩|q
     .cases q
     .cases q
     .simp[immC]at q
    .obtain⟨d,e,z,xs,q1,_⟩:=z4_ q
     exact hnl q1
 refine⟨⟨rfl,rfl,?_,?_,?_,?_,?_,?_,?_,?_,?_,?_,?_,hlt,?_,?_,?_,?_⟩,fun k ho=>?_⟩
 .intro r x u hh
  cases r with
  |t t=>obtain⟨rfl,rfl⟩:=hh;exact .no
  | l l =>
    obtain⟨rfl,rfl⟩:=hat l x hh.1
    have hu:=hh.2
    have e:u=v:=by
     have h2:z8_ (Frn 1) g w ⟨#[v],[]⟩ (.var 0)=some u:=hu
     rw[hval]at h2
     exact(Option.some.inj h2).symm
    subst e
    exact hr
 .intro l x hx
  obtain⟨rfl,rfl⟩:=hat l x hx
  exact⟨v,hval,fun ⟨b,o,q⟩=>by cases q⟩
 .intro l d e z xs u hx _
  obtain⟨_,q⟩:=hat l _ hx
  exact absurd q.symm hnl
 .intro b cs hb;simp[Stn]at hb
 .intro b b' hb;simp[Stn]at hb
 .intro r x u p b o hh hs
  cases r with
  |t t=>obtain⟨rfl,rfl⟩:=hh;cases hno hs
  | l l =>
    obtain⟨rfl,rfl⟩:=hat l x hh.1
    rcases uw_ hi hs with ⟨_,q⟩|⟨_,q⟩|q
    .cases q
    .cases q
    .simp[immC]at q
 .intro r p k ho;exact absurd ho (hown r p k)
 .intro r p r' p' k ho;exact absurd ho (hown r p k)
 .intro t p x u hx hu
  cases hno hx
  trivial
 .intro l x hx p
  obtain⟨rfl,rfl⟩:=hat l x hx
  refine⟨?_,?_,?_,?_⟩<;>intros<;>intro hs<;>rcases uw_ hi hs with ⟨_,q⟩|⟨_,q⟩|q<;>first|cases q|simp[immC]at q
 .intro t p d e0 e z xs hs
  cases hno hs
 .intro t _;rfl
 .intro t p x hx
  cases hno hx
  exact zzn_ _
 .intro l x hx
  obtain⟨rfl,rfl⟩:=hat l x hx
  cases x<;>first|exact zzn_ _|(simp[immT,immA,immC]at hi)
 .intro l d e z xs u k hx
  obtain⟨_,q⟩:=hat l _ hx
  exact absurd q.symm hnl
 .rcases ho with ⟨r,p,ho⟩|⟨b,hb,_⟩
  .exact hown r p k ho
  .simp[Stn]at hb
def frL(x y:V):Prop:=(x=y/\immC x=true)\/(∃m e z xs,x=.own m e z xs/\y=.list z xs)\/(x=.s (.slice none 0 0)/\∃z,y=.list z [])
def frLs:List V->List V->Prop
 |[],[]=>True
 |x::r,y::s=>frL x y/\frLs r s
 |_,_=>False
def frA(x y:V):Prop :=
 match x,y with
 |.agg cs,.agg ds=>frLs cs ds
 |x,y=>frL x y
def frAs:List V->List V->Prop
 |[],[]=>True
 |x::r,y::s=>frA x y/\frAs r s
 |_,_=>False
def frT(x y:V):Prop :=
 match x,y with
 |.tup cs,.tup ds=>frAs cs ds
 |x,y=>frA x y
theorem uy_:∀ {xs ys:List V},frLs xs ys->xs.length=ys.length/\∀(i:Nat) (y:V),ys[i]?=some y->∃x,xs[i]?=some x/\frL x y
 |[],[],_=>⟨rfl,fun i y h=>by simp at h⟩
 | x :: r, y :: s, h => by
   obtain⟨h1,h2⟩:=uy_ h.2
   refine⟨by simp[h1],fun i u hu=>?_⟩
   cases i with
   |zero=>simp at hu;subst hu;exact⟨x,rfl,h.1⟩
   |succ i=>simp at hu;exact h2 i u hu
theorem uz_:∀ {xs ys:List V},frAs xs ys->xs.length=ys.length/\∀(i:Nat) (y:V),ys[i]?=some y->∃x,xs[i]?=some x/\frA x y
 |[],[],_=>⟨rfl,fun i y h=>by simp at h⟩
 | x :: r, y :: s, h => by
   obtain⟨h1,h2⟩:=uz_ h.2
   refine⟨by simp[h1],fun i u hu=>?_⟩
   cases i with
   |zero=>simp at hu;subst hu;exact⟨x,rfl,h.1⟩
   |succ i=>simp at hu;exact h2 i u hu
theorem pa_{x y:V}(h:frL x y):immC y=true:=by
 rcases h with ⟨rfl,h⟩|⟨m,e,z,xs,rfl,rfl⟩|⟨rfl,z,rfl⟩
 .exact h
 .rfl
 .rfl
theorem pc_{x y:V}(h:frA x y):immA y=true:=by
 unfold frA at h
 split at h
 .next cs ds =>
  simp only[immA,zzh_]
  intro u hu
  obtain⟨i,hi,rfl⟩:=List.getElem_of_mem hu
  obtain⟨x,_,hx⟩:=(uy_ h).2 i _ (zzf_ hi)
  exact pa_ hx
 .have:=pa_ h
  unfold immA
  split
  .simp[immC]at this
  .exact this
theorem nL_{x y:V}(h:frT x y):immT y=true:=by
 unfold frT at h
 split at h
 .next cs ds =>
  simp only[immT,zzh_]
  intro u hu
  obtain⟨i,hi,rfl⟩:=List.getElem_of_mem hu
  obtain⟨x,_,hx⟩:=(uz_ h).2 i _ (zzf_ hi)
  exact pc_ hx
 .next hn =>
  have:=pc_ h
  unfold immT
  split
  .simp[immA,immC]at this
  .exact this
def w0_(w:World)(b:Nat):Nat:=match w.heap[b]? with|some (.cells cs _ _)=>cs.size|_=>0
theorem lq_{w:World}{b:Nat}(h:0<w0_ w b):b<w.heap.size:=by
 unfold w0_ at h
 split at h
 .next cs ty fz hh=>exact(zzm_.1 hh).1
 .omega
theorem p9_{g2:Gh}(hI:∀b o,o<g.I b->o<g2.I b){x y:V}{v:Value}(h:frL x y)(hr:Rep g w x v)(ho:∀k,zD_ x v [] k->g2.I k=w0_ w k):Rep g2 w y v:=by
 have keep:∀ {u:V} {c:Value},immC u=true->Rep g w u c->Rep g2 w u c:=by
  intro u c hu hc
  refine hc.keep (fun b o q=>⟨hI b o q,rfl⟩) (fun _ _ _=>rfl) (fun p b o q=>?_)
  obtain⟨_,q2⟩:=xp_ hu q
  subst q2
  simp[immC]at hu
 rcases h with ⟨rfl,h⟩|⟨m,e,z,xs,rfl,rfl⟩|⟨rfl,z,rfl⟩
 .exact keep h hr
 .cases m with
  | false => cases hr with
    |ownf h _ _=>exact keep rfl h
  |true =>
  have ho':=fun k hk=>ho k ⟨e,z,xs,v,rfl,rfl,hk⟩
  cases hr with
  | own vals h0 hc hm hh hs hz hi hcell hrep =>
    rename_i k cap cur
    have hI2:=ho' k (by simp[rb];omega)
    refine .list vals hc hm (fun q=>by cases q) hz hi (fun j hj=>⟨k,0,rfl,?_,?_⟩) (fun j u hu=>keep (hi u (zzd_ hu)) (hrep j u hu))
    .rw[hI2]
     simp only[w0_,hh]
     have:=(zzm_.1 (hcell j hj)).1
     omega
    .rw[cell_of_row w k (0+j) cur e (0,0) hh,Nat.zero_add]
     exact hcell j hj
  |own0=>exact .list (fun _=>undef) (zzl_ _) (zzn_ _) (fun _=>rfl) (fun x hx=>by simp at hx) (fun u hu=>by simp[flat]at hu) (fun j hj=>by simp[flat]at hj) (fun j u hu=>by simp[flat]at hu)
 .exact o6_ (.inr ⟨rfl,z,rfl⟩) (keep rfl hr)
theorem pb_{g2:Gh}(hI:∀b o,o<g.I b->o<g2.I b){x y:V}{v:Value}(h:frA x y)(hr:Rep g w x v)(ho:∀p k,zD_ x v p k->g2.I k=w0_ w k):Rep g2 w y v:=by
 unfold frA at h
 split at h
 .next cs ds =>
  obtain⟨k1,k2⟩:=uy_ h
  cases hr with
  | agg hl h1 hh =>
    refine .agg (by omega) h1 (fun j u c hu hc=>?_)
    obtain⟨x,q1,q2⟩:=k2 j u hu
    refine p9_ hI q2 (hh j x c q1 hc) (fun k ⟨e,z,xs,u',p1,p2,p3⟩=>ho [j] k ⟨e,z,xs,u',?_,?_,p3⟩)
    .simp only[V.sub,q1];exact p1
    .simp only[vsub,hc];exact p2
 .exact p9_ hI h hr (ho [])
theorem nK_{g2:Gh}(hI:∀b o,o<g.I b->o<g2.I b){x y:V}{v:Value}(h:frT x y)(hr:Rep g w x v)(ho:∀p k,zD_ x v p k->g2.I k=w0_ w k):Rep g2 w y v:=by
 unfold frT at h
 split at h
 .next cs ds =>
  obtain⟨k1,k2⟩:=uz_ h
  cases hr with
  | tup hl hh =>
    refine .tup (by omega) (fun j u c hu hc=>?_)
    obtain⟨x,q1,q2⟩:=k2 j u hu
    refine pb_ hI q2 (hh j x c q1 hc) (fun p k ⟨e,z,xs,u',p1,p2,p3⟩=>ho (j::p) k ⟨e,z,xs,u',?_,?_,p3⟩)
    .simp only[V.sub,q1];exact p1
    .simp only[vsub,hc];exact p2
 .exact pb_ hI h hr ho
open Classical in
theorem yp_{f:Nat}{args:List V}{q:V->Prop}{q':V->Prop}(h:PC P f args q)(hf:∀x,q x->okV x=true->∃y,frT x y/\okV y=true/\q' y):PC P f args q':=by
 intro g w vals hb
 refine(h g w vals hb).mono ?_
 rintro e w' ⟨v,x,bs',g',h1,⟨rfl,hq⟩,hok,hbd,hx⟩
 obtain⟨y,hfr,hoky,hy⟩:=hf x hq hok
 have hval:z8_ (Frn 1) g' w' ⟨#[v],[]⟩ (.var 0)=some v:=by simp[z8_,Frn,Act.tv]
 have hr:Rep g' w' x v:=hbd.rep (.l (.var 0)) x v ⟨rfl,hval⟩
 have hO:∀p k,zD_ x v p k->OwnB g' w' [x] #[v] [] k:=fun p k ho=>.inl ⟨.l (.var 0),p,x,v,⟨rfl,hval⟩,.inl ho⟩
 have hO0:∀k,OwnB g' w' [x] #[v] [] k->g'.I k=0/\k<w'.heap.size:=fun k ho=>by
  rcases ho with ⟨r,p,ho⟩|⟨b,hb',_⟩
  .have:=hbd.ownI r p k ho
   exact⟨this.1,this.2.1⟩
  .simp[Stn]at hb'
 let g2:Gh:=⟨fun b=>if OwnB g' w' [x] #[v] [] b then w0_ w' b else g'.I b,g'.φ⟩
 have hI:∀b o,o<g'.I b->o<g2.I b:=fun b o q=>by
  show o<if OwnB g' w' [x] #[v] [] b then w0_ w' b else g'.I b
  split
  .next hb'=>have:=(hO0 b hb').1;omega
  .exact q
 have hr2:Rep g2 w' y v:=nK_ hI hfr hr (fun p k ho=>if_pos (hO p k ho))
 have hlt:∀k,0<g2.I k->k<w'.heap.size:=fun k hk=>by
  have hk:0<if OwnB g' w' [x] #[v] [] k then w0_ w' k else g'.I k:=hk
  split at hk
  .exact lq_ hk
  .exact hbd.Ilt k hk
 obtain⟨q1,q2⟩:=pv_ (nL_ hfr) hr2 hlt
 refine⟨v,y,[],g2,h1,⟨rfl,hy⟩,hoky,q1,hx.os,hx.tape,hx.output,hx.size,fun k hk hn=>?_,fun k hk=>absurd hk (q2 k),fun b hb'=>by simp at hb'⟩
 obtain⟨p1,p2⟩:=hx.same k hk hn
 refine⟨p1,?_⟩
 show (if OwnB g' w' [x] #[v] [] k then w0_ w' k else g'.I k)=g.I k
 split
 .next ho =>
  rcases hx.owned k ho with q|q
  .exact absurd q hn
  .omega
 .exact p2
end
end
end Go.Proofs.Ytnbppaolinopeaa
namespace Go.Proofs.Ytnbppaolinopeaa
inductive Pth(f:Int->Int):Int->Int->Prop
 |refl {x:Int}:Pth f x x
 |step {x y:Int} (h:Pth f (f x) y) (hx:f x≠-1):Pth f x y
theorem Pth.trans{f:Int->Int}{x y z:Int}(h:Pth f x y):Pth f y z->Pth f x z:=by
 induction h with
 |refl=>exact id
 |step _ hx ih=>exact fun k=>.step (ih k) hx
theorem Pth.one{f:Int->Int}{x y:Int}(h:f x=y)(hy:y≠-1):Pth f x y:=by
 refine .step ?_ ?_
 .rw[h];exact .refl
 .rw[h];exact hy
theorem Pth.last{f:Int->Int}{x y:Int}(h:Pth f x y)(hx:f x=-1):y=x:=by
 cases h with
 |refl=>rfl
 |step _ q=>exact absurd hx q
theorem Pth.cmp{f:Int->Int}{x y z:Int}(h:Pth f x y):Pth f x z->Pth f y z\/Pth f z y:=by
 induction h with
 |refl=>exact .inl
 | step h hx ih =>
   intro k
   cases k with
   |refl=>exact .inr (.step h hx)
   |step k _=>exact ih k
theorem Pth.end_eq{f:Int->Int}{x r s:Int}(h:Pth f x r)(hr:f r=-1)(k:Pth f x s)(hs:f s=-1):r=s:=by
 rcases h.cmp k with q|q
 .exact(q.last hr).symm
 .exact q.last hs
theorem qP_{f:Int->Int}{x r:Int}(h:Pth f x r)(hr:f r=-1):∀ {y:Int},f x=y->y≠-1->¬Pth f y x:=by
 induction h with
 |refl=>intro y e hy;exact absurd (e.symm.trans hr) hy
 | @step x z h hx ih =>
   intro y e hy hc
   subst e
   -- (f x) reaches x, hence f x's next reaches f x
   by_cases q:f (f x)=-1
   .have:=hc.last q
    rw[<-this]at q
    exact hx q
   .refine ih hr rfl q ?_
    have key:∀ {a:Int},Pth f a x->a=f x->Pth f (f (f x)) (f x):=by
     intro a k e
     cases k with
     |refl=>rw[<-e,<-e];exact .refl
     |step k _=>subst e;exact k.trans (.one rfl hx)
    exact key hc rfl
def End(f:Int->Int)(x:Int):Prop:=∃r,Pth f x r/\f r=-1
theorem End.circle{f:Int->Int}{x y:Int}(h:End f x)(e:f x=y)(hy:y≠-1):¬Pth f y x:=by
 obtain⟨r,h1,h2⟩:=h
 exact qP_ h1 h2 e hy
def turn(f:Int->Int)(r s h:Int):Int->Int:=fun x=>if x=r then f s else if x=s then h else f x
structure Turn(f:Int->Int)(r s h:Int):Prop where
 rs:f r=s
 s0:s≠-1
 h0:h≠-1
 hr:Pth f h r
 es:End f s
 er:End f r
section
variable{f:Int->Int}{r s h:Int}
theorem Turn.ne(t:Turn f r s h):r≠s:=fun e=>t.er.circle t.rs t.s0 (by rw[e];exact .refl)
theorem Turn.hs(t:Turn f r s h):h≠s:=fun e=>t.er.circle t.rs t.s0 (by rw[<-e];exact t.hr)
theorem Turn.nsr(t:Turn f r s h):¬Pth f s r:=t.er.circle t.rs t.s0
theorem Turn.to_r(t:Turn f r s h){x:Int}(k:Pth f x r):Pth (turn f r s h) x r:=by
 generalize hq:r=q at k
 induction k with
 |refl=>exact .refl
 | @step x y k hx ih =>
   subst hq
   have e1:x=r\/x≠r:=Classical.em _
   rcases e1 with rfl|e1
   .exact .refl
   .have e2:x≠s:=fun e=>t.nsr (by rw[<-e];exact .step k hx)
    have e3:turn f r s h x=f x:=by simp[turn,e1,e2]
    exact .step (by rw[e3];exact ih rfl) (by rw[e3];exact hx)
theorem Turn.s_r(t:Turn f r s h):Pth (turn f r s h) s r:=by
 have e:turn f r s h s=h:=by simp[turn,t.ne.symm]
 exact .step (by rw[e];exact t.to_r t.hr) (by rw[e];exact t.h0)
theorem Turn.from_l(t:Turn f r s h){x y:Int}(k:Pth f x y):Pth f (f s) x->f s≠-1->Pth (turn f r s h) x y:=by
 induction k with
 |refl=>exact fun _ _=>.refl
 | @step x y k hx ih =>
   intro hl hs0
   have e1:x≠r:=fun e=>t.nsr (by rw[<-e];exact .step hl hs0)
   have e2:x≠s:=fun e=>t.es.circle rfl hs0 (by rw[e]at hl;exact hl)
   have e3:turn f r s h x=f x:=by simp[turn,e1,e2]
   exact .step (by rw[e3];exact ih (hl.trans (.one rfl hx)) hs0) (by rw[e3];exact hx)
theorem Turn.r_of(t:Turn f r s h){y:Int}(k:Pth f s y)(hy:y≠s):Pth (turn f r s h) r y:=by
 have e:turn f r s h r=f s:=by simp[turn]
 cases k with
 |refl=>exact absurd rfl hy
 |step k hx=>exact .step (by rw[e];exact t.from_l k .refl hx) (by rw[e];exact hx)
theorem Turn.keep(t:Turn f r s h){x y:Int}(k:Pth f x y)(hy:y≠s):Pth (turn f r s h) x y:=by
 induction k with
 |refl=>exact .refl
 | @step x y k hx ih =>
   by_cases e1:x=r
   .subst e1
    rw[t.rs]at k
    exact t.r_of k hy
   .by_cases e2:x=s
    .subst e2
     exact t.s_r.trans (t.r_of (.step k hx) hy)
    .have e3:turn f r s h x=f x:=by simp[turn,e1,e2]
     exact .step (by rw[e3];exact ih hy) (by rw[e3];exact hx)
theorem Turn.keep_s(t:Turn f r s h){x:Int}(k:Pth f x s):Pth (turn f r s h) x r:=by
 generalize hq:s=q at k
 induction k with
 |refl=>subst hq;exact t.s_r
 | @step x y k hx ih =>
   subst hq
   by_cases e1:x=r
   .subst e1;exact .refl
   .by_cases e2:x=s
    .subst e2;exact t.s_r
    .have e3:turn f r s h x=f x:=by simp[turn,e1,e2]
     exact .step (by rw[e3];exact ih rfl) (by rw[e3];exact hx)
theorem Turn.ends(t:Turn f r s h){x:Int}(k:End f x):End (turn f r s h) x:=by
 obtain⟨z,k1,k2⟩:=k
 by_cases e:z=s
 .subst e
  exact⟨r,t.keep_s k1,by simp[turn,k2]⟩
 .refine⟨z,t.keep k1 e,?_⟩
  by_cases e1:z=r
  .subst e1
   rw[t.rs]at k2
   exact absurd k2 t.s0
  .simp[turn,e1,e,k2]
end
def hang(f:Int->Int)(s h:Int):Int->Int:=fun x=>if x=s then h else f x
theorem xJ_{f:Int->Int}{s h x y:Int}(hs:f s=-1)(k:Pth f x y):Pth (hang f s h) x y:=by
 induction k with
 |refl=>exact .refl
 | @step x y k hx ih =>
   have e:x≠s:=fun e=>hx (by rw[e];exact hs)
   have e3:hang f s h x=f x:=by simp[hang,e]
   exact .step (by rw[e3];exact ih) (by rw[e3];exact hx)
theorem uE_{f:Int->Int}{i x y:Int}(hi:∀z,f z≠i)(hx:x≠i)(k:Pth f x y):Pth (hang f i (-1)) x y/\y≠i:=by
 induction k with
 |refl=>exact⟨.refl,hx⟩
 | @step x y k hx' ih =>
   have e3:hang f i (-1) x=f x:=by simp[hang,hx]
   obtain⟨k1,k2⟩:=ih (hi x)
   exact⟨.step (by rw[e3];exact k1) (by rw[e3];exact hx'),k2⟩
theorem Pth.back{f:Int->Int}(hf:∀x y,f x≠-1->f x=f y->x=y){a r:Int}(h:Pth f a r):∀ {b:Int},Pth f b r->Pth f a b\/Pth f b a:=by
 induction h with
 |refl=>exact fun k=>.inr k
 | @step a r h hx ih =>
   intro b k
   rcases ih k with q|q
   .exact .inl (.step q hx)
   · -- b comes to f a
     have key:∀ {b c:Int},Pth f b c->c=f a->b=f a\/Pth f b a:=by
      intro b c k
      induction k with
      |refl=>exact fun e=>.inl e
      | @step b c k hb ih2 =>
        intro e
        rcases ih2 e with q|q
        .exact .inr (by rw[hf b a hb q];exact .refl)
        .exact .inr (.step q hb)
     rcases key q rfl with q|q
     .exact .inl (.step (by rw[q];exact .refl) hx)
     .exact .inr q
theorem Pth.pred{f:Int->Int}{x y:Int}(h:Pth f x y):x=y\/∃z,Pth f x z/\f z=y/\y≠-1:=by
 induction h with
 |refl=>exact .inl rfl
 | @step x y h hx ih =>
   rcases ih with q|⟨z,q1,q2,q3⟩
   .exact .inr ⟨x,.refl,q,by rw[<-q];exact hx⟩
   .exact .inr ⟨z,.step q1 hx,q2,q3⟩
end Go.Proofs.Ytnbppaolinopeaa
namespace Go.Proofs.Ytnbppaolinopeaa
structure Tk where
 has:Bool
 want:Bool
 using_:Bool
 last:Int
 next:Int
deriving DecidableEq
structure Ms where
 to:Int
 tok:Bool
 org:Int
deriving DecidableEq
def Rng(n:Nat)(i:Int):Prop:=0<=i/\i<n
instance(n:Nat)(i:Int):Decidable (Rng n i):=by unfold Rng;infer_instance
def Othr(n:Nat)(i x:Int):Prop:=0<=x/\x<n/\x≠i
instance(n:Nat)(i x:Int):Decidable (Othr n i x):=by unfold Othr;infer_instance
structure Tk.ok(t:Tk)(n:Nat)(i:Int):Prop where
 n1:1<=n
 n4:n<=4
 ri:Rng n i
 l:t.last≠-1->Othr n i t.last
 x:t.next≠-1->Othr n i t.next
 uh:t.using_=true->t.has=true
 wh:t.want=true->t.has=false
 busy:t.using_=true\/t.want=true->(t.next=-1↔t.last=-1)
 idle:t.using_=false->t.want=false->t.next=-1/\(t.last=-1↔t.has=true)
def Tk.busy(t:Tk):Prop:=t.using_=true\/t.want=true
theorem Tk.ok.nl{t:Tk}{n:Nat}{i:Int}(h:t.ok n i)(hb:t.busy):t.next=-1↔t.last=-1:=h.busy hb
def Ms.subj(m:Ms):Int:=if m.tok=true then m.to else m.org
def tAt(t:List Tk)(i:Int):Tk:=t.getD i.toNat ⟨false,false,false,0,-1⟩
theorem yD_{t:List Tk}{i x:Int}{v:Tk}(h0:0<=i)(h1:i<t.length)(hx:0<=x):tAt (t.set i.toNat v) x=if x=i then v else tAt t x:=by
 simp only[tAt,yyk_]
 by_cases e:x=i
 .subst e
  rw[List.getElem?_set_self (by omega),if_pos rfl];rfl
 .rw[List.getElem?_set_ne (by omega),if_neg e]
theorem tK_{p:Tk->Bool}:∀ {t:List Tk} {i:Nat} {v:Tk},i<t.length->(t.set i v).countP p+(if p (t.getD i ⟨false,false,false,0,-1⟩)=true then 1 else 0)=t.countP p+(if p v=true then 1 else 0)
 |[],i,v,h=>by simp at h
 |x::r,0,v,_=>by simp only[zzi_,List.countP_cons,List.getD_cons_zero];omega
 | x :: r, i + 1, v, h => by
   have:=tK_ (p:=p) (t:=r) (i:=i) (v:=v) (by simpa using h)
   simp only[zzj_,List.countP_cons,List.getD_cons_succ]
   omega
theorem yc_{p:Tk->Bool}{t:List Tk}{i:Int}{v:Tk}(h0:0<=i)(h1:i<t.length):(t.set i.toNat v).countP p+(if p (tAt t i)=true then 1 else 0)=t.countP p+(if p v=true then 1 else 0) :=
 tK_ (by omega)
theorem tY_{t:List Tk}{i:Int}(h0:0<=i)(h1:i<t.length):tAt t i∈t:=by
 have h:i.toNat<t.length:=by omega
 rw[tAt,yyk_,zzf_ h]
 exact yyp_ h
def mcut(l:List Ms)(k:Nat):List Ms:=l.take k++l.drop (k+1)
def msAt(l:List Ms)(k:Nat):Ms:=l.getD k ⟨0,false,0⟩
theorem zy_{l:List Ms}{k:Nat}{m:Ms}(h:m∈mcut l k):m∈l:=by
 rw[mcut,zzw_]at h
 exact h.elim List.mem_of_mem_take yyl_
theorem wp_:∀ {l:List Ms} {k:Nat},k<l.length->(msAt l k::mcut l k).Perm l
 |[],k,h=>by simp at h
 |x::r,0,_=>by simp[msAt,mcut]
 | x :: r, k + 1, h => by
   have:=wp_ (l:=r) (k:=k) (by simpa using h)
   have e:mcut (x::r) (k+1)=x::mcut r k:=by simp[mcut]
   have e2:msAt (x::r) (k+1)=msAt r k:=by simp[msAt]
   rw[e,e2]
   exact(List.Perm.swap _ _ _).trans (this.cons x)
theorem xa_{l:List Ms}{k:Nat}(h:k<l.length)(p:Ms->Bool):(mcut l k).countP p+(if p (msAt l k)=true then 1 else 0)=l.countP p:=by
 rw[<-(wp_ h).countP_eq,List.countP_cons]
theorem xT_{l:List Ms}{k:Nat}(h:k<l.length):msAt l k∈l:=(wp_ h).mem_iff.1 (by simp)
def rsn(t:List Tk)(ml:List Ms)(i:Int):Nat:=ml.countP (fun m=>decide (m.subj=i))+t.countP (fun x=>decide (x.next=i))
def nx(n:Nat)(t:List Tk):Int->Int:=fun i=>if Rng n i then (tAt t i).next else -1
structure Inv(n:Nat)(t:List Tk)(ml:List Ms)(G:Int->Int):Prop where
 n1:1<=n
 n4:n<=4
 len:t.length=n
 val:∀i,Rng n i->(tAt t i).ok n i
 one:t.countP (·.has)+ml.countP (·.tok)=1
 rs:∀i,Rng n i->rsn t ml i=if (tAt t i).want=true then 1 else 0
 mr:∀m∈ml,Rng n m.to/\(m.tok=false->Rng n m.org)
 gl:∀i,Rng n i->(tAt t i).last≠-1->G i=(tAt t i).last
 ac:∀i,Rng n i->End G i
 na:∀i,Rng n i->End (nx n t) i
 mem:∀i r,Rng n i->(tAt t i).busy->Pth (nx n t) i r->nx n t r=-1->Pth G i r
 rq:∀m∈ml,m.tok=false->∀r,Pth (nx n t) m.org r->nx n t r=-1->G r=m.to
section
variable{n:Nat}{t:List Tk}{ml:List Ms}{G:Int->Int}
theorem Inv.nxr(h:Inv n t ml G){i:Int}(hx:nx n t i≠-1):Rng n i/\nx n t i=(tAt t i).next/\Rng n (nx n t i):=by
 unfold nx at hx ⊢
 by_cases hi:Rng n i
 .rw[if_pos hi]at hx ⊢
  exact⟨hi,rfl,((h.val i hi).x hx).1,((h.val i hi).x hx).2.1⟩
 .rw[if_neg hi]at hx;exact absurd rfl hx
theorem Inv.wants(h:Inv n t ml G){i:Int}(hi:Rng n i)(hr:1<=rsn t ml i):(tAt t i).want=true:=by
 rw[h.rs i hi]at hr
 by_cases hw:(tAt t i).want=true
 .exact hw
 .rw[if_neg hw]at hr;omega
theorem yC_{α:Type}{p:α->Bool}{l:List α}{a:α}(h:a∈l)(hp:p a=true):1<=l.countP p:=List.countP_pos_iff.2 ⟨a,h,hp⟩
theorem Inv.wm(h:Inv n t ml G){m:Ms}(hm:m∈ml):(tAt t m.subj).want=true:=by
 obtain⟨h1,h2⟩:=h.mr m hm
 refine h.wants ?_ ?_
 .unfold Ms.subj;split
  .exact h1
  .next e=>exact h2 (by simpa using e)
 .have:=yC_ (p:=fun x:Ms=>decide (x.subj=m.subj)) hm (by simp)
  unfold rsn;omega
theorem Inv.wn(h:Inv n t ml G){i:Int}(hx:nx n t i≠-1):(tAt t (nx n t i)).want=true:=by
 obtain⟨h1,h2,h3⟩:=h.nxr hx
 refine h.wants h3 ?_
 have h4:0<=i/\i<t.length:=by have:=h1.1;have:=h1.2;have:=h.len;omega
 have:=yC_ (p:=fun x:Tk=>decide (x.next=nx n t i)) (tY_ h4.1 h4.2) (by simp[h2])
 unfold rsn;omega
theorem uR_{p:Tk->Bool}:∀ {t:List Tk} {i j:Nat},i<t.length->j<t.length->i≠j->p (t.getD i ⟨false,false,false,0,-1⟩)=true->p (t.getD j ⟨false,false,false,0,-1⟩)=true->2<=t.countP p
 |[],i,j,h,_,_,_,_=>by simp at h
 |x::r,0,0,_,_,h,_,_=>absurd rfl h
 | x :: r, 0, j + 1, _, hj, _, h1, h2 => by
   simp only[List.getD_cons_zero,List.getD_cons_succ]at h1 h2
   have hj:j<r.length:=by simpa using hj
   have:1<=r.countP p:=yC_ (a:=r[j]) (yyp_ _) (by rw[yyk_,zzf_ hj]at h2;exact h2)
   rw[List.countP_cons,if_pos h1];omega
 | x :: r, i + 1, 0, hi, _, _, h1, h2 => by
   simp only[List.getD_cons_zero,List.getD_cons_succ]at h1 h2
   have hi:i<r.length:=by simpa using hi
   have:1<=r.countP p:=yC_ (a:=r[i]) (yyp_ _) (by rw[yyk_,zzf_ hi]at h1;exact h1)
   rw[List.countP_cons,if_pos h2];omega
 | x :: r, i + 1, j + 1, hi, hj, h, h1, h2 => by
   simp only[List.getD_cons_succ]at h1 h2
   have:=uR_ (p:=p) (t:=r) (i:=i) (j:=j) (by simpa using hi) (by simpa using hj) (by omega) h1 h2
   rw[List.countP_cons];omega
theorem Inv.inj(h:Inv n t ml G):∀x y,nx n t x≠-1->nx n t x=nx n t y->x=y:=by
 intro x y hx e
 obtain⟨a1,a2,a3⟩:=h.nxr hx
 obtain⟨b1,b2,_⟩:=h.nxr (i:=y) (by rw[<-e];exact hx)
 by_cases q:x=y
 .exact q
 .exfalso
  have hl:=h.len
  have:2<=t.countP (fun z=>decide (z.next=nx n t x)):=uR_ (i:=x.toNat) (j:=y.toNat) (by have:=a1.1;have:=a1.2;omega) (by have:=b1.1;have:=b1.2;omega) (by have:=a1.1;have:=b1.1;omega)
   (by simp only[zzp_];exact a2.symm) (by simp only[zzp_];rw[e];exact b2.symm)
  have hr:=h.rs _ a3
  unfold rsn at hr
  split at hr<;>omega
theorem Inv.path(h:Inv n t ml G){i r:Int}(hi:Rng n i)(hb:(tAt t i).busy)(k:Pth (nx n t) i r):Rng n r/\(tAt t r).busy:=by
 induction k with
 |refl=>exact⟨hi,hb⟩
 |step k hx ih=>exact ih (h.nxr hx).2.2 (.inr (h.wn hx))
theorem Inv.tail(h:Inv n t ml G){r:Int}(hr:Rng n r)(hb:(tAt t r).busy)(hx:nx n t r=-1):(tAt t r).last=-1:=by
 unfold nx at hx
 rw[if_pos hr]at hx
 exact((h.val r hr).nl hb).1 hx
end
end Go.Proofs.Ytnbppaolinopeaa
namespace Go.Proofs.Ytnbppaolinopeaa
@[simp] def Tk.use (t:Tk):Tk:={ t with using_:=true }
@[simp] def Tk.ask (t:Tk):Tk:={ t with want:=true,last:=-1 }
@[simp] def Tk.get (t:Tk):Tk:={ t with has:=true,using_:=true,want:=false }
@[simp] def Tk.rest (t:Tk):Tk:={ t with using_:=false }
@[simp] def Tk.pass (t:Tk):Tk:={ t with using_:=false,has:=false,next:=-1 }
section
variable{n:Nat}{t:List Tk}{ml:List Ms}{G:Int->Int}
theorem sO_{i:Int}{v:Tk}(hi:Rng n i)(hl:t.length=n):nx n (t.set i.toNat v)=hang (nx n t) i v.next:=by
 funext x
 unfold nx hang
 by_cases e:x=i
 .subst e
  rw[if_pos hi,if_pos rfl,yD_ hi.1 (by have:=hi.2;omega) hi.1,if_pos rfl]
 .rw[if_neg e]
  by_cases hx:Rng n x
  .simp only[if_pos hx];rw[yD_ hi.1 (by have:=hi.2;omega) hx.1,if_neg e]
  .simp only[if_neg hx]
theorem p4_{f:Int->Int}{i h:Int}(e:f i=h):hang f i h=f:=by
 funext x
 unfold hang
 split
 .next q=>rw[q,e]
 .rfl
theorem o5_{i:Int}(hi:Rng n i):nx n t i=(tAt t i).next:=by unfold nx;rw[if_pos hi]
theorem xG_{i:Int}{v:Tk}(hi:Rng n i)(hl:t.length=n)(e:v.next=(tAt t i).next):nx n (t.set i.toNat v)=nx n t:=by
 rw[sO_ hi hl];exact p4_ (by rw[o5_ hi,e])
theorem y0_{p:Tk->Bool}{i:Int}{v:Tk}(hi:Rng n i)(hl:t.length=n)(e:p v=p (tAt t i)):(t.set i.toNat v).countP p=t.countP p:=by
 have:=yc_ (p:=p) (t:=t) (v:=v) hi.1 (by have:=hi.2;omega)
 rw[e]at this
 omega
theorem tA{i x:Int}{v:Tk}(hi:Rng n i)(hl:t.length=n)(hx:Rng n x):tAt (t.set i.toNat v) x=if x=i then v else tAt t x :=
 yD_ hi.1 (by have:=hi.2;omega) hx.1
theorem Inv.want_has(h:Inv n t ml G){i:Int}(hi:Rng n i)(hw:(tAt t i).want=false)(hh:(tAt t i).has=true)(hu:(tAt t i).using_=false):Inv n (t.set i.toNat (tAt t i).use) ml G:=by
 have hv:=h.val i hi
 have hid:=hv.idle hu hw
 have en:=xG_ (v:=(tAt t i).use) hi h.len rfl
 refine⟨h.n1,h.n4,by simp[h.len],fun x hx=>?_,?_,fun x hx=>?_,h.mr,fun x hx hl=>?_,h.ac,by rw[en];exact h.na,fun x r hx hb k1 k2=>?_,by rw[en];exact h.rq⟩
 .rw[tA hi h.len hx]
  split
  .next e =>
   subst e
   exact⟨hv.n1,hv.n4,hv.ri,hv.l,hv.x,fun _=>hh,hv.wh,fun _=>⟨fun _=>hid.2.2 hh,fun _=>hid.1⟩,fun q=>by cases q⟩
  .exact h.val x hx
 .rw[y0_ (v:=(tAt t i).use) hi h.len rfl];exact h.one
 .unfold rsn
  rw[y0_ (v:=(tAt t i).use) hi h.len rfl,tA hi h.len hx]
  have:=h.rs x hx
  unfold rsn at this
  split
  .next e=>subst e;exact this
  .exact this
 .rw[tA hi h.len hx]at hl ⊢
  split at hl
  .next e=>subst e;rw[if_pos rfl];exact h.gl x hx hl
  .next e=>rw[if_neg e];exact h.gl x hx hl
 .rw[en]at k1 k2
  rw[tA hi h.len hx]at hb
  split at hb
  .next e =>
   subst e
   rw[k1.last (by rw[o5_ hx];exact hid.1)]
   exact .refl
  .exact h.mem x r hx hb k1 k2
theorem Inv.want_ask(h:Inv n t ml G){i:Int}(hi:Rng n i)(hw:(tAt t i).want=false)(hh:(tAt t i).has=false)(hu:(tAt t i).using_=false):Inv n (t.set i.toNat (tAt t i).ask) (ml++[⟨(tAt t i).last,false,i⟩]) G:=by
 have hv:=h.val i hi
 have hid:=hv.idle hu hw
 have hl0:(tAt t i).last≠-1:=fun e=>by have:=hid.2.1 e;rw[hh]at this;cases this
 have en:=xG_ (v:=(tAt t i).ask) hi h.len rfl
 have hni:nx n t i=-1:=by rw[o5_ hi];exact hid.1
 refine⟨h.n1,h.n4,by simp[h.len],fun x hx=>?_,?_,fun x hx=>?_,fun m hm=>?_,fun x hx hl=>?_,h.ac,by rw[en];exact h.na,fun x r hx hb k1 k2=>?_,fun m hm ht r k1 k2=>?_⟩
 .rw[tA hi h.len hx]
  split
  .next e =>
   subst e
   exact⟨hv.n1,hv.n4,hv.ri,fun q=>absurd rfl q,hv.x,hv.uh,fun _=>hh,fun _=>⟨fun _=>rfl,fun _=>hid.1⟩,fun _ q=>by cases q⟩
  .exact h.val x hx
 .rw[y0_ (v:=(tAt t i).ask) hi h.len rfl];simpa using h.one
 .unfold rsn
  rw[y0_ (v:=(tAt t i).ask) hi h.len rfl,tA hi h.len hx,List.countP_append]
  have h1:=h.rs x hx
  unfold rsn at h1
  have h2:[(⟨(tAt t i).last,false,i⟩:Ms)].countP (fun m=>decide (m.subj=x))=if i=x then 1 else 0:=by
   by_cases q:i=x<;>simp[Ms.subj,q]
  rw[h2]
  by_cases e:x=i
  .subst e
   rw[hw,if_neg (by decide)]at h1
   rw[if_pos rfl,if_pos rfl,if_pos (by simp)]
   omega
  .rw[if_neg e,if_neg (fun q=>e q.symm)]
   omega
 .rw[zzw_]at hm
  rcases hm with hm|hm
  .exact h.mr m hm
  .simp at hm;subst hm
   exact⟨⟨(hv.l hl0).1,(hv.l hl0).2.1⟩,fun _=>hi⟩
 .rw[tA hi h.len hx]at hl ⊢
  split at hl
  .exact absurd rfl hl
  .next e=>rw[if_neg e];exact h.gl x hx hl
 .rw[en]at k1 k2
  rw[tA hi h.len hx]at hb
  split at hb
  .next e =>
   subst e
   rw[k1.last hni]
   exact .refl
  .exact h.mem x r hx hb k1 k2
 .rw[en]at k1 k2
  rw[zzw_]at hm
  rcases hm with hm|hm
  .exact h.rq m hm ht r k1 k2
  .simp at hm;subst hm
   rw[k1.last hni]
   exact h.gl i hi hl0
theorem Inv.tok_in(h:Inv n t ml G){k:Nat}(hk:k<ml.length)(ht:(msAt ml k).tok=true):(tAt t (msAt ml k).to).want=true /\
 Inv n (t.set (msAt ml k).to.toNat (tAt t (msAt ml k).to).get) (mcut ml k) G:=by
 have hm:=xT_ hk
 have hs:(msAt ml k).subj=(msAt ml k).to:=by unfold Ms.subj;rw[if_pos ht]
 have hw:=h.wm hm
 rw[hs]at hw
 refine⟨hw,?_⟩
 have hi:=(h.mr _ hm).1
 have hc:=fun p=>xa_ hk p
 generalize hm':msAt ml k=m at *
 generalize m.to=i at *
 have hv:=h.val i hi
 have hh:=hv.wh hw
 have en:=xG_ (v:=(tAt t i).get) hi h.len rfl
 refine⟨h.n1,h.n4,by simp[h.len],fun x hx=>?_,?_,fun x hx=>?_,fun m hm=>h.mr m (zy_ hm),fun x hx hl=>?_,h.ac,by rw[en];exact h.na,fun x r hx hb k1 k2=>?_,fun m hm ht r k1 k2=>?_⟩
 .rw[tA hi h.len hx]
  split
  .next e =>
   subst e
   exact⟨hv.n1,hv.n4,hv.ri,hv.l,hv.x,fun _=>rfl,fun q=>(by cases q),fun _=>hv.busy (.inr hw),fun q=>by cases q⟩
  .exact h.val x hx
 ·have h1:(t.set i.toNat (tAt t i).get).countP (·.has)=t.countP (·.has)+1:=by
   have:=yc_ (t:=t) (p:=(·.has)) (v:=(tAt t i).get) hi.1 (by have:=hi.2;have:=h.len;omega)
   simpa[hh] using this
  have h2:(mcut ml k).countP (·.tok)+1=ml.countP (·.tok):=by
   have:=hc (·.tok)
   simpa[ht] using this
  have h3:=h.one
  omega
 .unfold rsn
  rw[y0_ (v:=(tAt t i).get) hi h.len rfl,tA hi h.len hx]
  have h1:=h.rs x hx
  have h2:(mcut ml k).countP (fun m=>decide (m.subj=x))+(if i=x then 1 else 0)=ml.countP (fun m=>decide (m.subj=x)):=by
   have:=hc (fun m=>decide (m.subj=x))
   rw[hs]at this
   simpa using this
  unfold rsn at h1
  by_cases e:x=i
  .subst e
   rw[hw,if_pos rfl]at h1
   rw[if_pos rfl]at h2
   rw[if_pos rfl,if_neg (by simp)]
   omega
  .rw[if_neg (fun q=>e q.symm)]at h2
   rw[if_neg e]
   omega
 .rw[tA hi h.len hx]at hl ⊢
  split at hl
  .next e=>subst e;rw[if_pos rfl];exact h.gl x hx hl
  .next e=>rw[if_neg e];exact h.gl x hx hl
 .rw[en]at k1 k2
  rw[tA hi h.len hx]at hb
  split at hb
  .next e=>subst e;exact h.mem x r hx (.inr hw) k1 k2
  .exact h.mem x r hx hb k1 k2
 .rw[en]at k1 k2
  exact h.rq m (zy_ hm) ht r k1 k2
theorem Inv.done_keep(h:Inv n t ml G){i:Int}(hi:Rng n i)(hu:(tAt t i).using_=true)(hx:(tAt t i).next=-1):Inv n (t.set i.toNat (tAt t i).rest) ml G:=by
 have hv:=h.val i hi
 have hh:=hv.uh hu
 have hl:=(hv.busy (.inl hu)).1 hx
 have hw:(tAt t i).want=false:=by
  cases hq:(tAt t i).want
  .rfl
  .rw[hv.wh hq]at hh;cases hh
 have en:=xG_ (v:=(tAt t i).rest) hi h.len rfl
 refine⟨h.n1,h.n4,by simp[h.len],fun x hx'=>?_,?_,fun x hx'=>?_,h.mr,fun x hx' hl=>?_,h.ac,by rw[en];exact h.na,fun x r hx' hb k1 k2=>?_,by rw[en];exact h.rq⟩
 .rw[tA hi h.len hx']
  split
  .next e =>
   subst e
   exact⟨hv.n1,hv.n4,hv.ri,hv.l,hv.x,fun q=>(by cases q),hv.wh,fun q=>by rcases q with q|q<;>simp[hw]at q,fun _ _=>⟨hx,⟨fun _=>hh,fun _=>hl⟩⟩⟩
  .exact h.val x hx'
 .rw[y0_ (v:=(tAt t i).rest) hi h.len rfl];exact h.one
 .unfold rsn
  rw[y0_ (v:=(tAt t i).rest) hi h.len rfl,tA hi h.len hx']
  have:=h.rs x hx'
  unfold rsn at this
  split
  .next e=>subst e;exact this
  .exact this
 .rw[tA hi h.len hx']at hl ⊢
  split at hl
  .next e=>subst e;rw[if_pos rfl];exact h.gl x hx' hl
  .next e=>rw[if_neg e];exact h.gl x hx' hl
 .rw[en]at k1 k2
  rw[tA hi h.len hx']at hb
  split at hb
  .next e=>subst e;rcases hb with q|q<;>simp[hw]at q
  .exact h.mem x r hx' hb k1 k2
theorem Inv.done_pass(h:Inv n t ml G){i:Int}(hi:Rng n i)(hu:(tAt t i).using_=true)(hx:(tAt t i).next≠-1):Inv n (t.set i.toNat (tAt t i).pass) (ml++[⟨(tAt t i).next,true,0⟩]) G:=by
 have hv:=h.val i hi
 have hh:=hv.uh hu
 have hl:(tAt t i).last≠-1:=fun e=>hx ((hv.busy (.inl hu)).2 e)
 have hw:(tAt t i).want=false:=by
  cases hq:(tAt t i).want
  .rfl
  .rw[hv.wh hq]at hh;cases hh
 have en:=sO_ (v:=(tAt t i).pass) hi h.len
 have hno:∀z,nx n t z≠i:=fun z e=>by
  have:=h.wn (i:=z) (by rw[e];have:=hi.1;omega)
  rw[e,hw]at this;cases this
 -- the paths of others are as they were
 have hp:∀ {x r:Int},Rng n x->x≠i->Pth (hang (nx n t) i (-1)) x r->hang (nx n t) i (-1) r=-1->Pth (nx n t) x r/\nx n t r=-1:=by
  intro x r hx' e k1 k2
  obtain⟨r',q1,q2⟩:=h.na x hx'
  obtain⟨q3,q4⟩:=uE_ hno e q1
  have:r=r':=k1.end_eq k2 q3 (by simp[hang,q4,q2])
  subst this
  exact⟨q1,q2⟩
 refine⟨h.n1,h.n4,by simp[h.len],fun x hx'=>?_,?_,fun x hx'=>?_,fun m hm=>?_,fun x hx' hl=>?_,h.ac,fun x hx'=>?_,fun x r hx' hb k1 k2=>?_,fun m hm ht r k1 k2=>?_⟩
 .rw[tA hi h.len hx']
  split
  .next e =>
   subst e
   exact⟨hv.n1,hv.n4,hv.ri,hv.l,fun q=>absurd rfl q,fun q=>(by cases q),fun _=>rfl,fun q=>(by rcases q with q|q<;>simp[hw]at q),fun _ _=>⟨rfl,⟨fun q=>absurd q hl,fun q=>by cases q⟩⟩⟩
  .exact h.val x hx'
 .have h1:=yc_ (t:=t) (p:=(·.has)) (v:=(tAt t i).pass) hi.1 (by have:=hi.2;have:=h.len;omega)
  have h3:=h.one
  simp only[Tk.pass,hh]at h1
  simp at h1 h3 ⊢
  omega
 .unfold rsn
  rw[tA hi h.len hx',List.countP_append]
  have h1:=h.rs x hx'
  have h2:=yc_ (t:=t) (p:=fun z=>decide (z.next=x)) (v:=(tAt t i).pass) hi.1 (by have:=hi.2;have:=h.len;omega)
  have hx1:¬(-1:Int)=x:=by have:=hx'.1;omega
  unfold rsn at h1
  have e2:(if x=i then (tAt t i).pass else tAt t x).want=(tAt t x).want:=by
   by_cases q:x=i
   .rw[if_pos q,q];rfl
   .rw[if_neg q]
  rw[e2,<-h1]
  by_cases e:(tAt t i).next=x
  .simp[Ms.subj,e,hx1]at h2 ⊢
   omega
  .simp[Ms.subj,e,hx1]at h2 ⊢
   omega
 .rw[zzw_]at hm
  rcases hm with hm|hm
  .exact h.mr m hm
  .simp at hm;subst hm
   exact⟨⟨(hv.x hx).1,(hv.x hx).2.1⟩,fun q=>by cases q⟩
 .rw[tA hi h.len hx']at hl ⊢
  split at hl
  .next e=>subst e;rw[if_pos rfl];exact h.gl x hx' hl
  .next e=>rw[if_neg e];exact h.gl x hx' hl
 .rw[en]
  by_cases e:x=i
  .subst e;exact⟨x,.refl,by simp[hang]⟩
  .obtain⟨r,q1,q2⟩:=h.na x hx'
   obtain⟨q3,q4⟩:=uE_ hno e q1
   exact⟨r,q3,by simp[hang,q4,q2]⟩
 .rw[en]at k1 k2
  rw[tA hi h.len hx']at hb
  split at hb
  .rcases hb with q|q<;>simp[hw]at q
  .next e =>
   obtain⟨q1,q2⟩:=hp hx' e k1 k2
   exact h.mem x r hx' hb q1 q2
 .rw[en]at k1 k2
  rw[zzw_]at hm
  rcases hm with hm|hm
  .have ho:=(h.mr m hm).2 ht
   have hwm:=h.wm hm
   have hs:m.subj=m.org:=by unfold Ms.subj;rw[ht];rfl
   rw[hs]at hwm
   obtain⟨q1,q2⟩:=hp ho (fun e=>by rw[e,hw]at hwm;cases hwm) k1 k2
   exact h.rq m hm ht r q1 q2
  .simp at hm;subst hm;cases ht
end
end Go.Proofs.Ytnbppaolinopeaa
namespace Go.Proofs.Ytnbppaolinopeaa
@[simp] def Tk.fwd (t:Tk) (o:Int):Tk:={ t with last:=o }
@[simp] def Tk.give (t:Tk) (o:Int):Tk:={ t with has:=false,last:=o }
@[simp] def Tk.hold (t:Tk) (o:Int):Tk:={ t with next:=o,last:=o }
section
variable{n:Nat}{t:List Tk}{ml:List Ms}{G:Int->Int}
theorem yr_{m:Ms}(h:m.tok=false):m.subj=m.org:=by unfold Ms.subj;rw[h];rfl
theorem Inv.no2(h:Inv n t ml G){m:Ms}(hm:m∈ml){z:Int}(hz:nx n t z=m.subj)(hs:Rng n m.subj):False:=by
 have h0:nx n t z≠-1:=by rw[hz];have:=hs.1;omega
 obtain⟨a1,a2,_⟩:=h.nxr h0
 have h1:=yC_ (p:=fun x:Ms=>decide (x.subj=m.subj)) hm (by simp)
 have h2:=yC_ (p:=fun x:Tk=>decide (x.next=m.subj)) (tY_ (t:=t) a1.1 (by have:=a1.2;have:=h.len;omega)) (by rw[<-a2,hz];simp)
 have h3:=h.rs _ hs
 unfold rsn at h3
 split at h3<;>omega
theorem Inv.other(h:Inv n t ml G){k:Nat}(hk:k<ml.length)(ht:(msAt ml k).tok=false){m':Ms}(hm':m'∈mcut ml k)(ht':m'.tok=false){r:Int}(k1:Pth (nx n t) (msAt ml k).org r)(k2:Pth (nx n t) m'.org r):False:=by
 have hm:=xT_ hk
 have e1:=yr_ ht
 have e2:=yr_ ht'
 have r1:=(h.mr _ hm).2 ht
 have r2:=(h.mr _ (zy_ hm')).2 ht'
 have same:(msAt ml k).org=m'.org->False:=fun e=>by
  have h1:=xa_ hk (fun x=>decide (x.subj=m'.org))
  have h2:=yC_ (p:=fun x:Ms=>decide (x.subj=m'.org)) hm' (by simp[e2])
  have h3:=h.rs _ r2
  rw[if_pos (by simp[e1,e])]at h1
  unfold rsn at h3
  split at h3<;>omega
 rcases k1.back h.inj k2 with q|q
 .rcases q.pred with q|⟨z,_,q,_⟩
  .exact same q
  .exact h.no2 (zy_ hm') (by rw[q,e2]) (by rw[e2];exact r2)
 .rcases q.pred with q|⟨z,_,q,_⟩
  .exact same q.symm
  .exact h.no2 hm (by rw[q,e1]) (by rw[e1];exact r1)
structure Came(n:Nat)(t:List Tk)(ml:List Ms)(G:Int->Int)(k:Nat)(r:Int):Prop where
 hk:k<ml.length
 tok:(msAt ml k).tok=false
 s:Rng n (msAt ml k).to
 o:Rng n (msAt ml k).org
 want:(tAt t (msAt ml k).org).want=true
 ot:Othr n (msAt ml k).to (msAt ml k).org
 k1:Pth (nx n t) (msAt ml k).org r
 k2:nx n t r=-1
 rr:Rng n r
 rl:(tAt t r).last=-1
 tn:Turn G r (msAt ml k).to (msAt ml k).org
theorem Inv.came(h:Inv n t ml G){k:Nat}(hk:k<ml.length)(ht:(msAt ml k).tok=false):∃r,Came n t ml G k r:=by
 have hm:=xT_ hk
 obtain⟨hs,ho⟩:=h.mr _ hm
 have ho:=ho ht
 have hw:=h.wm hm
 rw[yr_ ht]at hw
 obtain⟨r,k1,k2⟩:=h.na _ ho
 obtain⟨hr,hb⟩:=h.path ho (.inr hw) k1
 have tn:Turn G r (msAt ml k).to (msAt ml k).org:=⟨h.rq _ hm ht r k1 k2,by have:=hs.1;omega,by have:=ho.1;omega,h.mem _ r ho (.inr hw) k1 k2,h.ac _ hs,h.ac _ hr⟩
 exact⟨r,hk,ht,hs,ho,hw,⟨ho.1,ho.2,tn.hs⟩,k1,k2,hr,h.tail hr hb k2,tn⟩
theorem Inv.req_fwd(h:Inv n t ml G){k:Nat}{r:Int}(c:Came n t ml G k r)(hl:(tAt t (msAt ml k).to).last≠-1) :
 Inv n (t.set (msAt ml k).to.toNat ((tAt t (msAt ml k).to).fwd (msAt ml k).org)) (mcut ml k++[⟨(tAt t (msAt ml k).to).last,false,(msAt ml k).org⟩]) (turn G r (msAt ml k).to (msAt ml k).org) /\
 nx n (t.set (msAt ml k).to.toNat ((tAt t (msAt ml k).to).fwd (msAt ml k).org))=nx n t/\∀i r',Rng n i->(tAt t i).busy->Pth (nx n t) i r'->nx n t r'=-1->r'≠(msAt ml k).to:=by
 obtain⟨hk,ht,hs,ho,hw,hot,k1,k2,hr,hrl,tn⟩:=c
 have hc:=fun p=>xa_ hk p
 have hoth:=fun {m'} {r'}=>h.other (m':=m') (r:=r') hk ht
 have sj:=yr_ ht
 generalize hm:msAt ml k=m at *
 generalize m.to=s at *
 generalize m.org=o at *
 have hv:=h.val s hs
 have ho0:o≠-1:=by have:=ho.1;omega
 have en:nx n (t.set s.toNat ((tAt t s).fwd o))=nx n t:=xG_ hs h.len rfl
 have ns:∀i r',Rng n i->(tAt t i).busy->Pth (nx n t) i r'->nx n t r'=-1->r'≠s:=fun i r' hi hb q1 q2 e=>by
  obtain⟨a,b⟩:=h.path hi hb q1
  rw[e]at a b q2
  exact hl (h.tail a b q2)
 have gs:turn G r s o s=o:=by simp[turn,tn.ne.symm]
 have gr:turn G r s o r=G s:=by simp[turn]
 refine⟨⟨h.n1,h.n4,by simp[h.len],fun x hx=>?_,?_,fun x hx=>?_,fun m' hm'=>?_,fun x hx hxl=>?_,fun x hx=>tn.ends (h.ac x hx),by rw[en];exact h.na,fun x r' hx hb q1 q2=>?_,fun m' hm' ht' r' q1 q2=>?_⟩,en,ns⟩
 .rw[tA hs h.len hx]
  split
  .next e =>
   subst e
   refine⟨hv.n1,hv.n4,hv.ri,fun _=>hot,hv.x,hv.uh,hv.wh,fun q=>?_,fun q1 q2=>?_⟩
   .have:=hv.busy q
    show (tAt t x).next=-1↔o=-1
    exact⟨fun q=>absurd (this.1 q) hl,fun q=>absurd q ho0⟩
   .have:=hv.idle q1 q2
    exact⟨this.1,⟨fun q=>absurd q ho0,fun q=>absurd (this.2.2 q) hl⟩⟩
  .exact h.val x hx
 .rw[y0_ (v:=(tAt t s).fwd o) hs h.len rfl,List.countP_append]
  have h1:=hc (·.tok)
  have h2:=h.one
  rw[ht]at h1
  simp only[yyi_,if_false,Nat.add_zero]at h1
  rw[h1]
  simpa using h2
 .unfold rsn
  rw[y0_ (v:=(tAt t s).fwd o) hs h.len rfl,tA hs h.len hx,List.countP_append]
  have h1:=h.rs x hx
  have h2:=hc (fun m=>decide (m.subj=x))
  rw[sj]at h2
  simp only[zzp_]at h2
  have h3:[(⟨(tAt t s).last,false,o⟩:Ms)].countP (fun m=>decide (m.subj=x))=if o=x then 1 else 0:=by
   by_cases q:o=x<;>simp[Ms.subj,q]
  unfold rsn at h1
  have e2:(if x=s then (tAt t s).fwd o else tAt t x).want=(tAt t x).want:=by
   by_cases q:x=s
   .rw[if_pos q,q];rfl
   .rw[if_neg q]
  rw[h3,e2,<-h1]
  omega
 .rw[zzw_]at hm'
  rcases hm' with hm'|hm'
  .exact h.mr m' (zy_ hm')
  .simp at hm';subst hm'
   exact⟨⟨(hv.l hl).1,(hv.l hl).2.1⟩,fun _=>ho⟩
 .rw[tA hs h.len hx]at hxl ⊢
  split at hxl
  .next e=>subst e;rw[if_pos rfl];exact gs
  .next e =>
   rw[if_neg e]
   have:x≠r:=fun q=>hxl (by rw[q];exact hrl)
   simp only[turn,if_neg this,if_neg e]
   exact h.gl x hx hxl
 .rw[en]at q1 q2
  have hb':(tAt t x).busy:=by
   rw[tA hs h.len hx]at hb
   split at hb
   .next e=>subst e;exact hb
   .exact hb
  exact tn.keep (h.mem x r' hx hb' q1 q2) (ns x r' hx hb' q1 q2)
 .rw[en]at q1 q2
  rw[zzw_]at hm'
  rcases hm' with hm'|hm'
  .have hwm:=h.wm (zy_ hm')
   rw[yr_ ht']at hwm
   have e1:r'≠r:=fun e=>hoth hm' ht' k1 (e ▸ q1)
   have e2:=ns _ r' ((h.mr _ (zy_ hm')).2 ht') (.inr hwm) q1 q2
   simp only[turn,if_neg e1,if_neg e2]
   exact h.rq m' (zy_ hm') ht' r' q1 q2
  .simp at hm';subst hm'
   have:r'=r:=q1.end_eq q2 k1 k2
   rw[this,gr]
   exact h.gl s hs hl
theorem Inv.req_give(h:Inv n t ml G){k:Nat}{r:Int}(c:Came n t ml G k r)(hl:(tAt t (msAt ml k).to).last=-1)(hh:(tAt t (msAt ml k).to).has=true)(hu:(tAt t (msAt ml k).to).using_=false) :
 Inv n (t.set (msAt ml k).to.toNat ((tAt t (msAt ml k).to).give (msAt ml k).org)) (mcut ml k++[⟨(msAt ml k).org,true,0⟩]) (turn G r (msAt ml k).to (msAt ml k).org) /\
 nx n (t.set (msAt ml k).to.toNat ((tAt t (msAt ml k).to).give (msAt ml k).org))=nx n t/\∀i r',Rng n i->(tAt t i).busy->Pth (nx n t) i r'->nx n t r'=-1->r'≠(msAt ml k).to:=by
 obtain⟨hk,ht,hs,ho,hw,hot,k1,k2,hr,hrl,tn⟩:=c
 have hc:=fun p=>xa_ hk p
 have hoth:=fun {m'} {r'}=>h.other (m':=m') (r:=r') hk ht
 have sj:=yr_ ht
 generalize hm:msAt ml k=m at *
 generalize m.to=s at *
 generalize m.org=o at *
 have hv:=h.val s hs
 have ho0:o≠-1:=by have:=ho.1;omega
 have hsw:(tAt t s).want=false:=by
  cases hq:(tAt t s).want
  .rfl
  .rw[hv.wh hq]at hh;cases hh
 have hid:=hv.idle hu hsw
 have en:nx n (t.set s.toNat ((tAt t s).give o))=nx n t:=xG_ hs h.len rfl
 have nb:¬(tAt t s).busy:=fun q=>by rcases q with q|q<;>simp[hu,hsw]at q
 have ns:∀i r',Rng n i->(tAt t i).busy->Pth (nx n t) i r'->nx n t r'=-1->r'≠s:=fun i r' hi hb q1 q2 e=>by
  obtain⟨a,b⟩:=h.path hi hb q1
  rw[e]at b
  exact nb b
 have gs:turn G r s o s=o:=by simp[turn,tn.ne.symm]
 refine⟨⟨h.n1,h.n4,by simp[h.len],fun x hx=>?_,?_,fun x hx=>?_,fun m' hm'=>?_,fun x hx hxl=>?_,fun x hx=>tn.ends (h.ac x hx),by rw[en];exact h.na,fun x r' hx hb q1 q2=>?_,fun m' hm' ht' r' q1 q2=>?_⟩,en,ns⟩
 .rw[tA hs h.len hx]
  split
  .next e =>
   subst e
   refine⟨hv.n1,hv.n4,hv.ri,fun _=>hot,hv.x,fun q=>?_,fun _=>rfl,fun q=>?_,fun q1 q2=>⟨hid.1,⟨fun q=>absurd q ho0,fun q=>by cases q⟩⟩⟩
   .have:(tAt t x).using_=true:=q
    rw[hu]at this;cases this
   .exact absurd q nb
  .exact h.val x hx
 ·have h1:(t.set s.toNat ((tAt t s).give o)).countP (·.has)+1=t.countP (·.has):=by
   have:=yc_ (t:=t) (p:=(·.has)) (v:=(tAt t s).give o) hs.1 (by have:=hs.2;have:=h.len;omega)
   simpa[hh] using this
  have h2:=hc (·.tok)
  have h3:=h.one
  rw[ht]at h2
  simp only[yyi_,if_false,Nat.add_zero]at h2
  have h4:[(⟨o,true,0⟩:Ms)].countP (·.tok)=1:=by simp
  rw[List.countP_append,h2,h4]
  omega
 .unfold rsn
  rw[y0_ (v:=(tAt t s).give o) hs h.len rfl,tA hs h.len hx,List.countP_append]
  have h1:=h.rs x hx
  have h2:=hc (fun m=>decide (m.subj=x))
  rw[sj]at h2
  simp only[zzp_]at h2
  have h3:[(⟨o,true,0⟩:Ms)].countP (fun m=>decide (m.subj=x))=if o=x then 1 else 0:=by
   by_cases q:o=x<;>simp[Ms.subj,q]
  unfold rsn at h1
  have e2:(if x=s then (tAt t s).give o else tAt t x).want=(tAt t x).want:=by
   by_cases q:x=s
   .rw[if_pos q,q];rfl
   .rw[if_neg q]
  rw[h3,e2,<-h1]
  omega
 .rw[zzw_]at hm'
  rcases hm' with hm'|hm'
  .exact h.mr m' (zy_ hm')
  .simp at hm';subst hm'
   exact⟨ho,fun q=>by cases q⟩
 .rw[tA hs h.len hx]at hxl ⊢
  split at hxl
  .next e=>subst e;rw[if_pos rfl];exact gs
  .next e =>
   rw[if_neg e]
   have:x≠r:=fun q=>hxl (by rw[q];exact hrl)
   simp only[turn,if_neg this,if_neg e]
   exact h.gl x hx hxl
 .rw[en]at q1 q2
  rw[tA hs h.len hx]at hb
  split at hb
  .exact absurd hb nb
  .exact tn.keep (h.mem x r' hx hb q1 q2) (ns x r' hx hb q1 q2)
 .rw[en]at q1 q2
  rw[zzw_]at hm'
  rcases hm' with hm'|hm'
  .have hwm:=h.wm (zy_ hm')
   rw[yr_ ht']at hwm
   have e1:r'≠r:=fun e=>hoth hm' ht' k1 (e ▸ q1)
   have e2:=ns _ r' ((h.mr _ (zy_ hm')).2 ht') (.inr hwm) q1 q2
   simp only[turn,if_neg e1,if_neg e2]
   exact h.rq m' (zy_ hm') ht' r' q1 q2
  .simp at hm';subst hm';cases ht'
theorem sU_{f:Int->Int}{s o r:Int}(hs:f s=-1)(ho:o≠-1)(k1:Pth f o r)(k2:f r=-1)(hrs:r≠s){x p r':Int}(a1:Pth f x p)(a2:f p=-1)(b1:Pth (hang f s o) x r')(b2:hang f s o r'=-1):(p=s->r'=r)/\(p≠s->r'=p):=by
 have h1:=xJ_ (h:=o) hs a1
 refine⟨fun e=>?_,fun e=>?_⟩
 .subst e
  have e1:hang f p o p=o:=by simp[hang]
  exact b1.end_eq b2 (h1.trans (.step (by rw[e1];exact xJ_ hs k1) (by rw[e1];exact ho))) (by simp[hang,hrs,k2])
 .exact b1.end_eq b2 h1 (by simp[hang,e,a2])
theorem Inv.req_hold(h:Inv n t ml G){k:Nat}{r:Int}(c:Came n t ml G k r)(hl:(tAt t (msAt ml k).to).last=-1)(hh:¬((tAt t (msAt ml k).to).has=true/\(tAt t (msAt ml k).to).using_=false)) :
 Inv n (t.set (msAt ml k).to.toNat ((tAt t (msAt ml k).to).hold (msAt ml k).org)) (mcut ml k) (turn G r (msAt ml k).to (msAt ml k).org) /\
 nx n (t.set (msAt ml k).to.toNat ((tAt t (msAt ml k).to).hold (msAt ml k).org))=hang (nx n t) (msAt ml k).to (msAt ml k).org/\nx n t (msAt ml k).to=-1:=by
 obtain⟨hk,ht,hs,ho,hw,hot,k1,k2,hr,hrl,tn⟩:=c
 have hc:=fun p=>xa_ hk p
 have hoth:=fun {m'} {r'}=>h.other (m':=m') (r:=r') hk ht
 have sj:=yr_ ht
 generalize hm:msAt ml k=m at *
 generalize m.to=s at *
 generalize m.org=o at *
 have hv:=h.val s hs
 have ho0:o≠-1:=by have:=ho.1;omega
 have hb:(tAt t s).busy:=by
  by_cases q1:(tAt t s).using_=true
  .exact .inl q1
  .by_cases q2:(tAt t s).want=true
   .exact .inr q2
   .have:=hv.idle (by simpa using q1) (by simpa using q2)
    exact absurd ⟨this.2.1 hl,by simpa using q1⟩ hh
 have hsn:(tAt t s).next=-1:=(hv.nl hb).2 hl
 have nxs:nx n t s=-1:=by rw[o5_ hs,hsn]
 have en:nx n (t.set s.toNat ((tAt t s).hold o))=hang (nx n t) s o:=sO_ hs h.len
 have gs:turn G r s o s=o:=by simp[turn,tn.ne.symm]
 have gr:turn G r s o r=G s:=by simp[turn]
 have he:=fun {x p r':Int}=>sU_ (x:=x) (p:=p) (r':=r') nxs ho0 k1 k2 tn.ne
 refine⟨⟨h.n1,h.n4,by simp[h.len],fun x hx=>?_,?_,fun x hx=>?_,fun m' hm'=>h.mr m' (zy_ hm'),fun x hx hxl=>?_,fun x hx=>tn.ends (h.ac x hx),fun x hx=>?_,fun x r' hx hb q1 q2=>?_,fun m' hm' ht' r' q1 q2=>?_⟩,en,nxs⟩
 .rw[tA hs h.len hx]
  split
  .next e =>
   subst e
   refine⟨hv.n1,hv.n4,hv.ri,fun _=>hot,fun _=>hot,hv.uh,hv.wh,fun q=>⟨fun q=>q,fun q=>q⟩,fun q1 q2=>?_⟩
   have q1':(tAt t x).using_=false:=q1
   have q2':(tAt t x).want=false:=q2
   rcases hb with q|q
   .rw[q1']at q;cases q
   .rw[q2']at q;cases q
  .exact h.val x hx
 .rw[y0_ (v:=(tAt t s).hold o) hs h.len rfl]
  have h1:=hc (·.tok)
  have h2:=h.one
  rw[ht]at h1
  simp only[yyi_,if_false,Nat.add_zero]at h1
  rw[h1]
  exact h2
 .unfold rsn
  rw[tA hs h.len hx]
  have h1:=h.rs x hx
  have h2:=hc (fun m=>decide (m.subj=x))
  rw[sj]at h2
  simp only[zzp_]at h2
  have hx1:¬(-1:Int)=x:=by have:=hx.1;omega
  have h3:(t.set s.toNat ((tAt t s).hold o)).countP (fun z=>decide (z.next=x))=t.countP (fun z=>decide (z.next=x))+if o=x then 1 else 0:=by
   have:=yc_ (t:=t) (p:=fun z=>decide (z.next=x)) (v:=(tAt t s).hold o) hs.1 (by have:=hs.2;have:=h.len;omega)
   rw[hsn]at this
   by_cases q:o=x<;>simpa[hx1,q] using this
  unfold rsn at h1
  have e2:(if x=s then (tAt t s).hold o else tAt t x).want=(tAt t x).want:=by
   by_cases q:x=s
   .rw[if_pos q,q];rfl
   .rw[if_neg q]
  rw[e2,<-h1,h3]
  omega
 .rw[tA hs h.len hx]at hxl ⊢
  split at hxl
  .next e=>subst e;rw[if_pos rfl];exact gs
  .next e =>
   rw[if_neg e]
   have:x≠r:=fun q=>hxl (by rw[q];exact hrl)
   simp only[turn,if_neg this,if_neg e]
   exact h.gl x hx hxl
 .rw[en]
  obtain⟨p,a1,a2⟩:=h.na x hx
  by_cases e:p=s
  .subst e
   have e1:hang (nx n t) p o p=o:=by simp[hang]
   exact⟨r,(xJ_ nxs a1).trans (.step (by rw[e1];exact xJ_ nxs k1) (by rw[e1];exact ho0)),by simp[hang,tn.ne,k2]⟩
  .exact⟨p,xJ_ nxs a1,by simp[hang,e,a2]⟩
 .rw[en]at q1 q2
  have hb':(tAt t x).busy:=by
   rw[tA hs h.len hx]at hb
   split at hb
   .next e=>subst e;exact hb
   .exact hb
  obtain⟨p,a1,a2⟩:=h.na x hx
  have:=h.mem x p hx hb' a1 a2
  obtain⟨e1,e2⟩:=he a1 a2 q1 q2
  by_cases e:p=s
  .rw[e1 e];rw[e]at this;exact tn.keep_s this
  .rw[e2 e];exact tn.keep this e
 .rw[en]at q1 q2
  have hom:=(h.mr _ (zy_ hm')).2 ht'
  obtain⟨p,a1,a2⟩:=h.na _ hom
  obtain⟨e1,e2⟩:=he a1 a2 q1 q2
  by_cases e:p=s
  .rw[e1 e,gr]
   rw[e]at a1 a2
   exact h.rq m' (zy_ hm') ht' s a1 a2
  .rw[e2 e]
   have e3:p≠r:=fun e=>hoth hm' ht' k1 (e ▸ a1)
   simp only[turn,if_neg e3,if_neg e]
   exact h.rq m' (zy_ hm') ht' p a1 a2
end
end Go.Proofs.Ytnbppaolinopeaa
namespace Go.Proofs.Ytnbppaolinopeaa
def hearT(t:Tk)(m:Ms):Tk:=if m.tok=true then t.get else if t.last≠-1 then t.fwd m.org else if t.has=true/\t.using_=false then t.give m.org else t.hold m.org
def hearM(t:Tk)(m:Ms):List Ms:=if m.tok=true then [] else if t.last≠-1 then [⟨t.last,false,m.org⟩] else if t.has=true/\t.using_=false then [⟨m.org,true,0⟩] else []
def xx_(t:Tk):Tk:=if t.next=-1 then t.rest else t.pass
def xy_(t:Tk):List Ms:=if t.next=-1 then [] else [⟨t.next,true,0⟩]
def w1_(t:Tk):Tk:=if t.has=true then t.use else t.ask
def xA_(t:Tk)(i:Int):List Ms:=if t.has=true then [] else [⟨t.last,false,i⟩]
def delT(t:List Tk)(ml:List Ms)(k:Nat):List Tk:=t.set (msAt ml k).to.toNat (hearT (tAt t (msAt ml k).to) (msAt ml k))
def delM(t:List Tk)(ml:List Ms)(k:Nat):List Ms:=mcut ml k++hearM (tAt t (msAt ml k).to) (msAt ml k)
structure Vis(n:Nat)(t:List Tk)(ml:List Ms)(G:Int->Int)(V:List Bool):Prop where
 len:V.length=16
 vis:∀m∈ml,m.tok=false->∀x,Rng n x->V.getD (4*m.org+x).toNat false=true->∀r,Pth (nx n t) m.org r->nx n t r=-1->Pth G x r
def mu(t:List Tk)(V:List Bool):Nat:=V.countP (fun b=>!b)+2*t.countP (·.want)+t.countP (·.using_)
theorem ue_:∀ {V:List Bool} {i:Nat},V.getD i true=false->(V.set i true).countP (fun b=>!b)+1=V.countP (fun b=>!b)
 |[],i,h=>by simp at h
 |x::r,0,h=>by simp at h;subst h;simp
 | x :: r, i + 1, h => by
   have:=ue_ (V:=r) (i:=i) (by simpa using h)
   simp only[zzj_,List.countP_cons]
   omega
theorem sX_{V:List Bool}{i j:Nat}(hi:i<V.length):(V.set i true).getD j false=if j=i then true else V.getD j false:=by
 simp only[yyk_]
 by_cases e:j=i
 .subst e;rw[List.getElem?_set_self hi,if_pos rfl];rfl
 .rw[List.getElem?_set_ne (fun q=>e q.symm),if_neg e]
section
variable{n:Nat}{t:List Tk}{ml:List Ms}{G:Int->Int}{V:List Bool}
theorem Vis.none(n:Nat)(t:List Tk)(ml:List Ms)(G:Int->Int):Vis n t ml G (List.replicate 16 false) :=
 ⟨by simp,fun m _ _ x _ hv=>by
  rw[yyk_,List.getElem?_replicate]at hv
  split at hv<;>cases hv⟩
theorem Came.fresh{k:Nat}{r:Int}(c:Came n t ml G k r)(v:Vis n t ml G V)(hn:n<=4):(4*(msAt ml k).org+(msAt ml k).to).toNat<V.length/\V.getD (4*(msAt ml k).org+(msAt ml k).to).toNat true=false:=by
 have h1:=c.o
 have h2:=c.s
 have hlt:(4*(msAt ml k).org+(msAt ml k).to).toNat<V.length:=by
  rw[v.len]
  unfold Rng at h1 h2
  omega
 refine⟨hlt,?_⟩
 have key:V.getD (4*(msAt ml k).org+(msAt ml k).to).toNat false≠true:=fun q =>
  c.tn.nsr (v.vis _ (xT_ c.hk) c.tok _ c.s q r c.k1 c.k2)
 rw[yyk_,zzf_ hlt]at key ⊢
 simpa using key
theorem oS_{a b x y:Int}(ha:0<=a)(hb:0<=b)(hx:0<=x/\x<4)(hy:0<=y/\y<4)(h:(4*a+x).toNat=(4*b+y).toNat):a=b/\x=y:=by omega
theorem Inv.deliver(h:Inv n t ml G)(v:Vis n t ml G V){k:Nat}(hk:k<ml.length):∃G' V',Inv n (delT t ml k) (delM t ml k) G'/\Vis n (delT t ml k) (delM t ml k) G' V'/\mu (delT t ml k) V'+1=mu t V:=by
 have hto:=(h.mr _ (xT_ hk)).1
 have hn4:=h.n4
 cases ht:(msAt ml k).tok
 case true =>
  obtain⟨hw,hI⟩:=h.tok_in hk ht
  have e1:delT t ml k=t.set (msAt ml k).to.toNat (tAt t (msAt ml k).to).get:=by rw[delT,hearT,if_pos ht]
  have e2:delM t ml k=mcut ml k:=by rw[delM,hearM,if_pos ht,List.append_nil]
  rw[e1,e2]
  refine⟨G,V,hI,⟨v.len,fun m hm hmt x hx hv r k1 k2=>?_⟩,?_⟩
  .have en:=xG_ (v:=(tAt t (msAt ml k).to).get) hto h.len rfl
   rw[en]at k1 k2
   exact v.vis m (zy_ hm) hmt x hx hv r k1 k2
  .have hv:=h.val _ hto
   have hu:(tAt t (msAt ml k).to).using_=false:=by
    cases q:(tAt t (msAt ml k).to).using_
    .rfl
    .have:=hv.uh q;rw[hv.wh hw]at this;cases this
   have h1:=yc_ (t:=t) (p:=(·.want)) (v:=(tAt t (msAt ml k).to).get) hto.1 (by have:=hto.2;have:=h.len;omega)
   have h2:=yc_ (t:=t) (p:=(·.using_)) (v:=(tAt t (msAt ml k).to).get) hto.1 (by have:=hto.2;have:=h.len;omega)
   simp only[Tk.get,hw,hu,yyi_,if_false,if_true]at h1 h2
   unfold mu
   simp only[Tk.get]
   omega
 case false =>
  obtain⟨r,c⟩:=h.came hk ht
  obtain⟨f1,f2⟩:=c.fresh v hn4
  have hs:=c.s
  have ho:=c.o
  have hvis:∀m'∈mcut ml k,m'.tok=false->∀x,Rng n x->(V.set (4*(msAt ml k).org+(msAt ml k).to).toNat true).getD (4*m'.org+x).toNat false=true->∀r',Pth (nx n t) m'.org r'->nx n t r'=-1->Pth G x r':=by
   intro m' hm' ht' x hx hv r' q1 q2
   have hom:=(h.mr _ (zy_ hm')).2 ht'
   rw[sX_ f1,if_neg]at hv
   .exact v.vis m' (zy_ hm') ht' x hx hv r' q1 q2
   .intro e
    have:=(oS_ hom.1 ho.1 ⟨hx.1,by have:=hx.2;omega⟩ ⟨hs.1,by have:=hs.2;omega⟩ e).1
    exact h.other hk ht hm' ht' c.k1 (by rw[this];exact c.k1)
  have hvw:∀m'∈mcut ml k,m'.tok=false->Rng n m'.org/\(tAt t m'.org).busy:=fun m' hm' ht'=>by
   have hwm:=h.wm (zy_ hm')
   rw[yr_ ht']at hwm
   exact⟨(h.mr _ (zy_ hm')).2 ht',.inr hwm⟩
  have hmu:∀ {v:Tk},v.want=(tAt t (msAt ml k).to).want->v.using_=(tAt t (msAt ml k).to).using_->mu (t.set (msAt ml k).to.toNat v) (V.set (4*(msAt ml k).org+(msAt ml k).to).toNat true)+1=mu t V:=fun {v} e1 e2=>by
   have h1:=ue_ f2
   have h2:=y0_ (p:=(·.want)) (v:=v) hs h.len e1
   have h3:=y0_ (p:=(·.using_)) (v:=v) hs h.len e2
   unfold mu
   omega
  have hlenV:(V.set (4*(msAt ml k).org+(msAt ml k).to).toNat true).length=16:=by simp[v.len]
  by_cases hl:(tAt t (msAt ml k).to).last=-1
  .by_cases hh:(tAt t (msAt ml k).to).has=true/\(tAt t (msAt ml k).to).using_=false
   .obtain⟨hI,en,ns⟩:=h.req_give c hl hh.1 hh.2
    have e1:delT t ml k=t.set (msAt ml k).to.toNat ((tAt t (msAt ml k).to).give (msAt ml k).org):=by rw[delT,hearT,if_neg (by rw[ht];simp),if_neg (fun q=>q hl),if_pos hh]
    have e2:delM t ml k=mcut ml k++[⟨(msAt ml k).org,true,0⟩]:=by rw[delM,hearM,if_neg (by rw[ht];simp),if_neg (fun q=>q hl),if_pos hh]
    rw[e1,e2]
    refine⟨_,_,hI,⟨hlenV,fun m' hm' ht' x hx hv r' q1 q2=>?_⟩,hmu rfl rfl⟩
    rw[en]at q1 q2
    rw[zzw_]at hm'
    rcases hm' with hm'|hm'
    .obtain⟨b1,b2⟩:=hvw m' hm' ht'
     exact c.tn.keep (hvis m' hm' ht' x hx hv r' q1 q2) (ns _ r' b1 b2 q1 q2)
    .simp at hm';subst hm';cases ht'
   .obtain⟨hI,en,nxs⟩:=h.req_hold c hl hh
    have e1:delT t ml k=t.set (msAt ml k).to.toNat ((tAt t (msAt ml k).to).hold (msAt ml k).org):=by rw[delT,hearT,if_neg (by rw[ht];simp),if_neg (fun q=>q hl),if_neg hh]
    have e2:delM t ml k=mcut ml k:=by rw[delM,hearM,if_neg (by rw[ht];simp),if_neg (fun q=>q hl),if_neg hh,List.append_nil]
    rw[e1,e2]
    refine⟨_,_,hI,⟨hlenV,fun m' hm' ht' x hx hv r' q1 q2=>?_⟩,hmu rfl rfl⟩
    rw[en]at q1 q2
    obtain⟨b1,b2⟩:=hvw m' hm' ht'
    obtain⟨p,a1,a2⟩:=h.na _ b1
    have hR:=hvis m' hm' ht' x hx hv p a1 a2
    obtain⟨g1,g2⟩:=sU_ nxs (by have:=ho.1;omega) c.k1 c.k2 c.tn.ne a1 a2 q1 q2
    by_cases e:p=(msAt ml k).to
    .rw[g1 e];rw[e]at hR;exact c.tn.keep_s hR
    .rw[g2 e];exact c.tn.keep hR e
  .obtain⟨hI,en,ns⟩:=h.req_fwd c hl
   have e1:delT t ml k=t.set (msAt ml k).to.toNat ((tAt t (msAt ml k).to).fwd (msAt ml k).org):=by rw[delT,hearT,if_neg (by rw[ht];simp),if_pos hl]
   have e2:delM t ml k=mcut ml k++[⟨(tAt t (msAt ml k).to).last,false,(msAt ml k).org⟩]:=by rw[delM,hearM,if_neg (by rw[ht];simp),if_pos hl]
   rw[e1,e2]
   refine⟨_,_,hI,⟨hlenV,fun m' hm' ht' x hx hv r' q1 q2=>?_⟩,hmu rfl rfl⟩
   rw[en]at q1 q2
   rw[zzw_]at hm'
   rcases hm' with hm'|hm'
   .obtain⟨b1,b2⟩:=hvw m' hm' ht'
    exact c.tn.keep (hvis m' hm' ht' x hx hv r' q1 q2) (ns _ r' b1 b2 q1 q2)
   .simp at hm';subst hm'
    have er:r'=r:=q1.end_eq q2 c.k1 c.k2
    rw[er]
    by_cases ex:x=(msAt ml k).to
    .rw[ex];exact c.tn.s_r
    .rw[sX_ f1,if_neg]at hv
     .exact c.tn.keep (v.vis _ (xT_ hk) ht x hx hv r c.k1 c.k2) c.tn.ne
     .intro e
      exact ex (oS_ ho.1 ho.1 ⟨hx.1,by have:=hx.2;omega⟩ ⟨hs.1,by have:=hs.2;omega⟩ e).2
theorem Inv.done(h:Inv n t ml G)(v:Vis n t ml G V){i:Int}(hi:Rng n i)(hu:(tAt t i).using_=true):Inv n (t.set i.toNat (xx_ (tAt t i))) (ml++xy_ (tAt t i)) G/\Vis n (t.set i.toNat (xx_ (tAt t i))) (ml++xy_ (tAt t i)) G V/\mu (t.set i.toNat (xx_ (tAt t i))) V+1=mu t V:=by
 have hv:=h.val i hi
 have hh:=hv.uh hu
 have hw:(tAt t i).want=false:=by
  cases hq:(tAt t i).want
  .rfl
  .rw[hv.wh hq]at hh;cases hh
 have hmu:∀ {v:Tk},v.want=(tAt t i).want->v.using_=false->mu (t.set i.toNat v) V+1=mu t V:=fun {v} e1 e2=>by
  have h2:=y0_ (p:=(·.want)) (v:=v) hi h.len e1
  have h3:=yc_ (t:=t) (p:=(·.using_)) (v:=v) hi.1 (by have:=hi.2;have:=h.len;omega)
  simp only[hu,e2,yyi_,if_false,if_true]at h3
  unfold mu
  omega
 by_cases hx:(tAt t i).next=-1
 .have e1:xx_ (tAt t i)=(tAt t i).rest:=by rw[xx_,if_pos hx]
  have e2:xy_ (tAt t i)=[]:=by rw[xy_,if_pos hx]
  rw[e1,e2,List.append_nil]
  refine⟨h.done_keep hi hu hx,⟨v.len,?_⟩,hmu rfl rfl⟩
  rw[xG_ (v:=(tAt t i).rest) hi h.len rfl]
  exact v.vis
 .have e1:xx_ (tAt t i)=(tAt t i).pass:=by rw[xx_,if_neg hx]
  have e2:xy_ (tAt t i)=[⟨(tAt t i).next,true,0⟩]:=by rw[xy_,if_neg hx]
  rw[e1,e2]
  refine⟨h.done_pass hi hu hx,⟨v.len,fun m hm ht x hx' hv' r k1 k2=>?_⟩,hmu rfl rfl⟩
  have en:=sO_ (v:=(tAt t i).pass) hi h.len
  have hno:∀z,nx n t z≠i:=fun z e=>by
   have:=h.wn (i:=z) (by rw[e];have:=hi.1;omega)
   rw[e,hw]at this;cases this
  rw[en]at k1 k2
  rw[zzw_]at hm
  rcases hm with hm|hm
  .have ho:=(h.mr m hm).2 ht
   have hwm:=h.wm hm
   rw[yr_ ht]at hwm
   have hne:m.org≠i:=fun e=>by rw[e,hw]at hwm;cases hwm
   obtain⟨p,q1,q2⟩:=h.na _ ho
   obtain⟨q3,q4⟩:=uE_ hno hne q1
   have:r=p:=k1.end_eq k2 q3 (by simp[hang,q4,q2])
   subst this
   exact v.vis m hm ht x hx' hv' r q1 q2
  .simp at hm;subst hm;cases ht
theorem Inv.want(h:Inv n t ml G){i:Int}(hi:Rng n i)(hw:(tAt t i).want=false)(hu:(tAt t i).using_=false):Inv n (t.set i.toNat (w1_ (tAt t i))) (ml++xA_ (tAt t i) i) G:=by
 by_cases hh:(tAt t i).has=true
 .rw[w1_,if_pos hh,xA_,if_pos hh,List.append_nil]
  exact h.want_has hi hw hh hu
 .rw[w1_,if_neg hh,xA_,if_neg hh]
  exact h.want_ask hi hw (by simpa using hh) hu
def newT(i:Int):Tk:=if i=0 then ⟨true,false,false,-1,-1⟩ else ⟨false,false,false,0,-1⟩
def vR_(n:Nat):List Tk:=(List.range n).map fun i:Nat=>newT i
theorem xC_{n:Nat}{i:Int}(hi:Rng n i):tAt (vR_ n) i=newT i:=by
 have h:i.toNat<n:=by have:=hi.1;have:=hi.2;omega
 have e:((i.toNat:Nat):Int)=i:=by have:=hi.1;omega
 rw[tAt,vR_,yyk_,zzs_,List.getElem?_range h]
 simp[e]
theorem Inv.start{n:Nat}(h1:1<=n)(h4:n<=4):Inv n (vR_ n) [] (fun x=>if x=0 then -1 else 0):=by
 have hnx:∀x,nx n (vR_ n) x=-1:=fun x=>by
  unfold nx
  split
  .next hx=>rw[xC_ hx];unfold newT;split<;>rfl
  .rfl
 have hcases:n=1\/n=2\/n=3\/n=4:=by omega
 refine⟨h1,h4,by simp[vR_],fun i hi=>?_,?_,fun i hi=>?_,fun m hm=>(by cases hm),fun i hi hl=>?_,fun i hi=>?_,fun i hi=>⟨i,.refl,hnx i⟩,fun i r hi hb=>?_,fun m hm=>by cases hm⟩
 .rw[xC_ hi]
  unfold newT
  by_cases e:i=0
  .rw[if_pos e]
   exact⟨h1,h4,hi,fun q=>absurd rfl q,fun q=>absurd rfl q,fun q=>(by cases q),fun q=>(by cases q),fun q=>⟨fun _=>rfl,fun _=>rfl⟩,fun _ _=>⟨rfl,⟨fun _=>rfl,fun _=>rfl⟩⟩⟩
  .rw[if_neg e]
   exact⟨h1,h4,hi,fun _=>⟨Int.le_refl 0,by show (0:Int)<n;omega,fun q=>e q.symm⟩,fun q=>absurd rfl q,fun q=>(by cases q),fun q=>(by cases q),fun q=>(by rcases q with q|q<;>cases q),fun _ _=>⟨rfl,⟨fun q=>(by cases q),fun q=>by cases q⟩⟩⟩
 .rcases hcases with rfl|rfl|rfl|rfl<;>decide
 .rw[xC_ hi]
  have e:(newT i).want=false:=by unfold newT;split<;>rfl
  rw[e,if_neg (by simp)]
  unfold rsn
  rw[List.countP_nil,Nat.zero_add,List.countP_eq_zero]
  intro x hx
  simp only[vR_,List.mem_map]at hx
  obtain⟨j,_,rfl⟩:=hx
  have:(newT (j:Int)).next=-1:=by unfold newT;split<;>rfl
  rw[this]
  have:=hi.1
  simp only[zzp_]
  omega
 .rw[xC_ hi]at hl ⊢
  unfold newT at hl ⊢
  by_cases e:i=0
  .rw[if_pos e]at hl;exact absurd rfl hl
  .rw[if_neg e];simp[e]
 .by_cases e:i=0
  .subst e;exact⟨0,.refl,rfl⟩
  .exact⟨0,.one (by simp[e]) (by decide),rfl⟩
 .rw[xC_ hi]at hb
  unfold newT at hb
  split at hb<;>rcases hb with q|q<;>cases q
end
end Go.Proofs.Ytnbppaolinopeaa
namespace Go.Proofs.Ytnbppaolinopeaa
open Go.RowKit Go.Proofs
theorem rS_{w:World}{b i:Nat}{cs:Array Value}{t:TypeId}(h:w.heap[b]?=some (.cells cs t (0,0))):w.frozen? ⟨b,i,none⟩=false:=by
 simp[World.frozen?,h]
theorem yU_(w:World)(cs:Array Value)(t:TypeId):(w.alloc (.cells cs t)).heap[w.heap.size]?=some (.cells cs t (0,0)):=heap_alloc_new w _
theorem zg_{w:World}{b:Nat}{o:Obj}(h:w.heap[b]?=some o)(o':Obj):(w.alloc o').heap[b]?=some o:=by
 have hb:b<w.heap.size:=(zzm_.1 h).1
 rw[Below.heap_alloc w o' b hb]
 exact h
theorem yq_{w w':World}{b B:Nat}{o:Obj}(h:w.heap[b]?=some o)(hb:Below B w w')(hlt:b<B):w'.heap[b]?=some o:=by
 rw[hb.block b hlt]
 exact h
theorem z0_{w:World}{b:Nat}{cs:Array Value}{t:TypeId}(h:w.heap[b]?=some (.cells cs t (0,0))):∀i,w.cell? ⟨b,i,none⟩=cs[i]?:=fun i=>cell_of_row w b i cs t (0,0) h
theorem z2_{w:World}{b:Nat}{cs:Array Value}{t:TypeId}(h:w.heap[b]?=some (.cells cs t (0,0))):∀i,w.frozen? ⟨b,i,none⟩=false:=fun _=>rS_ h
theorem r1_{w w1:World}{cs ds:Array Value}{t u:TypeId}(hb:Below ((w.alloc (.cells cs t)).alloc (.cells ds u)).heap.size ((w.alloc (.cells cs t)).alloc (.cells ds u)) w1) :
 w1.heap[w.heap.size]?=some (.cells cs t (0,0))/\w1.heap[w.heap.size+1]?=some (.cells ds u (0,0)) :=
 ⟨yq_ (zg_ (yU_ w cs t) _) hb (by simp;omega),by
  have:=yq_ (yU_ (w.alloc (.cells cs t)) ds u) hb (by simp)
  simpa using this⟩
theorem tB_{w w1:World}{cs ds es:Array Value}{t u s:TypeId}(hb:Below (((w.alloc (.cells cs t)).alloc (.cells ds u)).alloc (.cells es s)).heap.size (((w.alloc (.cells cs t)).alloc (.cells ds u)).alloc (.cells es s)) w1) :
 w1.heap[w.heap.size]?=some (.cells cs t (0,0))/\w1.heap[w.heap.size+1]?=some (.cells ds u (0,0))/\w1.heap[w.heap.size+2]?=some (.cells es s (0,0)) :=
 ⟨yq_ (zg_ (zg_ (yU_ w cs t) _) _) hb (by simp;omega),by
  have:=yq_ (zg_ (yU_ (w.alloc (.cells cs t)) ds u) (.cells es s)) hb (by simp)
  simpa using this,by
  have:=yq_ (yU_ ((w.alloc (.cells cs t)).alloc (.cells ds u)) es s) hb (by simp)
  simpa using this⟩
theorem xO_(w:World)(o:Obj):Below w.heap.size w (w.alloc o):=(Below.refl _ _).alloc (zzl_ _) _
def mc(k e s:Int):List Value:=[.int .i64 k,.int .i64 0,.int .i64 0,.int .i64 0,.int .i64 0,.string (ByteArray.mk #[]),.int .i64 0,.int .i64 0,.int .i64 0,.int .i64 0,.int .i64 0,.int .i64 e,.int .i64 s,.int .i64 0,.bool false,.slice none 0 0,.slice none 0 0,.slice none 0 0]
def pc(to k e s:Int):List Value:=.int .i64 to::mc k e s
theorem qk_(w:World)(to s e:Int)(b:Nat)(hb:w.cell? ⟨b,0,none⟩=some (.int .i64 e)) :
 Calls Try.prog 46 #[.int .i64 to,.int .i64 s,.pointer (some ⟨b,0,none⟩)] w fun e' w'=>e'=.returned (.slice (some ⟨w.heap.size,0,none⟩) 1 1)/\w'.heap[w.heap.size]?=some (.cells (pc to 12 e s).toArray 64 (0,0))/\Below w.heap.size w w':=by
 go_enter Try.func46,Try.ntmps46
 go_wp2
 go_ret
 exact⟨rfl,yU_ w _ 64,xO_ _ _⟩
theorem q8_(w:World)(to e:Int)(b:Nat)(hb:w.cell? ⟨b,0,none⟩=some (.int .i64 e)) :
 Calls Try.prog 47 #[.int .i64 to,.pointer (some ⟨b,0,none⟩)] w fun e' w'=>e'=.returned (.slice (some ⟨w.heap.size,0,none⟩) 1 1)/\w'.heap[w.heap.size]?=some (.cells (pc to 13 e 0).toArray 64 (0,0))/\Below w.heap.size w w':=by
 go_enter Try.func47,Try.ntmps47
 go_wp2
 go_ret
 exact⟨rfl,yU_ w _ 64,xO_ _ _⟩
theorem xb_(w:World)(e:Int) :
 Calls Try.prog 45 #[.int .i64 e] w fun e' w'=>e'=.returned (.agg #[(Value.func (.func 46) #[] #[.pointer (some ⟨(w.heap.size),0,none⟩)]),(Value.func (.func 47) #[] #[.pointer (some ⟨(w.heap.size),0,none⟩)])])/\w'.cell? ⟨w.heap.size,0,none⟩=some (.int .i64 e)/\w'.heap.size=w.heap.size+2/\Below w.heap.size w w':=by
 have hmf:∀(fn:Fn) (first cap:Array Value) (w:World),(Instr.makeFunc fn first cap).run Try.prog w=.ok (.func fn first cap) w:=fun _ _ _ _=>rfl
 go_enter Try.func45,Try.ntmps45
 go_wp2
 refine bodyPost_ret (v:=.agg #[(Value.func (.func 46) #[] #[.pointer (some ⟨(w.heap.size),0,none⟩)]),(Value.func (.func 47) #[] #[.pointer (some ⟨(w.heap.size),0,none⟩)])]) (by simp[results,Try.results45,go_sem]) rfl ⟨rfl,by simp,by simp,(xO_ _ _).alloc (by simp) _⟩
theorem s2_(n b:Nat)(v:Value)(w:World):(Instr.field 94 (.agg #[(Value.func (.func n) #[] #[.pointer (some ⟨b,0,none⟩)]),v]) 0).run Try.prog w=.ok ((Value.func (.func n) #[] #[.pointer (some ⟨b,0,none⟩)])) w:=rfl
theorem qh_(n b:Nat)(v:Value)(w:World):(Instr.field 94 (.agg #[v,(Value.func (.func n) #[] #[.pointer (some ⟨b,0,none⟩)])]) 1).run Try.prog w=.ok ((Value.func (.func n) #[] #[.pointer (some ⟨b,0,none⟩)])) w:=rfl
theorem vL_{n:Int}(h:-9223372036854775808<=n/\n<9223372036854775808):IntKind.i64.wrap n=n:=by rw[yye_];omega
def iv(xs:List Int):List V:=xs.map fun n=>.s (.int .i64 n)
@[simp] theorem iv_length (xs:List Int):(iv xs).length=xs.length:=by simp[iv]
def Tk.c(t:Tk):List Value:=[.bool t.has,.bool t.want,.bool t.using_,.int .i64 t.last,.int .i64 t.next]
def Tk.v(t:Tk):V:=.agg (t.c.map .s)
def Ms.k(m:Ms):Int:=if m.tok=true then 13 else 12
def Ms.s(m:Ms):Int:=if m.tok=true then 0 else m.org
def Ms.mv(m:Ms)(e:Int):V:=.agg ((mc m.k e m.s).map .s)
def Ms.v(m:Ms)(e:Int):V:=.agg ((pc m.to m.k e m.s).map .s)
theorem td_(i n:Int)(h:1<=n/\n<=4/\0<=i/\i<n):PC Try.prog 40 [.s (.int .i64 i),.s (.int .i64 n)] (fun r=>r=.s (.bool true)):=by
 refine zx_ c40 zN_ rfl ?_
 obtain⟨h1,h2,h3,h4⟩:=h
 have g1:n>=1:=h1
 have g3:i>=0:=h3
 simp -implicitDefEqProofs [a40,F40,g1,h2,g3,h4]
theorem sM_(x i n:Int)(h:0<=x/\x<n/\x≠i):PC Try.prog 41 [.s (.int .i64 x),.s (.int .i64 i),.s (.int .i64 n)] (fun r=>r=.s (.bool true)):=by
 refine zx_ c41 zN_ rfl ?_
 obtain⟨h1,h2,h3⟩:=h
 have g1:x>=0:=h1
 have g3:(x != i)=true:=by simpa using h3
 simp -implicitDefEqProofs [a41,F41,g1,h2,g3]
theorem uk_(e:Int)(h:0<=e/\e<=1073741824):PC Try.prog 44 [.s (.int .i64 e)] (fun r=>r=.s (.bool true)):=by
 refine zx_ c44 zN_ rfl ?_
 obtain⟨h1,h2⟩:=h
 have g1:e>=0:=h1
 simp -implicitDefEqProofs [a44,F44,g1,h2]
theorem mZ_(i n:Int)(h:1<=n/\n<=4/\0<=i/\i<n):PC Try.prog 30 [.s (.int .i64 i),.s (.int .i64 n)] (fun r=>r=.tup [(newT i).v,.s (.int .i64 0)]):=by
 refine zx_ c30 zN_ rfl ?_
 simp -implicitDefEqProofs [a30,F30]
 refine z5_ ?_
 simp -implicitDefEqProofs
 refine zj_ (td_ i n h) (by simp) (by simp) ?_
 rintro _ rfl
 by_cases hi:i=0
 .subst hi
  simp -implicitDefEqProofs [newT,Tk.v,Tk.c]
 .have h':(i==0)=false:=by simpa using hi
  simp -implicitDefEqProofs [newT,Tk.v,Tk.c,hi,h']
theorem re_{t:Tk}{n:Nat}{i:Int}(h:t.ok n i):PC Try.prog 34 [t.v,.s (.int .i64 i),.s (.int .i64 n)] (fun r=>r=.s (.bool true)):=by
 have hp:=td_ i n ⟨by have:=h.n1;omega,by have:=h.n4;omega,h.ri.1,h.ri.2⟩
 have ho:∀x,Othr n i x->PC Try.prog 41 [.s (.int .i64 x),.s (.int .i64 i),.s (.int .i64 n)] (fun r=>r=.s (.bool true)):=fun x hx=>sM_ x i n hx
 have hl:=h.l
 have hx:=h.x
 have huh:=h.uh
 have hwh:=h.wh
 have hb:=h.busy
 have hid:=h.idle
 obtain⟨has,want,us,last,next⟩:=t
 clear h
 simp only at hl hx huh hwh hb hid
 refine zx_ c34 zN_ rfl ?_
 simp -implicitDefEqProofs [a34,F34,Tk.v,Tk.c]
 refine z5_ ?_
 simp -implicitDefEqProofs
 refine zj_ hp (by simp) (by simp) ?_
 rintro _ rfl
 have fin:∀b1 b2:Bool,(last==-1)=b1->(next==-1)=b2->True:=fun _ _ _ _=>trivial
 cases e1:(last==-1)<;>cases e2:(next==-1)
 .have g1:last≠-1:=by simpa using e1
  have g2:next≠-1:=by simpa using e2
  have f1:(last != -1)=true:=by simpa using e1
  have f2:(next != -1)=true:=by simpa using e2
  simp -implicitDefEqProofs [f1]
  refine z5_ ?_
  simp -implicitDefEqProofs
  refine zj_ (ho _ (hl g1)) (by simp) (by simp) ?_
  rintro _ rfl
  simp -implicitDefEqProofs [f2]
  refine z5_ ?_
  simp -implicitDefEqProofs
  refine zj_ (ho _ (hx g2)) (by simp) (by simp) ?_
  rintro _ rfl
  cases us<;>cases want<;>cases has<;>simp[g1,g2]at huh hwh hb hid<;>simp -implicitDefEqProofs [e1,e2]
 .have g1:last≠-1:=by simpa using e1
  have g2:next=-1:=by simpa using e2
  have f1:(last != -1)=true:=by simpa using e1
  have f2:(next != -1)=false:=by simpa using e2
  simp -implicitDefEqProofs [f1]
  refine z5_ ?_
  simp -implicitDefEqProofs
  refine zj_ (ho _ (hl g1)) (by simp) (by simp) ?_
  rintro _ rfl
  cases us<;>cases want<;>cases has<;>simp[g1,g2]at huh hwh hb hid<;>simp -implicitDefEqProofs [e1,e2,f2]
 .have g1:last=-1:=by simpa using e1
  have g2:next≠-1:=by simpa using e2
  have f1:(last != -1)=false:=by simpa using e1
  have f2:(next != -1)=true:=by simpa using e2
  simp -implicitDefEqProofs [f1,f2]
  refine z5_ ?_
  simp -implicitDefEqProofs
  refine zj_ (ho _ (hx g2)) (by simp) (by simp) ?_
  rintro _ rfl
  cases us<;>cases want<;>cases has<;>simp[g1,g2]at huh hwh hb hid<;>simp -implicitDefEqProofs [e1,e2]
 .have g1:last=-1:=by simpa using e1
  have g2:next=-1:=by simpa using e2
  have f1:(last != -1)=false:=by simpa using e1
  have f2:(next != -1)=false:=by simpa using e2
  cases us<;>cases want<;>cases has<;>simp[g1,g2]at huh hwh hb hid<;>simp -implicitDefEqProofs [e1,e2,f1,f2]
def sv(h q u:Bool)(l x:Int):Value:=.agg #[.bool h,.bool q,.bool u,.int .i64 l,.int .i64 x]
theorem yO_{w w1:World}{b:Nat}{o:Obj}(f:w.heap[b]?=some o)(q:Below w.heap.size w w1):w1.heap[b]?=some o:=yq_ f q (zzm_.1 f).1
theorem z6_{w w1:World}{b:Nat}{o:Obj}(q:Below w.heap.size w w1)(f:w.heap[b]?=some o):w1.heap[b]?=some o:=yO_ f q
theorem ww_{w w1:World}{a b:Obj}(q:Below ((w.alloc a).alloc b).heap.size ((w.alloc a).alloc b) w1):Below w.heap.size w w1:=((xO_ w _).alloc (by simp) _).trans (q.mono (by simp;omega))
theorem zb_{B:Nat}{w w1 w2:World}(h:Below B w w1)(hB:B<=w1.heap.size)(q:Below w1.heap.size w1 w2):Below B w w2:=h.trans (q.mono hB)
theorem wc_{w:World}{b:Nat}{o:Obj}{a:Addr}{v:Value}(h:w.heap[b]?=some o)(hne:b≠a.block):(w.setCell a v).heap[b]?=some o:=by
 obtain⟨x,y,z⟩:=a
 cases z with
 |none=>rw[Below.heap_setCell _ _ _ _ hne];exact h
 |some z=>rw[Below.heap_setCell _ _ _ _ hne];exact h
def Yes(f:FuncId)(args:Array Value):Prop:=∀w,Calls Try.prog f args w fun e' w'=>e'=.returned (.bool true)/\Below w.heap.size w w'
def Bck(w:World)(h q u:Bool)(l x:Int)(ps:Option (List Value))(e':Ending)(w':World):Prop :=
 ∃ pv, e' = .returned (.tuple #[sv h q u l x, pv, .int .i64 0]) ∧ Below w.heap.size w w' ∧
   match ps with
   |none=>pv=.slice none 0 0
   |some cs=>∃b,pv=.slice (some ⟨b,0,none⟩) 1 1/\w.heap.size<=b/\w'.heap[b]?=some (.cells cs.toArray 64 (0,0))
theorem want_has(w:World)(i n l x:Int)(e:Int)(hV:Yes 34 #[sv true false false l x,.int .i64 i,.int .i64 n])(hE:Yes 44 #[.int .i64 e]) :
 Calls Try.prog 43 #[sv true false false l x,.int .i64 i,.int .i64 n,.int .i64 e] w (Bck w true false true l x none):=by
 unfold sv at hV ⊢
 have HV:=Lib.hid hV
 have HE:=Lib.hid hE
 clear hV hE
 go_enter Try.func43,Try.ntmps43
 go_wp2_with (first
  |(go_at_call 34;go_must (refine(HV.out _).mono ?_);rintro e' w1 ⟨rfl,q1⟩;obtain⟨f1,f2⟩:=r1_ q1;have C1:=z0_ f1;have C2:=z0_ f2;have R1:=z2_ f1;have R2:=z2_ f2;have HF1:=Lib.hid f1;have HF2:=Lib.hid f2;have HQ1:=Lib.hid (ww_ q1);clear f1 f2 q1)
  |(go_at_call 44;go_must (refine(HE.out _).mono ?_);rintro e' w2 ⟨rfl,q2⟩;have f1:=yO_ HF1.out q2;have f2:=yO_ HF2.out q2;clear C1 C2 R1 R2;have C1:=z0_ f1;have C2:=z0_ f2;have R1:=z2_ f1;have R2:=z2_ f2;have HQ2:=Lib.hid (zb_ HQ1.out HQ1.out.size q2);clear f1 f2 q2))
 refine bodyPost_ret (v:=.tuple #[sv true false true l x,.slice none 0 0,.int .i64 0]) (by simp[results,Try.results43,go_sem,C2,sv]) rfl ⟨_,rfl,?_,rfl⟩
 repeat (refine Below.setCell ?_ (by first|(simp;done)|(simp;omega)|omega) _)
 exact HQ2.out
theorem want_ask(w:World)(i n l x:Int)(e:Int)(hV:Yes 34 #[sv false false false l x,.int .i64 i,.int .i64 n])(hE:Yes 44 #[.int .i64 e]) :
 Calls Try.prog 43 #[sv false false false l x,.int .i64 i,.int .i64 n,.int .i64 e] w (Bck w false true false (-1) x (some (pc l 12 e i))):=by
 unfold sv at hV ⊢
 have HV:=Lib.hid hV
 have HE:=Lib.hid hE
 clear hV hE
 go_enter Try.func43,Try.ntmps43
 go_wp2_with (first
  |(go_at_call 34;go_must (refine(HV.out _).mono ?_);rintro e' w1 ⟨rfl,q1⟩;obtain⟨f1,f2⟩:=r1_ q1;have C1:=z0_ f1;have C2:=z0_ f2;have R1:=z2_ f1;have R2:=z2_ f2;have HF1:=Lib.hid f1;have HF2:=Lib.hid f2;have HQ1:=Lib.hid (ww_ q1);clear f1 f2 q1)
  |(go_at_call 44;go_must (refine(HE.out _).mono ?_);rintro e' w2 ⟨rfl,q2⟩;have f1:=yO_ HF1.out q2;have f2:=yO_ HF2.out q2;clear C1 C2 R1 R2;have C1:=z0_ f1;have C2:=z0_ f2;have R1:=z2_ f1;have R2:=z2_ f2;have HF3:=Lib.hid f1;have HF4:=Lib.hid f2;have HQ2:=Lib.hid (zb_ HQ1.out HQ1.out.size q2);clear f1 f2 q2))
 have HR:=fun (n b:Nat) (v:Value) (w:World)=>s2_ n b v w
 go_region_held3 (fun wx=>wx.cell? ⟨w.heap.size,3,none⟩=some (.int .i64 l))
  (first|exact C1 3|exact D1 3|exact E1 3|go_keep)
  (first
  |(go_at_call 45;refine(xb_ _ e).mono ?_;rintro e' w3 ⟨rfl,m1,m2,q3⟩; have f1:=z6_ q3 HF3.out;have f2:=z6_ q3 HF4.out;have D1:=z0_ f1;have HF5:=Lib.hid f1;have HF6:=Lib.hid f2;have HM1:=Lib.hid m1;have b3:Below w.heap.size w w3:=(by first|exact zb_ HQ2.out (Below.size HQ2.out) q3|exact zb_ (Below.drew HQ2.out) (Below.size (Below.drew HQ2.out)) q3|exact zb_ (Below.drew (Below.drew HQ2.out)) (Below.size (Below.drew (Below.drew HQ2.out))) q3);have HQ3:=Lib.hid b3;clear b3;clear f1 f2 q3 m1 m2)
  |(go_at_call 46;refine(qk_ _ l i e _ HM1.out).mono ?_;rintro e' w4 ⟨rfl,m1,q4⟩;have f1:=z6_ q4 HF5.out;have f2:=z6_ q4 HF6.out;have E1:=z0_ f1;have E2:=z0_ f2;have G1:=z2_ f1;have G2:=z2_ f2;have HM2:=Lib.hid m1;have b4:Below w.heap.size w w4:=(by first|exact zb_ HQ3.out (Below.size HQ3.out) q4|exact zb_ (Below.drew HQ3.out) (Below.size (Below.drew HQ3.out)) q4|exact zb_ (Below.drew (Below.drew HQ3.out)) (Below.size (Below.drew (Below.drew HQ3.out))) q4);have HQ4:=Lib.hid b4;clear b4;clear f1 f2 q4 m1))
 all_goals go_wp2
 refine bodyPost_ret (v:=.tuple #[sv false true false (-1) x,.slice (some ⟨w3.heap.size,0,none⟩) 1 1,.int .i64 0]) (by simp[results,Try.results43,go_sem,E2,sv]) rfl ⟨_,rfl,?_,_,rfl,HQ3.out.size,?_⟩
 .repeat (refine Below.setCell ?_ (by first|(simp;done)|(simp;omega)|omega) _)
  exact HQ4.out
 .have k1:=(zzm_.1 HF6.out).1
  repeat (refine wc_ ?_ (by simp;omega))
  exact HM2.out
theorem pm_(w:World)(i n l:Int)(e:Int)(hV:Yes 34 #[sv true false true l (-1),.int .i64 i,.int .i64 n])(hE:Yes 44 #[.int .i64 e]) :
 Calls Try.prog 42 #[sv true false true l (-1),.int .i64 i,.int .i64 n,.int .i64 e] w (Bck w true false false l (-1) none):=by
 unfold sv at hV ⊢
 have HV:=Lib.hid hV
 have HE:=Lib.hid hE
 clear hV hE
 go_enter Try.func42,Try.ntmps42
 go_wp2_with (first
  |(go_at_call 34;go_must (refine(HV.out _).mono ?_);rintro e' w1 ⟨rfl,q1⟩;obtain⟨f1,f2⟩:=r1_ q1;have C1:=z0_ f1;have C2:=z0_ f2;have R1:=z2_ f1;have R2:=z2_ f2;have HF1:=Lib.hid f1;have HF2:=Lib.hid f2;have HQ1:=Lib.hid (ww_ q1);clear f1 f2 q1)
  |(go_at_call 44;go_must (refine(HE.out _).mono ?_);rintro e' w2 ⟨rfl,q2⟩;have f1:=yO_ HF1.out q2;have f2:=yO_ HF2.out q2;clear C1 C2 R1 R2;have C1:=z0_ f1;have C2:=z0_ f2;have R1:=z2_ f1;have R2:=z2_ f2;have HF3:=Lib.hid f1;have HF4:=Lib.hid f2;have HQ2:=Lib.hid (zb_ HQ1.out HQ1.out.size q2);clear f1 f2 q2))
 refine bodyPost_ret (v:=.tuple #[sv true false false l (-1),.slice none 0 0,.int .i64 0]) (by simp[results,Try.results42,go_sem,C2,sv]) rfl ⟨_,rfl,?_,rfl⟩
 repeat (refine Below.setCell ?_ (by first|(simp;done)|(simp;omega)|omega) _)
 exact HQ2.out
theorem done_pass(w:World)(i n l x:Int)(e:Int)(hx:x≠-1)(hV:Yes 34 #[sv true false true l x,.int .i64 i,.int .i64 n])(hE:Yes 44 #[.int .i64 e]) :
 Calls Try.prog 42 #[sv true false true l x,.int .i64 i,.int .i64 n,.int .i64 e] w (Bck w false false false l (-1) (some (pc x 13 e 0))):=by
 unfold sv at hV ⊢
 have hx1:(x==-1)=false:=by simpa using hx
 have HV:=Lib.hid hV
 have HE:=Lib.hid hE
 clear hV hE hx
 go_enter Try.func42,Try.ntmps42
 go_wp2_with (first
  |(go_at_call 34;go_must (refine(HV.out _).mono ?_);rintro e' w1 ⟨rfl,q1⟩;obtain⟨f1,f2⟩:=r1_ q1;have C1:=z0_ f1;have C2:=z0_ f2;have R1:=z2_ f1;have R2:=z2_ f2;have HF1:=Lib.hid f1;have HF2:=Lib.hid f2;have HQ1:=Lib.hid (ww_ q1);clear f1 f2 q1)
  |(go_at_call 44;go_must (refine(HE.out _).mono ?_);rintro e' w2 ⟨rfl,q2⟩;have f1:=yO_ HF1.out q2;have f2:=yO_ HF2.out q2;clear C1 C2 R1 R2;have C1:=z0_ f1;have C2:=z0_ f2;have R1:=z2_ f1;have R2:=z2_ f2;have HF3:=Lib.hid f1;have HF4:=Lib.hid f2;have HQ2:=Lib.hid (zb_ HQ1.out HQ1.out.size q2);clear f1 f2 q2))
 have HR:=fun (n b:Nat) (v:Value) (w:World)=>qh_ n b v w
 have CN:(w2.setCell ⟨w.heap.size,2,none⟩ (.bool false)).cell? ⟨w.heap.size,4,none⟩=some (.int .i64 x):=by rw[World.cell?_setCell_other _ _ _ _ (by simp)];exact C1 4
 have HF3':=Lib.hid (xh_ (o:=2) (v:=.bool false) HF3.out)
 have HF4':=Lib.hid (wc_ (a:=⟨w.heap.size,2,none⟩) (v:=.bool false) HF4.out (by simp))
 have HQ2':=Lib.hid (HQ2.out.setCell (p:=⟨w.heap.size,2,none⟩) (by simp) (.bool false))
 go_region_held3 (fun wx=>wx.cell? ⟨w.heap.size,4,none⟩=some (.int .i64 x))
  (first|exact CN|exact D1 4|exact E1 4|go_keep)
  (first
  |(go_at_call 45;refine(xb_ _ e).mono ?_;rintro e' w3 ⟨rfl,m1,m2,q3⟩;have f1:=z6_ q3 HF3'.out;have f2:=z6_ q3 HF4'.out;have D1:=z0_ f1;have HF5:=Lib.hid f1;have HF6:=Lib.hid f2;have HM1:Hid (w3.cell? ⟨w2.heap.size,0,none⟩=some (.int .i64 e)):=Lib.hid (by simpa[World.drew] using m1);have b3:Below w.heap.size w w3:=(by first|exact zb_ HQ2'.out (Below.size HQ2'.out) q3|exact zb_ (Below.drew HQ2'.out) (Below.size (Below.drew HQ2'.out)) q3|exact zb_ (Below.drew (Below.drew HQ2'.out)) (Below.size (Below.drew (Below.drew HQ2'.out))) q3);have HQ3:=Lib.hid b3;clear b3;clear f1 f2 q3 m1 m2)
  |(go_at_call 47;refine(q8_ _ x e _ HM1.out).mono ?_;rintro e' w4 ⟨rfl,m1,q4⟩;have f1:=z6_ q4 HF5.out;have f2:=z6_ q4 HF6.out;have E1:=z0_ f1;have E2:=z0_ f2;have G1:=z2_ f1;have G2:=z2_ f2;have HM2:=Lib.hid m1;have b4:Below w.heap.size w w4:=(by first|exact zb_ HQ3.out (Below.size HQ3.out) q4|exact zb_ (Below.drew HQ3.out) (Below.size (Below.drew HQ3.out)) q4|exact zb_ (Below.drew (Below.drew HQ3.out)) (Below.size (Below.drew (Below.drew HQ3.out))) q4);have HQ4:=Lib.hid b4;clear b4;clear f1 f2 q4 m1))
 all_goals go_wp2
 refine bodyPost_ret (v:=.tuple #[sv false false false l (-1),.slice (some ⟨w3.heap.size,0,none⟩) 1 1,.int .i64 0]) (by simp[results,Try.results42,go_sem,E2,sv]) rfl ⟨_,rfl,?_,_,rfl,HQ3.out.size,?_⟩
 .repeat (refine Below.setCell ?_ (by first|(simp;done)|(simp;omega)|omega) _)
  exact HQ4.out
 .have k1:=(zzm_.1 HF6.out).1
  repeat (refine wc_ ?_ (by simp;omega))
  exact HM2.out
theorem yV_{w w1:World}{a b c:Obj}(q:Below (((w.alloc a).alloc b).alloc c).heap.size (((w.alloc a).alloc b).alloc c) w1):Below w.heap.size w w1:=(((xO_ w _).alloc (by simp) _).alloc (by simp;omega) _).trans (q.mono (by simp;omega))
theorem og_(w:World)(i n l x:Int)(e:Int)(hV:Yes 34 #[sv false true false l x,.int .i64 i,.int .i64 n])(hE:Yes 44 #[.int .i64 e]) :
 Calls Try.prog 39 #[sv false true false l x,.int .i64 i,.int .i64 n,.int .i64 e,.agg (mc 13 e 0).toArray] w (Bck w true false true l x none):=by
 unfold sv at hV ⊢
 unfold mc
 have HV:=Lib.hid hV
 have HE:=Lib.hid hE
 clear hV hE
 go_enter Try.func39,Try.ntmps39
 go_wp2_with (first
  |(go_at_call 34;go_must (refine(HV.out _).mono ?_);rintro e' w1 ⟨rfl,q⟩;obtain⟨f1,f2,f3⟩:=tB_ q;have C1:=z0_ f1;have C2:=z0_ f2;have C3:=z0_ f3;have R1:=z2_ f1;have R3:=z2_ f3;have HA1:=Lib.hid f1;have HA2:=Lib.hid f2;have HA3:=Lib.hid f3;have HAQ:=Lib.hid (yV_ q);clear f1 f2 f3 q)
  |(go_at_call 44;go_must (refine(HE.out _).mono ?_);rintro e' w2 ⟨rfl,q⟩;have f1:=z6_ q HA1.out;have f2:=z6_ q HA2.out;have f3:=z6_ q HA3.out;clear C1 C2 C3 R1 R3;have C1:=z0_ f1;have C2:=z0_ f2;have C3:=z0_ f3;have R1:=z2_ f1;have R3:=z2_ f3;have HB1:=Lib.hid f1;have HB2:=Lib.hid f2;have HB3:=Lib.hid f3;have HBQ:=Lib.hid (zb_ HAQ.out HAQ.out.size q);clear f1 f2 f3 q))
 refine bodyPost_ret (v:=.tuple #[sv true false true l x,.slice none 0 0,.int .i64 0]) (by simp[results,Try.results39,go_sem,C3,sv]) rfl ⟨_,rfl,?_,rfl⟩
 repeat (refine Below.setCell ?_ (by first|(simp;done)|(simp;omega)|omega) _)
 exact HBQ.out
theorem rG_(w:World)(q u:Bool)(i n x:Int)(e s:Int)(hV:Yes 34 #[sv false q u (-1) x,.int .i64 i,.int .i64 n])(hE:Yes 44 #[.int .i64 e])(hO:Yes 41 #[.int .i64 s,.int .i64 i,.int .i64 n]) :
 Calls Try.prog 39 #[sv false q u (-1) x,.int .i64 i,.int .i64 n,.int .i64 e,.agg (mc 12 e s).toArray] w (Bck w false q u s s none):=by
 unfold sv at hV ⊢
 unfold mc
 have HV:=Lib.hid hV
 have HE:=Lib.hid hE
 have HO:=Lib.hid hO
 clear hV hE hO
 go_enter Try.func39,Try.ntmps39
 go_wp2_with (first
  |(go_at_call 34;go_must (refine(HV.out _).mono ?_);rintro e' w1 ⟨rfl,q⟩;obtain⟨f1,f2,f3⟩:=tB_ q;have C1:=z0_ f1;have C2:=z0_ f2;have C3:=z0_ f3;have R1:=z2_ f1;have R3:=z2_ f3;have HA1:=Lib.hid f1;have HA2:=Lib.hid f2;have HA3:=Lib.hid f3;have HAQ:=Lib.hid (yV_ q);clear f1 f2 f3 q)
  |(go_at_call 41;go_must (refine(HO.out _).mono ?_);rintro e' w2 ⟨rfl,q⟩;have f1:=z6_ q HA1.out;have f2:=z6_ q HA2.out;have f3:=z6_ q HA3.out;clear C1 C2 C3 R1 R3;have C1:=z0_ f1;have C2:=z0_ f2;have C3:=z0_ f3;have R1:=z2_ f1;have R3:=z2_ f3;have HB1:=Lib.hid f1;have HB2:=Lib.hid f2;have HB3:=Lib.hid f3;have HBQ:=Lib.hid (zb_ HAQ.out HAQ.out.size q);clear f1 f2 f3 q)
  |(go_at_call 44;go_must (refine(HE.out _).mono ?_);rintro e' w3 ⟨rfl,q⟩;have f1:=z6_ q HB1.out;have f2:=z6_ q HB2.out;have f3:=z6_ q HB3.out;clear C1 C2 C3 R1 R3;have C1:=z0_ f1;have C2:=z0_ f2;have C3:=z0_ f3;have R1:=z2_ f1;have R3:=z2_ f3;have HC1:=Lib.hid f1;have HC2:=Lib.hid f2;have HC3:=Lib.hid f3;have HCQ:=Lib.hid (zb_ HBQ.out HBQ.out.size q);clear f1 f2 f3 q)
  |(go_at_call 45;go_must (refine(xb_ _ e).mono ?_);rintro e' w4 ⟨rfl,m1,m2,q⟩;have f1:=z6_ q HC1.out;have f2:=z6_ q HC2.out;have f3:=z6_ q HC3.out;clear C1 C2 C3 R1 R3;have C1:=fun o=>z0_ (zg_ f1 o);have C2:=fun o=>z0_ (zg_ f2 o);have C3:=fun o=>z0_ (zg_ f3 o);have R1:=fun o=>z2_ (zg_ f1 o);have R3:=fun o=>z2_ (zg_ f3 o);have HD1:=Lib.hid f1;have HD2:=Lib.hid f2;have HD3:=Lib.hid f3;have HDQ:=Lib.hid (zb_ HCQ.out HCQ.out.size q);have HM1:Hid (∀o,(w4.alloc o).cell? ⟨w3.heap.size,0,none⟩=some (.int .i64 e)):=Lib.hid (fun o=>by rw[World.cell?_alloc_past _ _ _ (by rw[m2];simp)];exact m1);clear m1 m2 f1 f2 f3 q))
 refine bodyPost_ret (v:=.tuple #[sv false q u s s,.slice none 0 0,.int .i64 0]) (by simp[results,Try.results39,go_sem,C3,sv]) rfl ⟨_,rfl,?_,rfl⟩
 repeat (refine Below.setCell ?_ (by first|(simp;done)|(simp;omega)|omega) _)
 exact HDQ.out.alloc HDQ.out.size _
theorem rF_(w:World)(q:Bool)(i n x:Int)(e s:Int)(hV:Yes 34 #[sv true q true (-1) x,.int .i64 i,.int .i64 n])(hE:Yes 44 #[.int .i64 e])(hO:Yes 41 #[.int .i64 s,.int .i64 i,.int .i64 n]) :
 Calls Try.prog 39 #[sv true q true (-1) x,.int .i64 i,.int .i64 n,.int .i64 e,.agg (mc 12 e s).toArray] w (Bck w true q true s s none):=by
 unfold sv at hV ⊢
 unfold mc
 have HV:=Lib.hid hV
 have HE:=Lib.hid hE
 have HO:=Lib.hid hO
 clear hV hE hO
 go_enter Try.func39,Try.ntmps39
 go_wp2_with (first
  |(go_at_call 34;go_must (refine(HV.out _).mono ?_);rintro e' w1 ⟨rfl,q⟩;obtain⟨f1,f2,f3⟩:=tB_ q;have C1:=z0_ f1;have C2:=z0_ f2;have C3:=z0_ f3;have R1:=z2_ f1;have R3:=z2_ f3;have HA1:=Lib.hid f1;have HA2:=Lib.hid f2;have HA3:=Lib.hid f3;have HAQ:=Lib.hid (yV_ q);clear f1 f2 f3 q)
  |(go_at_call 41;go_must (refine(HO.out _).mono ?_);rintro e' w2 ⟨rfl,q⟩;have f1:=z6_ q HA1.out;have f2:=z6_ q HA2.out;have f3:=z6_ q HA3.out;clear C1 C2 C3 R1 R3;have C1:=z0_ f1;have C2:=z0_ f2;have C3:=z0_ f3;have R1:=z2_ f1;have R3:=z2_ f3;have HB1:=Lib.hid f1;have HB2:=Lib.hid f2;have HB3:=Lib.hid f3;have HBQ:=Lib.hid (zb_ HAQ.out HAQ.out.size q);clear f1 f2 f3 q)
  |(go_at_call 44;go_must (refine(HE.out _).mono ?_);rintro e' w3 ⟨rfl,q⟩;have f1:=z6_ q HB1.out;have f2:=z6_ q HB2.out;have f3:=z6_ q HB3.out;clear C1 C2 C3 R1 R3;have C1:=z0_ f1;have C2:=z0_ f2;have C3:=z0_ f3;have R1:=z2_ f1;have R3:=z2_ f3;have HC1:=Lib.hid f1;have HC2:=Lib.hid f2;have HC3:=Lib.hid f3;have HCQ:=Lib.hid (zb_ HBQ.out HBQ.out.size q);clear f1 f2 f3 q)
  |(go_at_call 45;go_must (refine(xb_ _ e).mono ?_);rintro e' w4 ⟨rfl,m1,m2,q⟩;have f1:=z6_ q HC1.out;have f2:=z6_ q HC2.out;have f3:=z6_ q HC3.out;clear C1 C2 C3 R1 R3;have C1:=fun o=>z0_ (zg_ f1 o);have C2:=fun o=>z0_ (zg_ f2 o);have C3:=fun o=>z0_ (zg_ f3 o);have R1:=fun o=>z2_ (zg_ f1 o);have R3:=fun o=>z2_ (zg_ f3 o);have HD1:=Lib.hid f1;have HD2:=Lib.hid f2;have HD3:=Lib.hid f3;have HDQ:=Lib.hid (zb_ HCQ.out HCQ.out.size q);have HM1:Hid (∀o,(w4.alloc o).cell? ⟨w3.heap.size,0,none⟩=some (.int .i64 e)):=Lib.hid (fun o=>by rw[World.cell?_alloc_past _ _ _ (by rw[m2];simp)];exact m1);clear m1 m2 f1 f2 f3 q))
 refine bodyPost_ret (v:=.tuple #[sv true q true s s,.slice none 0 0,.int .i64 0]) (by simp[results,Try.results39,go_sem,C3,sv]) rfl ⟨_,rfl,?_,rfl⟩
 repeat (refine Below.setCell ?_ (by first|(simp;done)|(simp;omega)|omega) _)
 exact HDQ.out.alloc HDQ.out.size _
theorem p3_(w:World)(q:Bool)(i n x:Int)(e s:Int)(hV:Yes 34 #[sv true q false (-1) x,.int .i64 i,.int .i64 n])(hE:Yes 44 #[.int .i64 e])(hO:Yes 41 #[.int .i64 s,.int .i64 i,.int .i64 n]) :
 Calls Try.prog 39 #[sv true q false (-1) x,.int .i64 i,.int .i64 n,.int .i64 e,.agg (mc 12 e s).toArray] w (Bck w false q false s x (some (pc s 13 e 0))):=by
 unfold sv at hV ⊢
 unfold mc
 have HV:=Lib.hid hV
 have HE:=Lib.hid hE
 have HO:=Lib.hid hO
 clear hV hE hO
 go_enter Try.func39,Try.ntmps39
 go_wp2_with (first
  |(go_at_call 34;go_must (refine(HV.out _).mono ?_);rintro e' w1 ⟨rfl,q⟩;obtain⟨f1,f2,f3⟩:=tB_ q;have C1:=z0_ f1;have C2:=z0_ f2;have C3:=z0_ f3;have R1:=z2_ f1;have R3:=z2_ f3;have HA1:=Lib.hid f1;have HA2:=Lib.hid f2;have HA3:=Lib.hid f3;have HAQ:=Lib.hid (yV_ q);clear f1 f2 f3 q)
  |(go_at_call 41;go_must (refine(HO.out _).mono ?_);rintro e' w2 ⟨rfl,q⟩;have f1:=z6_ q HA1.out;have f2:=z6_ q HA2.out;have f3:=z6_ q HA3.out;clear C1 C2 C3 R1 R3;have C1:=z0_ f1;have C2:=z0_ f2;have C3:=z0_ f3;have R1:=z2_ f1;have R3:=z2_ f3;have HB1:=Lib.hid f1;have HB2:=Lib.hid f2;have HB3:=Lib.hid f3;have HBQ:=Lib.hid (zb_ HAQ.out HAQ.out.size q);clear f1 f2 f3 q)
  |(go_at_call 44;go_must (refine(HE.out _).mono ?_);rintro e' w3 ⟨rfl,q⟩;have f1:=z6_ q HB1.out;have f2:=z6_ q HB2.out;have f3:=z6_ q HB3.out;clear C1 C2 C3 R1 R3;have C1:=z0_ f1;have C2:=z0_ f2;have C3:=z0_ f3;have R1:=z2_ f1;have R3:=z2_ f3;have HC1:=Lib.hid f1;have HC2:=Lib.hid f2;have HC3:=Lib.hid f3;have HCQ:=Lib.hid (zb_ HBQ.out HBQ.out.size q);clear f1 f2 f3 q)
  |(go_at_call 45;go_must (refine(xb_ _ e).mono ?_);rintro e' w4 ⟨rfl,m1,m2,q⟩;have f1:=z6_ q HC1.out;have f2:=z6_ q HC2.out;have f3:=z6_ q HC3.out;clear C1 C2 C3 R1 R3;have C1:=fun o=>z0_ (zg_ f1 o);have C2:=fun o=>z0_ (zg_ f2 o);have C3:=fun o=>z0_ (zg_ f3 o);have R1:=fun o=>z2_ (zg_ f1 o);have R3:=fun o=>z2_ (zg_ f3 o);have HD1:=Lib.hid f1;have HD2:=Lib.hid f2;have HD3:=Lib.hid f3;have HDQ:=Lib.hid (zb_ HCQ.out HCQ.out.size q);have HM1:Hid (∀o,(w4.alloc o).cell? ⟨w3.heap.size,0,none⟩=some (.int .i64 e)):=Lib.hid (fun o=>by rw[World.cell?_alloc_past _ _ _ (by rw[m2];simp)];exact m1);clear m1 m2 f1 f2 f3 q)
  |(go_at_call 47;go_must (refine(q8_ _ s e (b:=w3.heap.size) ((World.cell?_setCell_other _ _ _ _ (by have:=(zzm_.1 HC1.out).1;intro hh;injection hh;omega)).trans (HM1.out _))).mono ?_);rintro e' w5 ⟨rfl,m1,q⟩;have f1:=z6_ q (xh_ (zg_ HD1.out _));have f2:=z6_ q (wc_ (zg_ HD2.out _) (by simp));have f3:=z6_ q (wc_ (zg_ HD3.out _) (by simp;try omega));clear C1 C2 C3 R1 R3;have C1:=z0_ f1;have C2:=z0_ f2;have C3:=z0_ f3;have R1:=z2_ f1;have R3:=z2_ f3;have HE1:=Lib.hid f1;have HE2:=Lib.hid f2;have HE3:=Lib.hid f3;have HEQ:=Lib.hid (zb_ ((HDQ.out.alloc HDQ.out.size _).setCell (zzl_ _) _) (by have:=HDQ.out.size;simp;omega) q);have HM2:Hid (w5.heap[w4.heap.size+1]?=_):=Lib.hid (by simpa using m1);clear m1 f1 f2 f3 q))
 refine bodyPost_ret (v:=.tuple #[sv false q false s x,.slice (some ⟨w4.heap.size+1,0,none⟩) 1 1,.int .i64 0]) (by simp[results,Try.results39,go_sem,C3,sv]) rfl ⟨_,rfl,?_,_,rfl,?_,?_⟩
 .repeat (refine Below.setCell ?_ (by first|(simp;done)|(simp;omega)|omega) _)
  exact HEQ.out
 .exact yyd_ HDQ.out.size (Nat.le_succ _)
 .have k1:=(zzm_.1 HD3.out).1
  repeat (refine wc_ ?_ (by simp;omega))
  exact HM2.out
theorem oh_(w:World)(h q u:Bool)(i n l x:Int)(e s:Int)(hl:l≠-1)(hV:Yes 34 #[sv h q u l x,.int .i64 i,.int .i64 n])(hE:Yes 44 #[.int .i64 e])(hO:Yes 41 #[.int .i64 s,.int .i64 i,.int .i64 n]) :
 Calls Try.prog 39 #[sv h q u l x,.int .i64 i,.int .i64 n,.int .i64 e,.agg (mc 12 e s).toArray] w (Bck w h q u s x (some (pc l 12 e s))):=by
 unfold sv at hV ⊢
 unfold mc
 have HV:=Lib.hid hV
 have HE:=Lib.hid hE
 have HO:=Lib.hid hO
 clear hV hE hO
 have hl1:(l==-1)=false:=by simpa using hl
 have hl2:(l != -1)=true:=by simpa using hl
 clear hl
 go_enter Try.func39,Try.ntmps39
 go_wp2_with (first
  |(go_at_call 34;go_must (refine(HV.out _).mono ?_);rintro e' w1 ⟨rfl,q⟩;obtain⟨f1,f2,f3⟩:=tB_ q;have C1:=z0_ f1;have C2:=z0_ f2;have C3:=z0_ f3;have R1:=z2_ f1;have R3:=z2_ f3;have HA1:=Lib.hid f1;have HA2:=Lib.hid f2;have HA3:=Lib.hid f3;have HAQ:=Lib.hid (yV_ q);clear f1 f2 f3 q)
  |(go_at_call 41;go_must (refine(HO.out _).mono ?_);rintro e' w2 ⟨rfl,q⟩;have f1:=z6_ q HA1.out;have f2:=z6_ q HA2.out;have f3:=z6_ q HA3.out;clear C1 C2 C3 R1 R3;have C1:=z0_ f1;have C2:=z0_ f2;have C3:=z0_ f3;have R1:=z2_ f1;have R3:=z2_ f3;have HB1:=Lib.hid f1;have HB2:=Lib.hid f2;have HB3:=Lib.hid f3;have HBQ:=Lib.hid (zb_ HAQ.out HAQ.out.size q);clear f1 f2 f3 q)
  |(go_at_call 44;go_must (refine(HE.out _).mono ?_);rintro e' w3 ⟨rfl,q⟩;have f1:=z6_ q HB1.out;have f2:=z6_ q HB2.out;have f3:=z6_ q HB3.out;clear C1 C2 C3 R1 R3;have C1:=z0_ f1;have C2:=z0_ f2;have C3:=z0_ f3;have R1:=z2_ f1;have R3:=z2_ f3;have HC1:=Lib.hid f1;have HC2:=Lib.hid f2;have HC3:=Lib.hid f3;have HCQ:=Lib.hid (zb_ HBQ.out HBQ.out.size q);clear f1 f2 f3 q)
  |(go_at_call 45;go_must (refine(xb_ _ e).mono ?_);rintro e' w4 ⟨rfl,m1,m2,q⟩;have f1:=z6_ q HC1.out;have f2:=z6_ q HC2.out;have f3:=z6_ q HC3.out;clear C1 C2 C3 R1 R3;have C1:=fun o=>z0_ (zg_ f1 o);have C2:=fun o=>z0_ (zg_ f2 o);have C3:=fun o=>z0_ (zg_ f3 o);have R1:=fun o=>z2_ (zg_ f1 o);have R3:=fun o=>z2_ (zg_ f3 o);have HD1:=Lib.hid f1;have HD2:=Lib.hid f2;have HD3:=Lib.hid f3;have HDQ:=Lib.hid (zb_ HCQ.out HCQ.out.size q);have HM1:Hid (∀o,(w4.alloc o).cell? ⟨w3.heap.size,0,none⟩=some (.int .i64 e)):=Lib.hid (fun o=>by rw[World.cell?_alloc_past _ _ _ (by rw[m2];simp)];exact m1);clear m1 m2 f1 f2 f3 q)
  |(go_at_call 46;go_must (refine(qk_ _ l s e _ (HM1.out _)).mono ?_);rintro e' w5 ⟨rfl,m1,q⟩;have f1:=z6_ q (zg_ HD1.out _);have f2:=z6_ q (zg_ HD2.out _);have f3:=z6_ q (zg_ HD3.out _);clear C1 C2 C3 R1 R3;have C1:=z0_ f1;have C2:=z0_ f2;have C3:=z0_ f3;have R1:=z2_ f1;have R3:=z2_ f3;have HE1:=Lib.hid f1;have HE2:=Lib.hid f2;have HE3:=Lib.hid f3;have HEQ:=Lib.hid (zb_ (HDQ.out.alloc HDQ.out.size _) (by have:=HDQ.out.size;simp;omega) q);have HM2:Hid (w5.heap[w4.heap.size+1]?=_):=Lib.hid (by simpa using m1);clear m1 f1 f2 f3 q))
 refine bodyPost_ret (v:=.tuple #[sv h q u s x,.slice (some ⟨w4.heap.size+1,0,none⟩) 1 1,.int .i64 0]) (by simp[results,Try.results39,go_sem,C3,sv]) rfl ⟨_,rfl,?_,_,rfl,?_,?_⟩
 .repeat (refine Below.setCell ?_ (by first|(simp;done)|(simp;omega)|omega) _)
  exact HEQ.out
 .exact yyd_ HDQ.out.size (Nat.le_succ _)
 .have k1:=(zzm_.1 HD3.out).1
  repeat (refine wc_ ?_ (by simp;omega))
  exact HM2.out
section
def StL(F:Fr)(D e z:Nat)(xs rest:List V):St:={ St0 F (.lent D 0 e z xs::rest) [] with tm:=upd (fun _=>.no) D (.tup []) }
section
variable{P:Program}{F:Fr}{g:Gh}{w:World}
end
attribute [simp] StL
end
theorem uf_{P:Program}{f:FuncId}{args:List V}{vals:Array Value}{b:Bool}{g:Gh}{w:World}(hpc:PC P f args (fun r=>r=.s (.bool b)))(hl:args.length=vals.size)(hi:∀x∈args,immA x=true)(hr:∀(i:Nat) (x:V) (v:Value),args[i]?=some x->vals[i]?=some v->Rep g w x v)(hlt:∀k,0<g.I k->k<w.heap.size) :
 Calls P f vals w fun e w'=>e=.returned (.bool b)/\Below w.heap.size w w':=by
 obtain⟨hbd,hno⟩:=tR_ hl hi hr hlt
 refine(hpc _ w _ hbd).mono ?_
 rintro e w' ⟨v,r,bs',g',rfl,⟨rfl,rfl⟩,_,hb,hex⟩
 have hrep:=hb.rep (.l (.var 0)) _ v ⟨rfl,by simp[z8_,Frn,Act.tv]⟩
 have:=hrep.of_s rfl
 subst this
 exact⟨rfl,hex.os,hex.tape,hex.output,hex.size,fun k hk=>(hex.same k hk (hno k)).1⟩
theorem oP_{P:Program}{f:FuncId}{args:List V}{Q:V->Prop}(him:∀x∈args,immA x=true)
 (hw:∀(g:Gh) (w:World) (vs:Array Value),args.length=vs.size->(∀(i:Nat) (x:V) (v:Value),args[i]?=some x->vs[i]?=some v->Rep g w x v)->(∀k,0<g.I k->k<w.heap.size) ->
  Calls P f vs w fun e' w'=>∃(v:Value) (r:V) (I':Nat->Nat),e'=.returned v/\Q r/\immT r=true/\okV r=true/\(∀b,b<w.heap.size->I' b=g.I b)/\(∀b,0<I' b->b<w'.heap.size)/\Rep ⟨I',g.φ⟩ w' r v/\Below w.heap.size w w'):PC P f args Q:=by
 intro g w vs hb
 have hl:args.length=vs.size:=by have:=hb.sz;simp[Frn]at this;exact this.symm
 have hrep:∀(i:Nat) (x:V) (v:Value),args[i]?=some x->vs[i]?=some v->Rep g w x v:=by
  intro i x v hx hv
  refine hb.rep (.l (.var i)) x v ⟨hx,?_⟩
  have hi:=(zzc_.1 hx).1
  have hi':i<vs.size:=by omega
  rw[Array.getElem?_eq_getElem hi']at hv
  cases hv
  simp[z8_,Frn,Act.tv,hi,hl ▸ hi]
 refine(hw g w vs hl hrep hb.Ilt).mono ?_
 rintro e' w' ⟨v,r,I',rfl,hQ,hi,hok,h1,h2,hr,hbel⟩
 obtain⟨q1,q2⟩:=pv_ (g:=⟨I',g.φ⟩) (w:=w') hi hr h2
 refine⟨v,r,[],⟨I',g.φ⟩,rfl,⟨rfl,hQ⟩,hok,q1,⟨hbel.os,hbel.tape,hbel.output,hbel.size,fun k hk' _=>⟨hbel.block k hk',h1 k hk'⟩,fun k ho'=>absurd ho' (q2 k),fun b hb'=>by simp at hb'⟩⟩
def uI_(w:World)(b:Nat):Nat:=match w.heap[b]? with|some (.cells cs _ _)=>cs.size|_=>0
theorem mW_{w:World}{b:Nat}(h:0<uI_ w b):b<w.heap.size:=by
 unfold uI_ at h
 split at h
 .next cs ty fz hh=>exact(zzm_.1 hh).1
 .omega
def newI(g:Gh)(w w':World)(b:Nat):Nat:=if b<w.heap.size then g.I b else uI_ w' b
def One(x:V)(u:Value):Prop:=(∀g w v,Rep g w x v->v=u)/\(∀g w,Rep g w x u)/\immA x=true
theorem One.s{v:Value}(h:v.oneCell'=true):One (.s v) v:=⟨fun _ _ _ hr=>hr.of_s rfl,fun _ _=>.s h,rfl⟩
theorem wi_{g:Gh}{w:World}{l:List Value}(h:∀c∈l,c.oneCell'=true):Rep g w (.agg (l.map .s)) (.agg l.toArray):=by
 refine .agg (by simp) (by simpa using h) fun j u c hu hc=>?_
 simp at hu hc
 obtain⟨a,ha,rfl⟩:=hu
 rw[ha]at hc
 cases hc
 exact .s (h _ (zzd_ ha))
theorem One.agg{l:List Value}(h:∀c∈l,c.oneCell'=true):One (.agg (l.map .s)) (.agg l.toArray):=by
 refine⟨fun g w v hr=>?_,fun g w=>wi_ h,?_⟩
 .cases hr with
  | agg hl h1 hh =>
    rename_i vs
    congr 1
    refine Array.ext (by simpa using hl.symm) fun i hi hi'=>?_
    have hi2:i<l.length:=by simpa using hi'
    have:=(hh i (.s l[i]) vs[i] (by simp[hi2]) (Array.getElem?_eq_getElem hi)).of_s rfl
    rw[this];simp
 .simp only[immA,zzh_]
  intro x hx
  simp only[List.mem_map]at hx
  obtain⟨c,_,rfl⟩:=hx
  rfl
inductive Ones:List V->List Value->Prop
 |nil:Ones [] []
 |cons {x u xs us} (h:One x u) (hr:Ones xs us):Ones (x::xs) (u::us)
theorem Ones.get{xs:List V}{us:List Value}(h:Ones xs us):xs.length=us.length/\∀(i:Nat) (x:V),xs[i]?=some x->∃u,us[i]?=some u/\One x u:=by
 induction h with
 |nil=>exact⟨rfl,fun i x hx=>by simp at hx⟩
 | cons h hr ih =>
   refine⟨by simp[ih.1],fun i x hx=>?_⟩
   cases i with
   |zero=>simp at hx;subst hx;exact⟨_,rfl,h⟩
   |succ i=>simp at hx;simpa using ih.2 i x hx
theorem Ones.imm{xs:List V}{us:List Value}(h:Ones xs us):∀x∈xs,immA x=true:=fun x hx=>by
 obtain⟨i,hi⟩:=List.getElem?_of_mem hx
 obtain⟨u,_,q⟩:=h.get.2 i x hi
 exact q.2.2
theorem Ones.eq{xs:List V}{us:List Value}{vs:Array Value}{g:Gh}{w:World}(h:Ones xs us)(hl:xs.length=vs.size)(hr:∀(i:Nat) (x:V) (v:Value),xs[i]?=some x->vs[i]?=some v->Rep g w x v):vs=us.toArray:=by
 obtain⟨h1,h2⟩:=h.get
 refine Array.ext (by simp;omega) fun i hi hi'=>?_
 obtain⟨u,hu,ho⟩:=h2 i xs[i] (zzf_ (by omega))
 have:=ho.1 _ _ _ (hr i _ _ (zzf_ (by omega)) (Array.getElem?_eq_getElem hi))
 rw[this]
 have:i<us.length:=by omega
 rw[zzf_ this]at hu
 cases hu
 simp
theorem rV_{f:FuncId}{args:List V}{us:List Value}(h:Ones args us)(hpc:PC Try.prog f args (fun r=>r=.s (.bool true))):Yes f us.toArray:=by
 intro w
 refine uf_ (g:=⟨fun _=>0,id⟩) hpc (by simpa using h.get.1) h.imm (fun i x v hx hv=>?_) (fun k hk=>by simp at hk)
 obtain⟨u,hu,ho⟩:=h.get.2 i x hx
 simp[hu]at hv
 subst hv
 exact ho.2.1 _ _
def psV:Option (List Value)->List V
 |none=>[]
 |some cs=>[.agg (cs.map .s)]
theorem ql_{g:Gh}{w w':World}{ps:Option (List Value)}{pv:Value}(h:match ps with|none=>pv=.slice none 0 0|some cs=>∃b,pv=.slice (some ⟨b,0,none⟩) 1 1/\w.heap.size<=b/\w'.heap[b]?=some (.cells cs.toArray 64 (0,0)))
 (hps:∀cs,ps=some cs->cs.length=19/\∀c∈cs,c.oneCell'=true):Rep ⟨newI g w w',g.φ⟩ w' (.list 19 (psV ps)) pv:=by
 cases ps with
 | none =>
   subst h
   exact .list (xs:=[]) (fun _=>undef) (zzl_ _) (by simp) (fun _=>rfl) (by simp) (by simp[flat]) (by simp[flat]) (by simp[flat])
 | some cs =>
   obtain⟨b,rfl,hb,hh⟩:=h
   obtain⟨h19,h1⟩:=hps cs rfl
   have hfl:flat (psV (some cs))=cs.map .s:=by simp[psV,flat,cellsOf]
   refine .list (xs:=psV (some cs)) (fun j=>cs.getD j undef) (by simp[psV]) (by simp[maxLen]) (fun e=>by cases e) ?_ ?_ ?_ ?_
   .intro x hx;simp[psV]at hx;subst hx;simp[cellsOf,h19]
   .intro u hu;rw[hfl]at hu;simp only[List.mem_map]at hu;obtain⟨c,_,rfl⟩:=hu;rfl
   .intro j hj
    rw[hfl]at hj
    simp at hj
    refine⟨b,0,rfl,?_,?_⟩
    .simp only[newI];rw[if_neg (by omega)];simp[uI_,hh];exact hj
    .rw[Nat.zero_add,z0_ hh];simp[yyk_,zzf_ hj]
   .intro j u hu
    rw[hfl]at hu
    simp at hu
    obtain⟨c,hc,rfl⟩:=hu
    simp only[yyk_,hc,Option.getD_some]
    exact .s (h1 c (zzd_ hc))
theorem xv_{f:FuncId}{args:List V}{us:List Value}{h q u:Bool}{l x:Int}{ps:Option (List Value)}(hD:Ones args us)(hps:∀cs,ps=some cs->cs.length=19/\∀c∈cs,c.oneCell'=true)
 (hw:∀w,Calls Try.prog f us.toArray w (Bck w h q u l x ps)):PC Try.prog f args (fun r=>r=.tup [(Tk.mk h q u l x).v,.list 19 (psV ps),.s (.int .i64 0)]):=by
 refine oP_ hD.imm fun g w vs hsz hrep hlt=>?_
 have hv:=hD.eq hsz hrep
 subst hv
 refine(hw w).mono ?_
 rintro e' w' ⟨pv,rfl,hbel,hpv⟩
 refine⟨_,_,newI g w w',rfl,rfl,rfl,rfl,fun b hb=>by simp[newI,hb],fun b hb=>?_,?_,hbel⟩
 .simp only[newI]at hb
  split at hb
  .have:=hlt b hb
   have:=hbel.size
   omega
  .exact mW_ hb
 .refine .tup rfl fun j y c hy hc=>?_
  match j with
  | 0 =>
    simp at hy hc;subst hy;subst hc
    exact wi_ (l:=[.bool h,.bool q,.bool u,.int .i64 l,.int .i64 x]) (by intro c hc;simp at hc;rcases hc with rfl|rfl|rfl|rfl|rfl<;>rfl)
  |1=>simp at hy hc;subst hy;subst hc;exact ql_ hpv hps
  |2=>simp at hy hc;subst hy;subst hc;exact .s rfl
  |j+3=>simp at hy
end Go.Proofs.Ytnbppaolinopeaa
