/- Texts put behind one another: A36, A37, L0, A38. -/
import Derived.Test.YtpfjlnmnolbiaaaZC
import Derived.Tactics
import Derived.IntWalk
import Derived.Test.YtpfjlnmnolbiaaaProg
set_option linter.unusedVariables false
set_option linter.unusedSimpArgs false
namespace Go.Proofs.Ytpfjlnmnolbiaaa
open Go.RowKit Go.Proofs
section
def ob{α:Type}(o:Option α)(K:α->Prop):Prop:=match o with
 |some x=>K x
 |none=>False
@[simp] theorem ob_some {α:Type} (x:α) (K:α->Prop):ob (some x) K=K x:=rfl
@[simp] theorem ob_none {α:Type} (K:α->Prop):ob none K=False:=rfl
section
variable{P:Program}{F:Fr}{n:Nat}
@[simp] theorem upd_at (f:Nat->V) (d:Nat) (x:V) (t:Nat):upd f d x t=if t=d then x else f t:=rfl
@[simp] theorem W_skip (S:St) (Q:AX->St->Prop):W P F n .skip S Q=Q .normal S:=rfl
@[simp] theorem W_exit (id:Nat) (S:St) (Q:AX->St->Prop):W P F n (.exit id) S Q=Q (.exit id) S:=rfl
@[simp] theorem W_ret (S:St) (Q:AX->St->Prop):W P F n .ret S Q=Q .ret S:=rfl
def sq(P:Program)(F:Fr)(n:Nat)(y:ACode)(Q:AX->St->Prop):AX->St->Prop:=fun e S=>match e with
 |.normal=>W P F n y S Q
 |e=>Q e S
def bq(id:Nat)(Q:AX->St->Prop):AX->St->Prop:=fun e S=>match e with
 |.exit id'=>if id'=id then Q .normal S else Q (.exit id') S
 |e=>Q e S
@[simp] theorem sq_normal (y:ACode) (Q:AX->St->Prop) (S:St):sq P F n y Q .normal S=W P F n y S Q:=rfl
@[simp] theorem sq_exit (y:ACode) (Q:AX->St->Prop) (S:St) (id:Nat):sq P F n y Q (.exit id) S=Q (.exit id) S:=rfl
@[simp] theorem sq_ret (y:ACode) (Q:AX->St->Prop) (S:St):sq P F n y Q .ret S=Q .ret S:=rfl
@[simp] theorem sq_goto (y:ACode) (Q:AX->St->Prop) (S:St) (l:Nat):sq P F n y Q (.goto l) S=Q (.goto l) S:=rfl
@[simp] theorem bq_goto (id:Nat) (Q:AX->St->Prop) (S:St) (l:Nat):bq id Q (.goto l) S=Q (.goto l) S:=rfl
@[simp] theorem W_label (l:Nat) (S:St) (Q:AX->St->Prop):W P F n (.label l) S Q=Q .normal S:=rfl
@[simp] theorem W_goto (l:Nat) (S:St) (Q:AX->St->Prop):W P F n (.goto l) S Q=Q (.goto l) S:=rfl
def ng(Q:AX->St->Prop):AX->St->Prop:=fun e S=>match e with
 |.goto _=>False
 |e=>Q e S
@[simp] theorem ng_normal (Q:AX->St->Prop) (S:St):ng Q .normal S=Q .normal S:=rfl
@[simp] theorem ng_exit (Q:AX->St->Prop) (S:St) (id:Nat):ng Q (.exit id) S=Q (.exit id) S:=rfl
@[simp] theorem ng_ret (Q:AX->St->Prop) (S:St):ng Q .ret S=Q .ret S:=rfl
def jq(P:Program)(F:Fr)(n:Nat)(l:Nat)(r:ACode)(Q:AX->St->Prop):AX->St->Prop:=fun e S=>match e with
 |.goto l'=>l'=l/\W P F n r S (ng Q)
 |e=>Q e S
@[simp] theorem jq_normal (l:Nat) (r:ACode) (Q:AX->St->Prop) (S:St):jq P F n l r Q .normal S=Q .normal S:=rfl
@[simp] theorem jq_exit (l:Nat) (r:ACode) (Q:AX->St->Prop) (S:St) (id:Nat):jq P F n l r Q (.exit id) S=Q (.exit id) S:=rfl
@[simp] theorem jq_ret (l:Nat) (r:ACode) (Q:AX->St->Prop) (S:St):jq P F n l r Q .ret S=Q .ret S:=rfl
@[simp] theorem jq_goto (l l':Nat) (r:ACode) (Q:AX->St->Prop) (S:St):jq P F n l r Q (.goto l') S=(l'=l/\W P F n r S (ng Q)):=rfl
@[simp] theorem W_scope (l:Nat) (c r:ACode) (S:St) (Q:AX->St->Prop):W P F n (.scope l c r) S Q=W P F n c S (jq P F n l r Q):=rfl
@[simp] theorem bq_normal (id:Nat) (Q:AX->St->Prop) (S:St):bq id Q .normal S=Q .normal S:=rfl
@[simp] theorem bq_exit (id:Nat) (Q:AX->St->Prop) (S:St) (id':Nat):bq id Q (.exit id') S=if id'=id then Q .normal S else Q (.exit id') S:=rfl
@[simp] theorem bq_ret (id:Nat) (Q:AX->St->Prop) (S:St):bq id Q .ret S=Q .ret S:=rfl
@[simp] theorem W_seq (x y : ACode) (S : St) (Q : AX → St → Prop) : W P F n (.seq x y) S Q = W P F n x S (sq P F n y Q) := by
  simp only[W]
  congr 1
def cd(P:Program)(F:Fr)(n:Nat)(c:V)(x y:ACode)(S:St)(Q:AX->St->Prop):Prop:=match c with
 |.s (.bool b)=>if b then W P F n x S Q else W P F n y S Q
 |_=>False
@[simp] theorem W_cond (c:Opd) (x y:ACode) (S:St) (Q:AX->St->Prop):W P F n (.cond c x y) S Q=cd P F n (z2_ S c) x y S Q:=rfl
@[simp] theorem cd_true (x y:ACode) (S:St) (Q:AX->St->Prop):cd P F n (.s (.bool true)) x y S Q=W P F n x S Q:=rfl
@[simp] theorem cd_false (x y:ACode) (S:St) (Q:AX->St->Prop):cd P F n (.s (.bool false)) x y S Q=W P F n y S Q:=rfl
@[simp] theorem W_block (id : Nat) (c : ACode) (S : St) (Q : AX → St → Prop) : W P F n (.block id c) S Q = W P F n c S (bq id Q) := by
  simp only[W]
  congr 1
def wrk(P:Program)(ops:List AOper)(K:St->Prop):St->Prop:=fun S=>WR P ops S K
@[simp] theorem wrk_at (ops:List AOper) (K:St->Prop) (S:St):wrk P ops K S=WR P ops S K:=rfl
@[simp] theorem W_reg (id : Nat) (pre : List Ghost) (ops : List AOper) (an : Ann) (S : St) (Q : AX → St → Prop) : W P F n (.reg id pre ops none an) S Q = (pre.all (xN_ F) = true ∧ ob (w3_ pre S) (wrk P ops (Q .normal))) := by
  simp only[W]
  cases w3_ pre S<;>rfl
def WGD(P:Program)(ac:Bool)(o:AOper)(S:St)(K:St->Prop):Prop:=∃S',DG P ac o S S'/\K S'
def wdk(P:Program)(A:Ann)(k:Nat)(ops:List AOper)(K:St->Prop):St->Prop:=fun S=>WDR P A K k ops S
@[simp] theorem wdk_at (A:Ann) (k:Nat) (ops:List AOper) (K:St->Prop) (S:St):wdk P A k ops K S=WDR P A K k ops S:=rfl
def WNM(P:Program)(ops:List AOper)(es:List (List Nat))(S:St)(K:St->Prop):Prop:=WN P ops es ops.length [] S K
def wdm(P:Program)(A:Ann)(es:List (List Nat))(ops:List AOper)(K:St->Prop):St->Prop:=fun S=>if A.acs=[1000000] then WNM P ops es S K else WDR P A K 0 ops S
@[simp] theorem wdm_at (sh lf acs:List Nat) (ap:List (Nat×Nat×Nat)) (es:List (List Nat)) (ops:List AOper) (K:St->Prop) (S:St):wdm P ⟨sh,lf,acs,ap⟩ es ops K S=if acs=[1000000] then WNM P ops es S K else WDR P ⟨sh,lf,acs,ap⟩ K 0 ops S:=rfl
@[simp] theorem W_regd (id : Nat) (pre : List Ghost) (ops : List AOper) (es : List (List Nat)) (an : Ann) (S : St) (Q : AX → St → Prop) : W P F n (.reg id pre ops (some es) an) S Q = (pre.all (xN_ F) = true ∧ ob (w3_ pre S) (wdm P an es ops (Q .normal))) := by
  simp only[W]
  cases w3_ pre S<;>rfl
@[simp] theorem WR_nil (S:St) (K:St->Prop):WR P [] S K=K S:=rfl
@[simp] theorem WR_cons (o:AOper) (r:List AOper) (S:St) (K:St->Prop):WR P (o::r) S K=WG P o S (wrk P r K):=rfl
@[simp] theorem WG_none (d:Dst) (op:AOp) (S:St) (K:St->Prop):WG P ⟨d,op,none⟩ S K=WO P ⟨d,op,none⟩ S K:=rfl
def gd(P:Program)(x:V)(want:Bool)(d:Nat)(op:AOp)(S:St)(K:St->Prop):Prop:=match gB x want with
 |some true=>WO P ⟨.t d,op,none⟩ S K
 |some false=>K { S with tm:=upd S.tm d (.tup []) }
 |none=>False
@[simp] theorem WG_some (d:Nat) (op:AOp) (t:Nat) (want:Bool) (S:St) (K:St->Prop):WG P ⟨.t d,op,some (t,want)⟩ S K=gd P (S.tm t) want d op S K:=rfl
@[simp] theorem gd_tt (d:Nat) (op:AOp) (S:St) (K:St->Prop):gd P (.s (.bool true)) true d op S K=WO P ⟨.t d,op,none⟩ S K:=rfl
@[simp] theorem gd_ff (d:Nat) (op:AOp) (S:St) (K:St->Prop):gd P (.s (.bool false)) false d op S K=WO P ⟨.t d,op,none⟩ S K:=rfl
@[simp] theorem gd_tf (d:Nat) (op:AOp) (S:St) (K:St->Prop):gd P (.s (.bool true)) false d op S K=K { S with tm:=upd S.tm d (.tup []) }:=rfl
@[simp] theorem gd_ft (d:Nat) (op:AOp) (S:St) (K:St->Prop):gd P (.s (.bool false)) true d op S K=K { S with tm:=upd S.tm d (.tup []) }:=rfl
@[simp] theorem gd_no (want:Bool) (d:Nat) (op:AOp) (S:St) (K:St->Prop):gd P (.tup []) want d op S K=K { S with tm:=upd S.tm d (.tup []) }:=rfl
def obc(o:Option (Nat×List V))(K:Nat×List V->Prop):Prop:=match o with
 |some r=>K r
 |none=>False
def qa_:AOp->Bool
 |.call _ _|.isn _ _|.callv _ _=>true
 |_=>false
theorem zz_(d:Dst)(op:AOp)(gu:Option (Nat×Bool))(S:St)(K:St->Prop)(h:qa_ op=false):WO P ⟨d,op,gu⟩ S K=ob (step S d op) K:=by
 cases op<;>first|(simp[qa_]at h;done)|(simp only[WO];cases step S d _<;>rfl)
@[simp] theorem WO_isn (d : Nat) (ne : Bool) (x : Opd) (gu : Option (Nat × Bool)) (S : St) (K : St → Prop) : WO P ⟨.t d, .isn ne x, gu⟩ S K = obc (cont S (z2_ S x)) fun r => (r.2 ≠ [] → K { S with tm := upd S.tm d (.s (.bool ne)) }) ∧ (r.2 = [] → K { S with tm := upd S.tm d (.s (.bool true)) } ∧ K { S with tm := upd S.tm d (.s (.bool false)) }) := by
  simp only[WO]
  cases cont S (z2_ S x) with
  |none=>rfl
  | some r =>
    simp only[obc]
    refine propext ⟨fun h=>⟨fun hr=>h ne (fun _=>rfl),fun hr=>⟨h true (fun q=>absurd hr q),h false (fun q=>absurd hr q)⟩⟩,fun h b hb=>?_⟩
    by_cases hr:r.2=[]
    .cases b
     .exact(h.2 hr).2
     .exact(h.2 hr).1
    .rw[hb hr];exact h.1 hr
@[simp] theorem WO_ex (d:Dst) (k:Ex) (x y:Opd) (gu:Option (Nat×Bool)) (S:St) (K:St->Prop):WO P ⟨d,.ex k x y,gu⟩ S K=ob (step S d (.ex k x y)) K:=zz_ d _ gu S K rfl
@[simp] theorem WO_mv (d:Dst) (x:Opd) (gu:Option (Nat×Bool)) (S:St) (K:St->Prop):WO P ⟨d,.mv x,gu⟩ S K=ob (step S d (.mv x)) K:=zz_ d _ gu S K rfl
@[simp] theorem WO_asg (d:Dst) (x:Opd) (gu:Option (Nat×Bool)) (S:St) (K:St->Prop):WO P ⟨d,.asg x,gu⟩ S K=ob (step S d (.asg x)) K:=zz_ d _ gu S K rfl
@[simp] theorem WO_pick (d:Dst) (c:Opd) (a:Opd) (b:Opd) (gu:Option (Nat×Bool)) (S:St) (K:St->Prop):WO P ⟨d,.pick c a b,gu⟩ S K=ob (step S d (.pick c a b)) K:=zz_ d _ gu S K rfl
@[simp] theorem WO_bin (d:Dst) (o:BinOp) (x:Opd) (y:Opd) (gu:Option (Nat×Bool)) (S:St) (K:St->Prop):WO P ⟨d,.bin o x y,gu⟩ S K=ob (step S d (.bin o x y)) K:=zz_ d _ gu S K rfl
@[simp] theorem WO_bib (d:Dst) (o:BinOp) (x:Opd) (y:Opd) (gu:Option (Nat×Bool)) (S:St) (K:St->Prop):WO P ⟨d,.bib o x y,gu⟩ S K=ob (step S d (.bib o x y)) K:=zz_ d _ gu S K rfl
@[simp] theorem WO_un (d:Dst) (o:UnOp) (x:Opd) (gu:Option (Nat×Bool)) (S:St) (K:St->Prop):WO P ⟨d,.un o x,gu⟩ S K=ob (step S d (.un o x)) K:=zz_ d _ gu S K rfl
@[simp] theorem WO_conv (d:Dst) (k:IntKind) (x:Opd) (gu:Option (Nat×Bool)) (S:St) (K:St->Prop):WO P ⟨d,.conv k x,gu⟩ S K=ob (step S d (.conv k x)) K:=zz_ d _ gu S K rfl
@[simp] theorem WO_b2s (d:Dst) (x:Opd) (gu:Option (Nat×Bool)) (S:St) (K:St->Prop):WO P ⟨d,.b2s x,gu⟩ S K=ob (step S d (.b2s x)) K:=zz_ d _ gu S K rfl
@[simp] theorem WO_cvb (d:Dst) (x:Opd) (gu:Option (Nat×Bool)) (S:St) (K:St->Prop):WO P ⟨d,.cvb x,gu⟩ S K=ob (step S d (.cvb x)) K:=zz_ d _ gu S K rfl
@[simp] theorem WO_mkf (d:Dst) (f:Nat) (x:Opd) (gu:Option (Nat×Bool)) (S:St) (K:St->Prop):WO P ⟨d,.mkf f x,gu⟩ S K=ob (step S d (.mkf f x)) K:=zz_ d _ gu S K rfl
@[simp] theorem WO_nilck (d:Dst) (x:Opd) (gu:Option (Nat×Bool)) (S:St) (K:St->Prop):WO P ⟨d,.nilck x,gu⟩ S K=ob (step S d (.nilck x)) K:=zz_ d _ gu S K rfl
@[simp] theorem WO_ext (d:Dst) (t:Nat) (i:Nat) (gu:Option (Nat×Bool)) (S:St) (K:St->Prop):WO P ⟨d,.ext t i,gu⟩ S K=ob (step S d (.ext t i)) K:=zz_ d _ gu S K rfl
@[simp] theorem WO_bld (d:Dst) (zs:List Value) (ps:List (Nat×Nat×Opd)) (gu:Option (Nat×Bool)) (S:St) (K:St->Prop):WO P ⟨d,.bld zs ps,gu⟩ S K=ob (step S d (.bld zs ps)) K:=zz_ d _ gu S K rfl
@[simp] theorem WO_bls (d:Dst) (e:Nat) (z:Nat) (zero:Value) (m:Nat) (ps:List (Nat×Opd)) (gu:Option (Nat×Bool)) (S:St) (K:St->Prop):WO P ⟨d,.bls e z zero m ps,gu⟩ S K=ob (step S d (.bls e z zero m ps)) K:=zz_ d _ gu S K rfl
@[simp] theorem WO_allo (d:Dst) (zs:List Value) (gu:Option (Nat×Bool)) (S:St) (K:St->Prop):WO P ⟨d,.allo zs,gu⟩ S K=ob (step S d (.allo zs)) K:=zz_ d _ gu S K rfl
@[simp] theorem WO_box (d:Dst) (m:Nat) (x:Opd) (gu:Option (Nat×Bool)) (S:St) (K:St->Prop):WO P ⟨d,.box m x,gu⟩ S K=ob (step S d (.box m x)) K:=zz_ d _ gu S K rfl
@[simp] theorem WO_ld (d:Dst) (m:Nat) (ag:Bool) (p:Opd) (gu:Option (Nat×Bool)) (S:St) (K:St->Prop):WO P ⟨d,.ld m ag p,gu⟩ S K=ob (step S d (.ld m ag p)) K:=zz_ d _ gu S K rfl
@[simp] theorem WO_st (d:Dst) (m:Nat) (p:Opd) (x:Opd) (gu:Option (Nat×Bool)) (S:St) (K:St->Prop):WO P ⟨d,.st m p x,gu⟩ S K=ob (step S d (.st m p x)) K:=zz_ d _ gu S K rfl
@[simp] theorem WO_fa (d:Dst) (off:Nat) (p:Opd) (gu:Option (Nat×Bool)) (S:St) (K:St->Prop):WO P ⟨d,.fa off p,gu⟩ S K=ob (step S d (.fa off p)) K:=zz_ d _ gu S K rfl
@[simp] theorem WO_ia (d:Dst) (z:Nat) (x:Opd) (i:Opd) (gu:Option (Nat×Bool)) (S:St) (K:St->Prop):WO P ⟨d,.ia z x i,gu⟩ S K=ob (step S d (.ia z x i)) K:=zz_ d _ gu S K rfl
@[simp] theorem WO_iaa (d:Dst) (z:Nat) (len:Nat) (x:Opd) (i:Opd) (gu:Option (Nat×Bool)) (S:St) (K:St->Prop):WO P ⟨d,.iaa z len x i,gu⟩ S K=ob (step S d (.iaa z len x i)) K:=zz_ d _ gu S K rfl
@[simp] theorem WO_sl (d:Dst) (e:Nat) (z:Nat) (x:Opd) (lo:Option Opd) (hi:Option Opd) (mx:Option Opd) (gu:Option (Nat×Bool)) (S:St) (K:St->Prop):WO P ⟨d,.sl e z x lo hi mx,gu⟩ S K=ob (step S d (.sl e z x lo hi mx)) K:=zz_ d _ gu S K rfl
@[simp] theorem WO_ssl (d:Dst) (x:Opd) (lo:Option Opd) (hi:Option Opd) (gu:Option (Nat×Bool)) (S:St) (K:St->Prop):WO P ⟨d,.ssl x lo hi,gu⟩ S K=ob (step S d (.ssl x lo hi)) K:=zz_ d _ gu S K rfl
@[simp] theorem WO_app (d:Dst) (e:Nat) (z:Nat) (b:Nat) (x:Opd) (y:Opd) (gu:Option (Nat×Bool)) (S:St) (K:St->Prop):WO P ⟨d,.app e z b x y,gu⟩ S K=ob (step S d (.app e z b x y)) K:=zz_ d _ gu S K rfl
@[simp] theorem WO_len (d:Dst) (x:Opd) (gu:Option (Nat×Bool)) (S:St) (K:St->Prop):WO P ⟨d,.len x,gu⟩ S K=ob (step S d (.len x)) K:=zz_ d _ gu S K rfl
@[simp] theorem WO_slen (d:Dst) (x:Opd) (gu:Option (Nat×Bool)) (S:St) (K:St->Prop):WO P ⟨d,.slen x,gu⟩ S K=ob (step S d (.slen x)) K:=zz_ d _ gu S K rfl
@[simp] theorem WO_mk (d:Dst) (e:Nat) (z:Nat) (b:Nat) (zero:Value) (m:Opd) (c:Opd) (gu:Option (Nat×Bool)) (S:St) (K:St->Prop):WO P ⟨d,.mk e z b zero m c,gu⟩ S K=ob (step S d (.mk e z b zero m c)) K:=zz_ d _ gu S K rfl
@[simp] theorem WO_mnx (d:Dst) (mx:Bool) (x:Opd) (y:Opd) (gu:Option (Nat×Bool)) (S:St) (K:St->Prop):WO P ⟨d,.mnx mx x y,gu⟩ S K=ob (step S d (.mnx mx x y)) K:=zz_ d _ gu S K rfl
def WK(P:Program)(S:St)(d f:Nat)(args:List Opd)(K:St->Prop):Prop:=mU_ P S (.t d) f args K
@[simp] theorem WO_call (d f:Nat) (args:List Opd) (gu:Option (Nat×Bool)) (S:St) (K:St->Prop):WO P ⟨.t d,.call f args,gu⟩ S K=WK P S d f args K:=rfl
def WKV(P:Program)(S:St)(d t:Nat)(args:List Opd)(K:St->Prop):Prop:=lC_ P S (.t d) t args K
@[simp] theorem WO_callv (d t:Nat) (args:List Opd) (gu:Option (Nat×Bool)) (S:St) (K:St->Prop):WO P ⟨.t d,.callv t args,gu⟩ S K=WKV P S d t args K:=rfl
def WC(P:Program)(S:St)(d f:Nat)(K:St->Prop)(r:List V×(Nat->V)):Prop:=(r.1.map toImm).all immA=true/\∃q,PC P f (r.1.map toImm) q/\∀y,q y->K { S with tm:=upd r.2 d y }
def WA(P:Program)(S:St)(d f:Nat)(K:St->Prop)(r:List V×(Nat->V)):Prop:=∃mask sel args bs Q,handOk S.bx r.1 mask sel args bs/\AC P f args bs Q/\∀y bs',Q y bs'->xS_ sel bs'=true/\K (aftS { S with tm:=r.2 } d y sel bs')
theorem z5_{S:St}{d f:Nat}{args:List Opd}{K:St->Prop}(h:ob (takes S S.tm args) (WC P S d f K)):WK P S d f args K:=by
 cases hk:takes S S.tm args with
 |none=>rw[hk]at h;exact h.elim
 |some r=>rw[hk]at h;exact⟨d,rfl,.inl ⟨r.1,r.2,hk,h⟩⟩
theorem zs_{S:St}{d f:Nat}{args:List Opd}{K:St->Prop}(h:ob (takes S S.tm args) (WA P S d f K)):WK P S d f args K:=by
 cases hk:takes S S.tm args with
 |none=>rw[hk]at h;exact h.elim
 |some r=>rw[hk]at h;exact⟨d,rfl,.inr (.inr (.inl ⟨r.1,r.2,hk,h⟩))⟩
theorem pr_{S:St}{d f:Nat}{args:List Opd}{K:St->Prop}{q:V->Prop}(h:MC P S f args q)(hk:∀r,q r->K { S with tm:=upd S.tm d r }):WK P S d f args K:=⟨d,rfl,.inr (.inr (.inr ⟨q,h,hk⟩))⟩
theorem zu_{S:St}{d f:Nat}{K:St->Prop}{ys:List V}{tm1:Nat->V}{args:List V}{q:V->Prop}(hc:PC P f args q)(ha:ys.map toImm=args)(hi:args.all immA=true)(hk:∀y,q y->K { S with tm:=upd tm1 d y }):WC P S d f K (ys,tm1):=by
 subst ha
 exact⟨hi,q,hc,hk⟩
theorem ya_{S:St}{d f:Nat}{K:St->Prop}{ys:List V}{tm1:Nat->V}{mask:List Bool}{sel:List Nat}{args:List V}{bs:List (List V)}{Q:V->List (List V)->Prop}(hc:AC P f args bs Q)(ho:handOk S.bx ys mask sel args bs)
 (hk:∀y bs',Q y bs'->xS_ sel bs'=true/\K (aftS { S with tm:=tm1 } d y sel bs')):WA P S d f K (ys,tm1):=⟨mask,sel,args,bs,Q,ho,hc,hk⟩
theorem nC_(A:Ann)(k:Nat)(o:AOper)(r:List AOper)(K:St->Prop)(S:St):WDR P A K k (o::r) S=(dynOk A k o S=true/\WGD P (A.acs.contains k) o S (wdk P A (k+1) r K)):=by
 simp only[WDR,WGD,DGd,wdk,eq_iff_iff]
 constructor
 .rintro⟨S',⟨h1,h2⟩,h3⟩;exact⟨h2,S',h1,h3⟩
 .rintro⟨h2,S',h1,h3⟩;exact⟨S',⟨h1,h2⟩,h3⟩
@[simp] theorem WDR_nil (A:Ann) (k:Nat) (K:St->Prop) (S:St):WDR P A K k [] S=K S:=rfl
@[simp] theorem WDR_cons (A:Ann) (k:Nat) (o:AOper) (r:List AOper) (K:St->Prop) (S:St):WDR P A K k (o::r) S=(dynOk A k o S=true/\WGD P (A.acs.contains k) o S (wdk P A (k+1) r K)):=nC_ A k o r K S
theorem zm_(ac:Bool)(d:Dst)(op:AOp)(S:St)(K:St->Prop)(h:qa_ op=false):WGD P ac ⟨d,op,none⟩ S K=ob (step S d op) K:=by
 unfold WGD DG DO
 cases op<;>first
  |(simp[qa_]at h;done)
  | (simp only
     cases hs:step S d _ with
     |none=>simp
     |some S'=>simp)
def gdd(P:Program)(ac:Bool)(x:V)(want:Bool)(d:Nat)(op:AOp)(S:St)(K:St->Prop):Prop:=match gB x want with
 |some true=>WGD P ac ⟨.t d,op,none⟩ S K
 |some false=>K { S with tm:=upd S.tm d (.tup []) }
 |none=>False
@[simp] theorem WGD_some (ac : Bool) (d : Nat) (op : AOp) (t : Nat) (want : Bool) (S : St) (K : St → Prop) : WGD P ac ⟨.t d, op, some (t, want)⟩ S K = gdd P ac (S.tm t) want d op S K := by
  unfold WGD DG gdd
  simp only
  cases hx:gB (S.tm t) want with
  |none=>simp
  | some go =>
    cases go
    .simp only[yya_,exists_eq_left',yyi_,if_false,wO_]
    .simp only[yya_,exists_eq_left',if_true]
     rfl
@[simp] theorem gdd_tt (ac:Bool) (d:Nat) (op:AOp) (S:St) (K:St->Prop):gdd P ac (.s (.bool true)) true d op S K=WGD P ac ⟨.t d,op,none⟩ S K:=rfl
@[simp] theorem gdd_ff (ac:Bool) (d:Nat) (op:AOp) (S:St) (K:St->Prop):gdd P ac (.s (.bool false)) false d op S K=WGD P ac ⟨.t d,op,none⟩ S K:=rfl
@[simp] theorem gdd_tf (ac:Bool) (d:Nat) (op:AOp) (S:St) (K:St->Prop):gdd P ac (.s (.bool true)) false d op S K=K { S with tm:=upd S.tm d (.tup []) }:=rfl
@[simp] theorem gdd_ft (ac:Bool) (d:Nat) (op:AOp) (S:St) (K:St->Prop):gdd P ac (.s (.bool false)) true d op S K=K { S with tm:=upd S.tm d (.tup []) }:=rfl
@[simp] theorem gdd_no (ac:Bool) (want:Bool) (d:Nat) (op:AOp) (S:St) (K:St->Prop):gdd P ac (.tup []) want d op S K=K { S with tm:=upd S.tm d (.tup []) }:=rfl
@[simp] theorem WGD_mv (ac:Bool) (d:Dst) (x:Opd) (S:St) (K:St->Prop):WGD P ac ⟨d,.mv x,none⟩ S K=ob (step S d (.mv x)) K:=zm_ ac d _ S K rfl
@[simp] theorem WGD_asg (ac:Bool) (d:Dst) (x:Opd) (S:St) (K:St->Prop):WGD P ac ⟨d,.asg x,none⟩ S K=ob (step S d (.asg x)) K:=zm_ ac d _ S K rfl
@[simp] theorem WGD_pick (ac:Bool) (d:Dst) (c a b:Opd) (S:St) (K:St->Prop):WGD P ac ⟨d,.pick c a b,none⟩ S K=ob (step S d (.pick c a b)) K:=zm_ ac d _ S K rfl
@[simp] theorem WGD_bin (ac:Bool) (d:Dst) (o:BinOp) (x y:Opd) (S:St) (K:St->Prop):WGD P ac ⟨d,.bin o x y,none⟩ S K=ob (step S d (.bin o x y)) K:=zm_ ac d _ S K rfl
@[simp] theorem WGD_bib (ac:Bool) (d:Dst) (o:BinOp) (x y:Opd) (S:St) (K:St->Prop):WGD P ac ⟨d,.bib o x y,none⟩ S K=ob (step S d (.bib o x y)) K:=zm_ ac d _ S K rfl
@[simp] theorem WGD_un (ac:Bool) (d:Dst) (o:UnOp) (x:Opd) (S:St) (K:St->Prop):WGD P ac ⟨d,.un o x,none⟩ S K=ob (step S d (.un o x)) K:=zm_ ac d _ S K rfl
@[simp] theorem WGD_conv (ac:Bool) (d:Dst) (k:IntKind) (x:Opd) (S:St) (K:St->Prop):WGD P ac ⟨d,.conv k x,none⟩ S K=ob (step S d (.conv k x)) K:=zm_ ac d _ S K rfl
@[simp] theorem WGD_b2s (ac:Bool) (d:Dst) (x:Opd) (S:St) (K:St->Prop):WGD P ac ⟨d,.b2s x,none⟩ S K=ob (step S d (.b2s x)) K:=zm_ ac d _ S K rfl
@[simp] theorem WGD_ex (ac:Bool) (d:Dst) (k:Ex) (x y:Opd) (S:St) (K:St->Prop):WGD P ac ⟨d,.ex k x y,none⟩ S K=ob (step S d (.ex k x y)) K:=zm_ ac d _ S K rfl
@[simp] theorem WGD_cvb (ac:Bool) (d:Dst) (x:Opd) (S:St) (K:St->Prop):WGD P ac ⟨d,.cvb x,none⟩ S K=ob (step S d (.cvb x)) K:=zm_ ac d _ S K rfl
@[simp] theorem WGD_mkf (ac:Bool) (d:Dst) (f:Nat) (x:Opd) (S:St) (K:St->Prop):WGD P ac ⟨d,.mkf f x,none⟩ S K=ob (step S d (.mkf f x)) K:=zm_ ac d _ S K rfl
@[simp] theorem WGD_nilck (ac:Bool) (d:Dst) (x:Opd) (S:St) (K:St->Prop):WGD P ac ⟨d,.nilck x,none⟩ S K=ob (step S d (.nilck x)) K:=zm_ ac d _ S K rfl
@[simp] theorem WGD_ext (ac:Bool) (d:Dst) (t i:Nat) (S:St) (K:St->Prop):WGD P ac ⟨d,.ext t i,none⟩ S K=ob (step S d (.ext t i)) K:=zm_ ac d _ S K rfl
@[simp] theorem WGD_bld (ac:Bool) (d:Dst) (zs:List Value) (ps:List (Nat×Nat×Opd)) (S:St) (K:St->Prop):WGD P ac ⟨d,.bld zs ps,none⟩ S K=ob (step S d (.bld zs ps)) K:=zm_ ac d _ S K rfl
@[simp] theorem WGD_bls (ac:Bool) (d:Dst) (e z:Nat) (zero:Value) (m:Nat) (ps:List (Nat×Opd)) (S:St) (K:St->Prop):WGD P ac ⟨d,.bls e z zero m ps,none⟩ S K=ob (step S d (.bls e z zero m ps)) K:=zm_ ac d _ S K rfl
@[simp] theorem WGD_allo (ac:Bool) (d:Dst) (zs:List Value) (S:St) (K:St->Prop):WGD P ac ⟨d,.allo zs,none⟩ S K=ob (step S d (.allo zs)) K:=zm_ ac d _ S K rfl
@[simp] theorem WGD_box (ac:Bool) (d:Dst) (m:Nat) (x:Opd) (S:St) (K:St->Prop):WGD P ac ⟨d,.box m x,none⟩ S K=ob (step S d (.box m x)) K:=zm_ ac d _ S K rfl
@[simp] theorem WGD_ld (ac:Bool) (d:Dst) (m:Nat) (ag:Bool) (p:Opd) (S:St) (K:St->Prop):WGD P ac ⟨d,.ld m ag p,none⟩ S K=ob (step S d (.ld m ag p)) K:=zm_ ac d _ S K rfl
@[simp] theorem WGD_st (ac:Bool) (d:Dst) (m:Nat) (p x:Opd) (S:St) (K:St->Prop):WGD P ac ⟨d,.st m p x,none⟩ S K=ob (step S d (.st m p x)) K:=zm_ ac d _ S K rfl
@[simp] theorem WGD_fa (ac:Bool) (d:Dst) (off:Nat) (p:Opd) (S:St) (K:St->Prop):WGD P ac ⟨d,.fa off p,none⟩ S K=ob (step S d (.fa off p)) K:=zm_ ac d _ S K rfl
@[simp] theorem WGD_ia (ac:Bool) (d:Dst) (z:Nat) (x i:Opd) (S:St) (K:St->Prop):WGD P ac ⟨d,.ia z x i,none⟩ S K=ob (step S d (.ia z x i)) K:=zm_ ac d _ S K rfl
@[simp] theorem WGD_iaa (ac:Bool) (d:Dst) (z len:Nat) (x i:Opd) (S:St) (K:St->Prop):WGD P ac ⟨d,.iaa z len x i,none⟩ S K=ob (step S d (.iaa z len x i)) K:=zm_ ac d _ S K rfl
@[simp] theorem WGD_sl (ac:Bool) (d:Dst) (e z:Nat) (x:Opd) (lo hi mx:Option Opd) (S:St) (K:St->Prop):WGD P ac ⟨d,.sl e z x lo hi mx,none⟩ S K=ob (step S d (.sl e z x lo hi mx)) K:=zm_ ac d _ S K rfl
@[simp] theorem WGD_ssl (ac:Bool) (d:Dst) (x:Opd) (lo hi:Option Opd) (S:St) (K:St->Prop):WGD P ac ⟨d,.ssl x lo hi,none⟩ S K=ob (step S d (.ssl x lo hi)) K:=zm_ ac d _ S K rfl
@[simp] theorem WGD_app (ac:Bool) (d:Dst) (e z b:Nat) (x y:Opd) (S:St) (K:St->Prop):WGD P ac ⟨d,.app e z b x y,none⟩ S K=ob (step S d (.app e z b x y)) K:=zm_ ac d _ S K rfl
@[simp] theorem WGD_len (ac:Bool) (d:Dst) (x:Opd) (S:St) (K:St->Prop):WGD P ac ⟨d,.len x,none⟩ S K=ob (step S d (.len x)) K:=zm_ ac d _ S K rfl
@[simp] theorem WGD_slen (ac:Bool) (d:Dst) (x:Opd) (S:St) (K:St->Prop):WGD P ac ⟨d,.slen x,none⟩ S K=ob (step S d (.slen x)) K:=zm_ ac d _ S K rfl
@[simp] theorem WGD_mk (ac:Bool) (d:Dst) (e z b:Nat) (zero:Value) (m c:Opd) (S:St) (K:St->Prop):WGD P ac ⟨d,.mk e z b zero m c,none⟩ S K=ob (step S d (.mk e z b zero m c)) K:=zm_ ac d _ S K rfl
@[simp] theorem WGD_mnx (ac:Bool) (d:Dst) (mx:Bool) (x y:Opd) (S:St) (K:St->Prop):WGD P ac ⟨d,.mnx mx x y,none⟩ S K=ob (step S d (.mnx mx x y)) K:=zm_ ac d _ S K rfl
def WKD(P:Program)(ac:Bool)(S:St)(d f:Nat)(args:List Opd)(K:St->Prop):Prop:=WGD P ac ⟨.t d,.call f args,none⟩ S K
@[simp] theorem WGD_call (ac:Bool) (d f:Nat) (args:List Opd) (S:St) (K:St->Prop):WGD P ac ⟨.t d,.call f args,none⟩ S K=WKD P ac S d f args K:=rfl
def WCD(P:Program)(S:St)(d f:Nat)(K:St->Prop)(r:List V×(Nat->V)):Prop:=(r.1.map toImm).all immA=true/\∃R,PC P f (r.1.map toImm) (fun r=>r=R)/\K { S with tm:=upd r.2 d R }
def WAD(P:Program)(S:St)(d f:Nat)(K:St->Prop)(r:List V×(Nat->V)):Prop:=∃mask sel args bs R bs',handOk S.bx r.1 mask sel args bs/\AC P f args bs (fun r b=>r=R/\b=bs')/\(xS_ sel bs'=true/\pN_ r.1 sel=true)/\K (aftS { S with tm:=r.2 } d R sel bs')
theorem yK_{S:St}{d f:Nat}{args:List Opd}{K:St->Prop}(h:ob (takes S S.tm args) (WCD P S d f K)):WKD P false S d f args K:=by
 cases hk:takes S S.tm args with
 |none=>rw[hk]at h;exact h.elim
 | some r =>
   rw[hk]at h
   obtain⟨h1,R,h2,h3⟩:=h
   exact⟨_,⟨d,rfl,.inl ⟨r.1,r.2,hk,h1,R,h2,rfl⟩⟩,h3⟩
theorem rD_{S:St}{d f:Nat}{args:List Opd}{K:St->Prop}(h:ob (takes S S.tm args) (WAD P S d f K)):WKD P true S d f args K:=by
 cases hk:takes S S.tm args with
 |none=>rw[hk]at h;exact h.elim
 | some r =>
   rw[hk]at h
   obtain⟨mask,sel,args',bs,R,bs',h1,h2,h3,h4⟩:=h
   exact⟨_,⟨d,rfl,r.1,r.2,hk,mask,sel,args',bs,R,bs',h1,h2,h3,rfl⟩,h4⟩
theorem wj_{S:St}{d f:Nat}{K:St->Prop}{ys:List V}{tm1:Nat->V}{args:List V}{R:V}(hc:PC P f args (fun r=>r=R))(ha:ys.map toImm=args)(hi:args.all immA=true)(hk:K { S with tm:=upd tm1 d R }):WCD P S d f K (ys,tm1):=by
 subst ha
 exact⟨hi,R,hc,hk⟩
theorem l1_{S:St}{d f:Nat}{K:St->Prop}{ys:List V}{tm1:Nat->V}{mask:List Bool}{sel:List Nat}{args:List V}{bs:List (List V)}{R:V}{bs':List (List V)}(hc:AC P f args bs (fun r b=>r=R/\b=bs'))(ho:handOk S.bx ys mask sel args bs)(hb:xS_ sel bs'=true)
 (hk:K (aftS { S with tm:=tm1 } d R sel bs')) (hs:pN_ ys sel=true:=by rfl):WAD P S d f K (ys,tm1):=⟨mask,sel,args,bs,R,bs',ho,hc,⟨hb,hs⟩,hk⟩
end
attribute [simp] cps p2_ kD_ on_ lenT appR St.frzTo FULL FRZ ldC sepC vpOk ldV BIG reep xF_ yr_ n4_ immA St.lendN uH_ p0_ apOk tK_ sepO sepV ldOk tJ_ gB exV eqC eqCs oc_ obc ldA oM_ um_ wI_ cvbV zK_ yE_ dynOk zA_ opdS vh_ ze_ noVO y1_ borL wh_ bor bors isS tN_ sT_ aftS ren renA renL fwd zt_ xS_ yG_ step z6_ stV mvV mvD ldD iaV iaaV slV sslV zk_ tr_ appV mkV w3_ kN_ xN_ St.adopt St.lend St.freeze St.setAt St.at St.row takes yo_ wY_ give yh_ yT_ zJ_ spentL spent y5_ z2_ ofC cont binS binB unS yI_ yc_ seens y8_ xa_ cellsOf u6_ x9_ sets o9_ St.place St.places yJ_ oL_ ye_ immL toImm flat vd_ rvVs rvV rvAt tT_ resL w5_ dupF locK ptrA ptrK yU_ wkn tz_ pack AX.isEnd St0 immA y9_
@[simp] theorem locky_s (v:Value):locky (.s v)=false:=rfl
@[simp] theorem locky_list (z:Nat) (xs:List V):locky (.list z xs)=false:=rfl
@[simp] theorem locky_ownT (e z:Nat) (xs:List V):locky (.own true e z xs)=true:=rfl
@[simp] theorem locky_ownF (e z:Nat) (xs:List V):locky (.own false e z xs)=true:=rfl
@[simp] theorem locky_lent (d e0 e z:Nat) (xs:List V):locky (.lent d e0 e z xs)=true:=rfl
@[simp] theorem locky_agg (cs:List V):locky (.agg cs)=false:=rfl
@[simp] theorem locky_tup (cs:List V):locky (.tup cs)=false:=rfl
@[simp] theorem locky_ptr (b o:Nat):locky (.ptr b o)=false:=rfl
@[simp] theorem locky_ip (cs:List V):locky (.ip cs)=false:=rfl
@[simp] theorem locky_view (l:Loc) (e:Nat):locky (.view l e)=false:=rfl
@[simp] theorem locky_sview (l:Loc) (e lo m:Nat):locky (.sview l e lo m)=false:=rfl
@[simp] theorem locky_vp (l:Loc) (e i q:Nat):locky (.vp l e i q)=false:=rfl
@[simp] theorem locky_no  : locky (.no )=false:=rfl
@[simp] theorem locky_gone  : locky (.gone )=true:=rfl
@[simp] theorem storable_s (v:Value):z9_ (.s v)=true:=rfl
@[simp] theorem storable_list (z:Nat) (xs:List V):z9_ (.list z xs)=true:=rfl
@[simp] theorem storable_ownT (e z:Nat) (xs:List V):z9_ (.own true e z xs)=true:=rfl
@[simp] theorem storable_ownF (e z:Nat) (xs:List V):z9_ (.own false e z xs)=decide (e=FULL):=rfl
@[simp] theorem storable_lent (d e0 e z:Nat) (xs:List V):z9_ (.lent d e0 e z xs)=false:=rfl
@[simp] theorem storable_agg (cs:List V):z9_ (.agg cs)=false:=rfl
@[simp] theorem storable_tup (cs:List V):z9_ (.tup cs)=false:=rfl
@[simp] theorem storable_ptr (b o:Nat):z9_ (.ptr b o)=true:=rfl
@[simp] theorem storable_ip (cs:List V):z9_ (.ip cs)=false:=rfl
@[simp] theorem storable_view (l:Loc) (e:Nat):z9_ (.view l e)=false:=rfl
@[simp] theorem storable_sview (l:Loc) (e lo m:Nat):z9_ (.sview l e lo m)=false:=rfl
@[simp] theorem storable_vp (l:Loc) (e i q:Nat):z9_ (.vp l e i q)=false:=rfl
@[simp] theorem storable_no  : z9_ (.no )=false:=rfl
@[simp] theorem storable_gone  : z9_ (.gone )=false:=rfl
@[simp] theorem known_s (v:Value):y3_ (.s v)=true:=rfl
@[simp] theorem known_list (z:Nat) (xs:List V):y3_ (.list z xs)=true:=rfl
@[simp] theorem known_ownT (e z:Nat) (xs:List V):y3_ (.own true e z xs)=true:=rfl
@[simp] theorem known_ownF (e z:Nat) (xs:List V):y3_ (.own false e z xs)=true:=rfl
@[simp] theorem known_lent (d e0 e z:Nat) (xs:List V):y3_ (.lent d e0 e z xs)=true:=rfl
@[simp] theorem known_agg (cs:List V):y3_ (.agg cs)=true:=rfl
@[simp] theorem known_tup (cs:List V):y3_ (.tup cs)=true:=rfl
@[simp] theorem known_ptr (b o:Nat):y3_ (.ptr b o)=true:=rfl
@[simp] theorem known_ip (cs:List V):y3_ (.ip cs)=true:=rfl
@[simp] theorem known_view (l:Loc) (e:Nat):y3_ (.view l e)=true:=rfl
@[simp] theorem known_sview (l:Loc) (e lo m:Nat):y3_ (.sview l e lo m)=true:=rfl
@[simp] theorem known_vp (l:Loc) (e i q:Nat):y3_ (.vp l e i q)=true:=rfl
@[simp] theorem known_no  : y3_ (.no )=false:=rfl
@[simp] theorem known_gone  : y3_ (.gone )=false:=rfl
@[simp] theorem immC_s (v:Value):immC (.s v)=true:=rfl
@[simp] theorem immC_list (z:Nat) (xs:List V):immC (.list z xs)=true:=rfl
@[simp] theorem immC_ownT (e z:Nat) (xs:List V):immC (.own true e z xs)=false:=rfl
@[simp] theorem immC_ownF (e z:Nat) (xs:List V):immC (.own false e z xs)=false:=rfl
@[simp] theorem immC_lent (d e0 e z:Nat) (xs:List V):immC (.lent d e0 e z xs)=false:=rfl
@[simp] theorem immC_agg (cs:List V):immC (.agg cs)=false:=rfl
@[simp] theorem immC_tup (cs:List V):immC (.tup cs)=false:=rfl
@[simp] theorem immC_ptr (b o:Nat):immC (.ptr b o)=false:=rfl
@[simp] theorem immC_ip (cs:List V):immC (.ip cs)=false:=rfl
@[simp] theorem immC_view (l:Loc) (e:Nat):immC (.view l e)=false:=rfl
@[simp] theorem immC_sview (l:Loc) (e lo m:Nat):immC (.sview l e lo m)=false:=rfl
@[simp] theorem immC_vp (l:Loc) (e i q:Nat):immC (.vp l e i q)=false:=rfl
@[simp] theorem immC_no  : immC (.no )=false:=rfl
@[simp] theorem immC_gone  : immC (.gone )=false:=rfl
@[simp] theorem cellK_s (n:Nat) (v:Value):zT_ n (.s v)=true:=rfl
@[simp] theorem cellK_list (n:Nat) (z:Nat) (xs:List V):zT_ n (.list z xs)=true:=rfl
@[simp] theorem cellK_ownT (n:Nat) (e z:Nat) (xs:List V):zT_ n (.own true e z xs)=true:=rfl
@[simp] theorem cellK_ownF (n:Nat) (e z:Nat) (xs:List V):zT_ n (.own false e z xs)=true:=rfl
@[simp] theorem cellK_lent (n:Nat) (d e0 e z:Nat) (xs:List V):zT_ n (.lent d e0 e z xs)=false:=rfl
@[simp] theorem cellK_agg (n:Nat) (cs:List V):zT_ n (.agg cs)=false:=rfl
@[simp] theorem cellK_tup (n:Nat) (cs:List V):zT_ n (.tup cs)=false:=rfl
@[simp] theorem cellK_ptr (n:Nat) (b o:Nat):zT_ n (.ptr b o)=decide (b<n):=rfl
@[simp] theorem cellK_ip (n:Nat) (cs:List V):zT_ n (.ip cs)=true:=rfl
@[simp] theorem cellK_view (n:Nat) (l:Loc) (e:Nat):zT_ n (.view l e)=true:=rfl
@[simp] theorem cellK_sview (n:Nat) (l:Loc) (e lo m:Nat):zT_ n (.sview l e lo m)=true:=rfl
@[simp] theorem cellK_vp (n:Nat) (l:Loc) (e i q:Nat):zT_ n (.vp l e i q)=true:=rfl
@[simp] theorem cellK_no (n:Nat)  : zT_ n (.no )=true:=rfl
@[simp] theorem cellK_gone (n:Nat)  : zT_ n (.gone )=true:=rfl
@[simp] theorem cellV_s (n:Nat) (v:Value):yY_ n (.s v)=true:=rfl
@[simp] theorem cellV_list (n:Nat) (z:Nat) (xs:List V):yY_ n (.list z xs)=true:=rfl
@[simp] theorem cellV_ownT (n:Nat) (e z:Nat) (xs:List V):yY_ n (.own true e z xs)=true:=rfl
@[simp] theorem cellV_ownF (n:Nat) (e z:Nat) (xs:List V):yY_ n (.own false e z xs)=true:=rfl
@[simp] theorem cellV_lent (n:Nat) (d e0 e z:Nat) (xs:List V):yY_ n (.lent d e0 e z xs)=false:=rfl
@[simp] theorem cellV_agg (n:Nat) (cs:List V):yY_ n (.agg cs)=cs.all immC:=rfl
@[simp] theorem cellV_tup (n:Nat) (cs:List V):yY_ n (.tup cs)=false:=rfl
@[simp] theorem cellV_ptr (n:Nat) (b o:Nat):yY_ n (.ptr b o)=decide (b<n):=rfl
@[simp] theorem cellV_ip (n:Nat) (cs:List V):yY_ n (.ip cs)=true:=rfl
@[simp] theorem cellV_view (n:Nat) (l:Loc) (e:Nat):yY_ n (.view l e)=true:=rfl
@[simp] theorem cellV_sview (n:Nat) (l:Loc) (e lo m:Nat):yY_ n (.sview l e lo m)=true:=rfl
@[simp] theorem cellV_vp (n:Nat) (l:Loc) (e i q:Nat):yY_ n (.vp l e i q)=true:=rfl
@[simp] theorem cellV_no (n:Nat)  : yY_ n (.no )=true:=rfl
@[simp] theorem cellV_gone (n:Nat)  : yY_ n (.gone )=true:=rfl
@[simp] theorem simpleV_s (n:Nat) (v:Value):zQ_ n (.s v)=true:=rfl
@[simp] theorem simpleV_list (n:Nat) (z:Nat) (xs:List V):zQ_ n (.list z xs)=true:=rfl
@[simp] theorem simpleV_ownT (n:Nat) (e z:Nat) (xs:List V):zQ_ n (.own true e z xs)=false:=rfl
@[simp] theorem simpleV_ownF (n:Nat) (e z:Nat) (xs:List V):zQ_ n (.own false e z xs)=false:=rfl
@[simp] theorem simpleV_lent (n:Nat) (d e0 e z:Nat) (xs:List V):zQ_ n (.lent d e0 e z xs)=false:=rfl
@[simp] theorem simpleV_agg (n:Nat) (cs:List V):zQ_ n (.agg cs)=cs.all immC:=rfl
@[simp] theorem simpleV_tup (n:Nat) (cs:List V):zQ_ n (.tup cs)=false:=rfl
@[simp] theorem simpleV_ptr (n:Nat) (b o:Nat):zQ_ n (.ptr b o)=decide (b<n):=rfl
@[simp] theorem simpleV_ip (n:Nat) (cs:List V):zQ_ n (.ip cs)=false:=rfl
@[simp] theorem simpleV_view (n:Nat) (l:Loc) (e:Nat):zQ_ n (.view l e)=false:=rfl
@[simp] theorem simpleV_sview (n:Nat) (l:Loc) (e lo m:Nat):zQ_ n (.sview l e lo m)=false:=rfl
@[simp] theorem simpleV_vp (n:Nat) (l:Loc) (e i q:Nat):zQ_ n (.vp l e i q)=false:=rfl
@[simp] theorem simpleV_no (n:Nat)  : zQ_ n (.no )=false:=rfl
@[simp] theorem simpleV_gone (n:Nat)  : zQ_ n (.gone )=false:=rfl
@[simp] theorem tmL_nil (u:Nat):tmL [] u=.no:=rfl
@[simp] theorem tmL_cons (t:Nat) (x:V) (r:List (Nat×V)) (u:Nat):tmL ((t,x)::r) u=if u=t then x else tmL r u:=rfl
def lq(keep drop:List Nat)(nb:Nat)(Inv:Nat->St->Prop)(m:Nat)(Q:AX->St->Prop):AX->St->Prop:=fun e S=>match e with
 |.normal=>tz_ keep drop nb S=true/\∃m',m'<m/\Inv m' (wkn keep drop nb S)
 |e=>Q e S
@[simp] theorem lq_normal (keep drop:List Nat) (nb:Nat) (Inv:Nat->St->Prop) (m:Nat) (Q:AX->St->Prop) (S:St):lq keep drop nb Inv m Q .normal S=(tz_ keep drop nb S=true/\∃m',m'<m/\Inv m' (wkn keep drop nb S)):=rfl
@[simp] theorem lq_exit (keep drop:List Nat) (nb:Nat) (Inv:Nat->St->Prop) (m:Nat) (Q:AX->St->Prop) (S:St) (id:Nat):lq keep drop nb Inv m Q (.exit id) S=Q (.exit id) S:=rfl
@[simp] theorem lq_ret (keep drop:List Nat) (nb:Nat) (Inv:Nat->St->Prop) (m:Nat) (Q:AX->St->Prop) (S:St):lq keep drop nb Inv m Q .ret S=Q .ret S:=rfl
@[simp] theorem lq_goto (keep drop:List Nat) (nb:Nat) (Inv:Nat->St->Prop) (m:Nat) (Q:AX->St->Prop) (S:St) (l:Nat):lq keep drop nb Inv m Q (.goto l) S=Q (.goto l) S:=rfl
theorem zn_{P:Program}{F:Fr}{n:Nat}{c:ACode}{S:St}{Q:AX->St->Prop}(keep drop:List Nat)(nb:Nat)(hnb:n<=nb)(Inv:Nat->St->Prop)(m0:Nat)(h0:tz_ keep drop nb S=true/\Inv m0 (wkn keep drop nb S))
 (hr:∀m S,Inv m S->W P F n c S (lq keep drop nb Inv m Q)):W P F n (.loop c) S Q:=jq_ keep drop nb hnb Inv m0 h0 hr
def endP(rvs:List RV)(q:V->Prop)(x:AX)(S:St):Prop:=x.isEnd=true/\RetP rvs q S
def retQ(S:St)(q:V->Prop)(r:List V×List Loc):Prop:=w5_ 0 S r.1 r.2=true/\q (pack r.1)
theorem nz_(rvs:List RV)(q:V->Prop)(S:St):RetP rvs q S=ob (rvVs S rvs) (retQ S q):=by
 unfold RetP
 cases rvVs S rvs<;>rfl
@[simp] theorem endP_ret (rvs:List RV) (q:V->Prop) (S:St):endP rvs q .ret S=ob (rvVs S rvs) (retQ S q):=by simp[endP,nz_]
@[simp] theorem endP_normal (rvs:List RV) (q:V->Prop) (S:St):endP rvs q .normal S=ob (rvVs S rvs) (retQ S q):=by simp[endP,nz_]
@[simp] theorem retQ_at (S:St) (q:V->Prop) (ys:List V) (ls:List Loc):retQ S q (ys,ls)=(w5_ 0 S ys ls=true/\q (pack ys)):=rfl
def endA(n:Nat)(rvs:List RV)(q:V->List (List V)->Prop)(x:AX)(S:St):Prop:=x.isEnd=true/\vi_ n rvs q S
def retA(n:Nat)(S:St)(q:V->List (List V)->Prop)(r:List V×List Loc):Prop:=∃m,n<=m/\w5_ m S r.1 r.2=true/\q (pack r.1) (S.bx.take m)
theorem vx_(n:Nat)(rvs:List RV)(q:V->List (List V)->Prop)(S:St):vi_ n rvs q S=ob (rvVs S rvs) (retA n S q):=by
 unfold vi_
 cases rvVs S rvs<;>rfl
@[simp] theorem endA_ret (n:Nat) (rvs:List RV) (q:V->List (List V)->Prop) (S:St):endA n rvs q .ret S=ob (rvVs S rvs) (retA n S q):=by simp[endA,vx_]
@[simp] theorem endA_normal (n:Nat) (rvs:List RV) (q:V->List (List V)->Prop) (S:St):endA n rvs q .normal S=ob (rvVs S rvs) (retA n S q):=by simp[endA,vx_]
theorem zI_{n:Nat}{S:St}{q:V->List (List V)->Prop}{ys:List V}{ls:List Loc}(m:Nat)(h:n<=m/\w5_ m S ys ls=true/\q (pack ys) (S.bx.take m)):retA n S q (ys,ls):=⟨m,h⟩
theorem sJ_{P:Program}{F:Fr}{f np:Nat}{ac:ACode}{rvs:List RV}(h:zl_ P f F=some (np,zh_ ac,rvs)/\za_ ac=true)(hm:P.follows .mixedOrders=true){args:List V}(hl:args.length=np){bs:List (List V)}{Q:V->List (List V)->Prop}
 (hw:W P F bs.length ac (St0 F args bs) (endA bs.length rvs Q)):AC P f args bs Q:=iS_ h hm hl hw
theorem zH_{P:Program}{F:Fr}{f np:Nat}{ac:ACode}{rvs:List RV}(h:zl_ P f F=some (np,zh_ ac,rvs)/\za_ ac=true)(hm:P.follows .mixedOrders=true){args:List V}(hl:args.length=np){q:V->Prop}
 (hw:W P F 0 ac (St0 F args []) (endP rvs q)):PC P f args q:=hj_ h hm hl hw
end
section
def nilL(x y:V):Prop:=x=y\/(x=.s (.slice none 0 0)/\∃z,y=.list z [])
def kq_:List V->List V->Prop
 |[],[]=>True
 |x::r,y::s=>nilL x y/\kq_ r s
 |_,_=>False
def nilA(x y:V):Prop :=
 match x,y with
 |.agg cs,.agg ds=>kq_ cs ds
 |x,y=>nilL x y
def jY_:List V->List V->Prop
 |[],[]=>True
 |x::r,y::s=>nilA x y/\jY_ r s
 |_,_=>False
theorem q6_{g:Gh}{w:World}{x y:V}{v:Value}(h:nilL x y)(hr:Rep g w x v):Rep g w y v:=by
 rcases h with rfl|⟨rfl,z,rfl⟩
 .exact hr
 .cases hr
  exact .list (fun _=>undef) (zzl_ _) (zzn_ _) (fun _=>rfl) (by simp) (by simp[flat]) (fun j hj=>by simp[flat]at hj) (fun j u hu=>by simp[flat]at hu)
section
variable{P:Program}
end
@[simp] theorem rg1:List.range 1=[0]:=by decide
@[simp] theorem rg2:List.range 2=[0,1]:=by decide
@[simp] theorem rg3:List.range 3=[0,1,2]:=by decide
@[simp] theorem rg4:List.range 4=[0,1,2,3]:=by decide
@[simp] theorem rg5:List.range 5=[0,1,2,3,4]:=by decide
@[simp] theorem rg6:List.range 6=[0,1,2,3,4,5]:=by decide
@[simp] theorem rg7:List.range 7=[0,1,2,3,4,5,6]:=by decide
@[simp] theorem rg8:List.range 8=[0,1,2,3,4,5,6,7]:=by decide
@[simp] theorem rg9:List.range 9=[0,1,2,3,4,5,6,7,8]:=by decide
@[simp] theorem rg10:List.range 10=[0,1,2,3,4,5,6,7,8,9]:=by decide
@[simp] theorem rg11:List.range 11=[0,1,2,3,4,5,6,7,8,9,10]:=by decide
@[simp] theorem rg12:List.range 12=[0,1,2,3,4,5,6,7,8,9,10,11]:=by decide
@[simp] theorem rg13:List.range 13=[0,1,2,3,4,5,6,7,8,9,10,11,12]:=by decide
@[simp] theorem rg14:List.range 14=[0,1,2,3,4,5,6,7,8,9,10,11,12,13]:=by decide
@[simp] theorem rg15:List.range 15=[0,1,2,3,4,5,6,7,8,9,10,11,12,13,14]:=by decide
@[simp] theorem rg16:List.range 16=[0,1,2,3,4,5,6,7,8,9,10,11,12,13,14,15]:=by decide
attribute [simp] nilL kq_ nilA jY_
end
def F6:Fr:=⟨21,[0,1,4,5,6],[]⟩
def a6:ACode :=
 (.seq (.reg 0 [] [
 ⟨(.v 2),.asg (.c (.bool false)),none⟩] none ⟨[],[],[],[]⟩)
 (.seq (.seq (.reg 1 [] [
 ⟨(.t 7),.mv (.v 0),none⟩,
 ⟨(.t 8),.call 7 [(.t 7)],none⟩,
 ⟨(.t 9),.un .not (.t 8),none⟩] none ⟨[],[],[],[]⟩)
 (.cond (.t 9)
 (.seq (.reg 2 [] [
 ⟨(.t 10),.call 8 [],none⟩,
 ⟨(.v 2),.asg (.t 10),none⟩] none ⟨[],[],[],[]⟩)
 .ret)
 .skip))
 (.seq (.reg 3 [] [
 ⟨(.t 12),.mv (.v 0),none⟩,
 ⟨(.t 13),.mv (.v 1),none⟩,
 ⟨(.t 14),.call 9 [(.t 12),(.t 13)],none⟩,
 ⟨(.t 11),.mv (.t 14),none⟩,
 ⟨(.t 15),.ext 11 0,none⟩,
 ⟨(.t 16),.ext 11 1,none⟩,
 ⟨(.v 3),.asg (.t 15),none⟩,
 ⟨(.v 4),.asg (.t 16),none⟩] none ⟨[],[],[],[]⟩)
 (.seq (.reg 4 [] [
 ⟨(.t 17),.call 8 [],none⟩,
 ⟨(.t 18),.mv (.t 17),none⟩,
 ⟨(.t 19),.mv (.v 4),some (18,true)⟩,
 ⟨(.t 20),.pick (.t 18) (.t 19) (.c (.bool false)),none⟩,
 ⟨(.v 2),.asg (.t 20),none⟩] none ⟨[],[],[],[]⟩)
 .ret))))
theorem c6:zl_ Try.prog 6 F6=some (2,zh_ a6,[.v 2])/\za_ a6=true:=⟨by kernel_rfl,by kernel_rfl⟩
def F7:Fr:=⟨6,[0,2],[]⟩
def a7:ACode :=
 (.seq (.reg 0 [] [
 ⟨(.v 1),.asg (.c (.bool false)),none⟩] none ⟨[],[],[],[]⟩)
 (.seq (.reg 1 [] [
 ⟨(.t 3),.mv (.v 0),none⟩,
 ⟨(.t 4),.len (.t 3),none⟩,
 ⟨(.t 5),.bin .leq (.t 4) (.c (.int .i64 400)),none⟩,
 ⟨(.v 1),.asg (.t 5),none⟩] none ⟨[],[],[],[]⟩)
 .ret))
theorem c7:zl_ Try.prog 7 F7=some (1,zh_ a7,[.v 1])/\za_ a7=true:=⟨by kernel_rfl,by kernel_rfl⟩
def F8:Fr:=⟨107,[0,3,4,6,7,8,9],[]⟩
def a8:ACode :=
 (.seq (.reg 0 [] [
 ⟨(.v 0),.asg (.c (.bool false)),none⟩] none ⟨[],[],[],[]⟩)
 (.seq (.reg 1 [] [
 ⟨(.t 10),.bls 3 1 (.int .i64 0) 3 [(0,(.c (.int .i64 3))),(1,(.c (.int .i64 5))),(2,(.c (.int .i64 6)))],none⟩,
 ⟨(.t 11),.bld [(.int .i64 0),(.slice none 0 0)] [(0,1,(.c (.int .i64 3))),(1,1,(.t 10))],none⟩,
 ⟨(.t 1),.allo [(.int .i64 0),(.slice none 0 0)],none⟩,
 ⟨.none,.st 2 (.t 1) (.t 11),none⟩] none ⟨[],[],[],[]⟩)
 (.seq (.reg 2 [] [
 ⟨(.t 13),.call 25 [],none⟩,
 ⟨(.t 14),.ld 2 true (.t 1),none⟩,
 ⟨(.t 15),.call 15 [(.t 13),(.t 14),(.c (.int .i64 0)),(.c (.int .i64 3))],none⟩,
 ⟨(.t 12),.mv (.t 15),none⟩,
 ⟨(.t 16),.ext 12 0,none⟩,
 ⟨(.t 17),.ext 12 1,none⟩,
 ⟨(.t 18),.ext 12 2,none⟩,
 ⟨(.t 2),.allo [(.int .i64 0),(.int .i64 0),(.int .i64 0),(.int .i64 0),(.int .i64 0),(.int .i64 0),(.int .i64 0),(.bool false),(.slice none 0 0),(.slice none 0 0),(.bool false)],none⟩,
 ⟨.none,.st 11 (.t 2) (.t 16),none⟩,
 ⟨(.v 1),.asg (.t 17),none⟩,
 ⟨(.v 2),.asg (.t 18),none⟩] (some [[],[],[0,1,0],[2],[3],[3],[3],[],[7,4,2,0,1,2,3,4,7],[5,8,0,1,2,3,4,5,7,8],[6,9,0,1,2,3,4,5,6,7,8,9]]) ⟨[],[5,6],[],[]⟩)
 (.seq (.seq (.reg 3 [] [
 ⟨(.t 19),.mv (.v 2),none⟩,
 ⟨(.t 20),.bin .neq (.t 19) (.c (.int .i64 0)),none⟩,
 ⟨(.t 21),.mv (.t 20),none⟩,
 ⟨(.t 22),.mv (.v 1),some (21,false)⟩,
 ⟨(.t 23),.len (.t 22),some (21,false)⟩,
 ⟨(.t 24),.bin .neq (.t 23) (.c (.int .i64 2)),some (21,false)⟩,
 ⟨(.t 25),.pick (.t 21) (.c (.bool true)) (.t 24),none⟩,
 ⟨(.t 26),.mv (.t 25),none⟩,
 ⟨(.t 27),.mv (.v 1),some (26,false)⟩,
 ⟨(.t 28),.ia 4 (.t 27) (.c (.int .i64 1)),some (26,false)⟩,
 ⟨(.t 29),.fa 1 (.t 28),some (26,false)⟩,
 ⟨(.t 30),.ld 1 false (.t 29),some (26,false)⟩,
 ⟨(.t 31),.bin .neq (.t 30) (.c (.int .i64 1)),some (26,false)⟩,
 ⟨(.t 32),.pick (.t 26) (.c (.bool true)) (.t 31),none⟩,
 ⟨(.t 33),.mv (.t 32),none⟩,
 ⟨(.t 34),.mv (.v 1),some (33,false)⟩,
 ⟨(.t 35),.ia 4 (.t 34) (.c (.int .i64 1)),some (33,false)⟩,
 ⟨(.t 36),.fa 2 (.t 35),some (33,false)⟩,
 ⟨(.t 37),.ld 2 true (.t 36),some (33,false)⟩,
 ⟨(.t 38),.bld [(.int .i64 0),(.int .i64 0)] [(0,1,(.c (.int .i64 1)))],some (33,false)⟩,
 ⟨(.t 39),.ex (.eqA true [.int,.int]) (.t 37) (.t 38),some (33,false)⟩,
 ⟨(.t 40),.pick (.t 33) (.c (.bool true)) (.t 39),none⟩,
 ⟨(.t 41),.mv (.t 40),none⟩,
 ⟨(.t 42),.fa 1 (.t 2),some (41,false)⟩,
 ⟨(.t 43),.ld 1 false (.t 42),some (41,false)⟩,
 ⟨(.t 44),.bin .neq (.t 43) (.c (.int .i64 3)),some (41,false)⟩,
 ⟨(.t 45),.pick (.t 41) (.c (.bool true)) (.t 44),none⟩] none ⟨[],[],[],[]⟩)
 (.cond (.t 45)
 (.seq (.reg 4 [] [
 ⟨(.v 0),.asg (.c (.bool false)),none⟩] none ⟨[],[],[],[]⟩)
 .ret)
 .skip))
 (.seq (.reg 5 [] [
 ⟨(.t 47),.call 25 [],none⟩,
 ⟨(.t 48),.ld 2 true (.t 1),none⟩,
 ⟨(.t 49),.mv (.v 1),none⟩,
 ⟨(.t 50),.ia 4 (.t 49) (.c (.int .i64 1)),none⟩,
 ⟨(.t 51),.fa 2 (.t 50),none⟩,
 ⟨(.t 52),.ld 2 true (.t 51),none⟩,
 ⟨(.t 53),.bld [(.int .i64 0),(.int .i64 0),(.int .i64 0),(.int .i64 0)] [(0,1,(.c (.int .i64 1))),(2,2,(.t 52))],none⟩,
 ⟨(.t 54),.call 23 [(.t 47),(.t 48),(.c (.int .i64 1)),(.c (.int .i64 0)),(.t 53)],none⟩,
 ⟨(.t 46),.mv (.t 54),none⟩,
 ⟨(.t 55),.ext 46 0,none⟩,
 ⟨(.t 56),.ext 46 1,none⟩,
 ⟨(.t 57),.ext 46 2,none⟩,
 ⟨(.t 5),.allo [(.int .i64 0),(.int .i64 0),(.int .i64 0),(.int .i64 0),(.int .i64 0),(.int .i64 0),(.int .i64 0),(.bool false),(.slice none 0 0),(.slice none 0 0),(.bool false)],none⟩,
 ⟨.none,.st 11 (.t 5) (.t 55),none⟩,
 ⟨(.v 3),.asg (.t 56),none⟩,
 ⟨(.v 4),.asg (.t 57),none⟩] (some [[],[],[],[2],[3],[4],[5],[0,1,6,0],[7],[8],[8],[8],[],[12,9,7,0,1,2,3,4,5,6,7,8,9,12],[10,13,0,1,2,3,4,5,6,7,8,9,10,12,13],[11,14,0,1,2,3,4,5,6,7,8,9,10,11,12,13,14]]) ⟨[],[10,11],[],[]⟩)
 (.seq (.reg 6 [] [
 ⟨(.t 59),.ld 11 true (.t 5),none⟩,
 ⟨(.t 60),.ld 2 true (.t 1),none⟩,
 ⟨(.t 61),.bld [(.int .i64 0),(.int .i64 0)] [(0,1,(.c (.int .i64 1))),(1,1,(.c (.int .i64 2)))],none⟩,
 ⟨(.t 62),.bld [(.int .i64 0),(.int .i64 0),(.int .i64 0),(.int .i64 0)] [(0,1,(.c (.int .i64 1))),(2,2,(.t 61))],none⟩,
 ⟨(.t 63),.call 23 [(.t 59),(.t 60),(.c (.int .i64 1)),(.c (.int .i64 2)),(.t 62)],none⟩,
 ⟨(.t 58),.mv (.t 63),none⟩,
 ⟨(.t 64),.ext 58 0,none⟩,
 ⟨(.t 65),.ext 58 1,none⟩,
 ⟨(.t 66),.ext 58 2,none⟩,
 ⟨.none,.st 11 (.t 5) (.t 64),none⟩,
 ⟨(.v 5),.asg (.t 65),none⟩,
 ⟨(.v 6),.asg (.t 66),none⟩] none ⟨[],[],[],[]⟩)
 (.seq (.reg 7 [] [
 ⟨(.t 67),.mv (.v 4),none⟩,
 ⟨(.t 68),.bin .eql (.t 67) (.c (.int .i64 0)),none⟩,
 ⟨(.t 69),.mv (.t 68),none⟩,
 ⟨(.t 70),.mv (.v 6),some (69,true)⟩,
 ⟨(.t 71),.bin .eql (.t 70) (.c (.int .i64 0)),some (69,true)⟩,
 ⟨(.t 72),.pick (.t 69) (.t 71) (.c (.bool false)),none⟩,
 ⟨(.t 73),.mv (.t 72),none⟩,
 ⟨(.t 74),.mv (.v 3),some (73,true)⟩,
 ⟨(.t 75),.len (.t 74),some (73,true)⟩,
 ⟨(.t 76),.bin .eql (.t 75) (.c (.int .i64 1)),some (73,true)⟩,
 ⟨(.t 77),.pick (.t 73) (.t 76) (.c (.bool false)),none⟩,
 ⟨(.t 78),.mv (.t 77),none⟩,
 ⟨(.t 79),.mv (.v 3),some (78,true)⟩,
 ⟨(.t 80),.ia 4 (.t 79) (.c (.int .i64 0)),some (78,true)⟩,
 ⟨(.t 81),.ld 4 true (.t 80),some (78,true)⟩,
 ⟨(.t 82),.bld [(.int .i64 0),(.int .i64 0),(.int .i64 0),(.int .i64 0)] [(0,1,(.c (.int .i64 2)))],some (78,true)⟩,
 ⟨(.t 83),.ex (.eqA false [.int,.int,.int,.int]) (.t 81) (.t 82),some (78,true)⟩,
 ⟨(.t 84),.pick (.t 78) (.t 83) (.c (.bool false)),none⟩,
 ⟨(.t 85),.mv (.t 84),none⟩,
 ⟨(.t 86),.mv (.v 5),some (85,true)⟩,
 ⟨(.t 87),.len (.t 86),some (85,true)⟩,
 ⟨(.t 88),.bin .eql (.t 87) (.c (.int .i64 1)),some (85,true)⟩,
 ⟨(.t 89),.pick (.t 85) (.t 88) (.c (.bool false)),none⟩,
 ⟨(.t 90),.mv (.t 89),none⟩,
 ⟨(.t 91),.mv (.v 5),some (90,true)⟩,
 ⟨(.t 92),.ia 4 (.t 91) (.c (.int .i64 0)),some (90,true)⟩,
 ⟨(.t 93),.ld 4 true (.t 92),some (90,true)⟩,
 ⟨(.t 94),.bld [(.int .i64 0),(.int .i64 0),(.int .i64 0),(.int .i64 0)] [(0,1,(.c (.int .i64 3))),(1,1,(.c (.int .i64 2)))],some (90,true)⟩,
 ⟨(.t 95),.ex (.eqA false [.int,.int,.int,.int]) (.t 93) (.t 94),some (90,true)⟩,
 ⟨(.t 96),.pick (.t 90) (.t 95) (.c (.bool false)),none⟩,
 ⟨(.t 97),.mv (.t 96),none⟩,
 ⟨(.t 98),.ld 11 true (.t 2),some (97,true)⟩,
 ⟨(.t 99),.ld 2 true (.t 1),some (97,true)⟩,
 ⟨(.t 100),.call 19 [(.t 98),(.t 99),(.c (.int .i64 0))],some (97,true)⟩,
 ⟨(.t 101),.pick (.t 97) (.t 100) (.c (.bool false)),none⟩,
 ⟨(.t 102),.mv (.t 101),none⟩,
 ⟨(.t 103),.ld 11 true (.t 5),some (102,true)⟩,
 ⟨(.t 104),.ld 2 true (.t 1),some (102,true)⟩,
 ⟨(.t 105),.call 19 [(.t 103),(.t 104),(.c (.int .i64 1))],some (102,true)⟩,
 ⟨(.t 106),.pick (.t 102) (.t 105) (.c (.bool false)),none⟩,
 ⟨(.v 0),.asg (.t 106),none⟩] none ⟨[],[],[],[]⟩)
 .ret)))))))
theorem c8:zl_ Try.prog 8 F8=some (0,zh_ a8,[.v 0])/\za_ a8=true:=⟨by kernel_rfl,by kernel_rfl⟩
def F10:Fr:=⟨16,[0,1,4],[]⟩
def a10:ACode :=
 (.seq (.reg 0 [] [
 ⟨(.v 2),.asg (.c (.int .i64 0)),none⟩] none ⟨[],[],[],[]⟩)
 (.seq (.seq (.reg 1 [] [
 ⟨(.t 5),.mv (.v 1),none⟩,
 ⟨(.t 6),.bin .lss (.t 5) (.c (.int .i64 1)),none⟩] none ⟨[],[],[],[]⟩)
 (.cond (.t 6)
 (.seq (.reg 2 [] [
 ⟨(.v 2),.asg (.c (.int .i64 0)),none⟩] none ⟨[],[],[],[]⟩)
 .ret)
 .skip))
 (.seq (.reg 3 [] [
 ⟨(.t 7),.mv (.v 0),none⟩,
 ⟨(.t 8),.mv (.v 1),none⟩,
 ⟨(.t 9),.bin .rem (.t 7) (.t 8),none⟩,
 ⟨(.v 0),.asg (.t 9),none⟩] none ⟨[],[],[],[]⟩)
 (.seq (.seq (.reg 4 [] [
 ⟨(.t 10),.mv (.v 0),none⟩,
 ⟨(.t 11),.bin .lss (.t 10) (.c (.int .i64 0)),none⟩] none ⟨[],[],[],[]⟩)
 (.cond (.t 11)
 (.reg 5 [] [
 ⟨(.t 12),.mv (.v 0),none⟩,
 ⟨(.t 13),.mv (.v 1),none⟩,
 ⟨(.t 14),.bin .add (.t 12) (.t 13),none⟩,
 ⟨(.v 0),.asg (.t 14),none⟩] none ⟨[],[],[],[]⟩)
 .skip))
 (.seq (.reg 6 [] [
 ⟨(.t 15),.mv (.v 0),none⟩,
 ⟨(.v 2),.asg (.t 15),none⟩] none ⟨[],[],[],[]⟩)
 .ret)))))
theorem c10:zl_ Try.prog 10 F10=some (2,zh_ a10,[.v 2])/\za_ a10=true:=⟨by kernel_rfl,by kernel_rfl⟩
def F15:Fr:=⟨105,[0,1,2,3,9,10,11,13],[]⟩
def F19:Fr:=⟨35,[0,1,2,6],[]⟩
def a19:ACode :=
 (.seq (.reg 0 [] [
 ⟨(.t 3),.box 11 (.v 0),none⟩,
 ⟨(.t 4),.box 2 (.v 1),none⟩,
 ⟨(.v 3),.asg (.c (.bool false)),none⟩] none ⟨[],[],[],[]⟩)
 (.seq (.seq (.reg 1 [] [
 ⟨(.t 7),.ld 2 true (.t 4),none⟩,
 ⟨(.t 8),.call 40 [(.t 7)],none⟩,
 ⟨(.t 9),.un .not (.t 8),none⟩,
 ⟨(.t 10),.mv (.t 9),none⟩,
 ⟨(.t 11),.ld 2 true (.t 4),some (10,false)⟩,
 ⟨(.t 12),.mv (.v 2),some (10,false)⟩,
 ⟨(.t 13),.call 41 [(.t 11),(.t 12)],some (10,false)⟩,
 ⟨(.t 14),.un .not (.t 13),some (10,false)⟩,
 ⟨(.t 15),.pick (.t 10) (.c (.bool true)) (.t 14),none⟩,
 ⟨(.t 16),.mv (.t 15),none⟩,
 ⟨(.t 17),.fa 0 (.t 3),some (16,false)⟩,
 ⟨(.t 18),.ld 1 false (.t 17),some (16,false)⟩,
 ⟨(.t 19),.bin .lss (.t 18) (.c (.int .i64 0)),some (16,false)⟩,
 ⟨(.t 20),.pick (.t 16) (.c (.bool true)) (.t 19),none⟩,
 ⟨(.t 21),.mv (.t 20),none⟩,
 ⟨(.t 22),.fa 0 (.t 3),some (21,false)⟩,
 ⟨(.t 23),.ld 1 false (.t 22),some (21,false)⟩,
 ⟨(.t 24),.bin .gtr (.t 23) (.c (.int .i64 1073741824)),some (21,false)⟩,
 ⟨(.t 25),.pick (.t 21) (.c (.bool true)) (.t 24),none⟩] none ⟨[],[],[],[]⟩)
 (.cond (.t 25)
 (.seq (.reg 2 [] [
 ⟨(.v 3),.asg (.c (.bool false)),none⟩] none ⟨[],[],[],[]⟩)
 .ret)
 .skip))
 (.seq (.reg 3 [] [
 ⟨(.t 26),.ld 11 true (.t 3),none⟩,
 ⟨(.t 27),.ld 2 true (.t 4),none⟩,
 ⟨(.t 28),.mv (.v 2),none⟩,
 ⟨(.t 29),.call 42 [(.t 26),(.t 27),(.t 28)],none⟩,
 ⟨(.t 30),.mv (.t 29),none⟩,
 ⟨(.t 31),.ld 11 true (.t 3),some (30,true)⟩,
 ⟨(.t 32),.ld 2 true (.t 4),some (30,true)⟩,
 ⟨(.t 33),.call 43 [(.t 31),(.t 32)],some (30,true)⟩,
 ⟨(.t 34),.pick (.t 30) (.t 33) (.c (.bool false)),none⟩,
 ⟨(.v 3),.asg (.t 34),none⟩] none ⟨[],[],[],[]⟩)
 .ret)))
theorem c19:zl_ Try.prog 19 F19=some (3,zh_ a19,[.v 3])/\za_ a19=true:=⟨by kernel_rfl,by kernel_rfl⟩
def F21:Fr:=⟨74,[0,1,2,7,8,9,11],[]⟩
def F23:Fr:=⟨108,[0,1,2,3,4,11,12,13,14,78,84],[]⟩
def F25:Fr:=⟨2,[],[]⟩
def a25:ACode :=
 (.seq (.reg 0 [] [
 ⟨(.t 0),.allo [(.int .i64 0),(.int .i64 0),(.int .i64 0),(.int .i64 0),(.int .i64 0),(.int .i64 0),(.int .i64 0),(.bool false),(.slice none 0 0),(.slice none 0 0),(.bool false)],none⟩] none ⟨[],[],[],[]⟩)
 (.seq (.reg 1 [] [
 ⟨(.t 1),.bld [(.int .i64 0),(.int .i64 0),(.int .i64 0),(.int .i64 0),(.int .i64 0),(.int .i64 0),(.int .i64 0),(.bool false),(.slice none 0 0),(.slice none 0 0),(.bool false)] [],none⟩,
 ⟨.none,.st 11 (.t 0) (.t 1),none⟩] none ⟨[],[],[],[]⟩)
 .ret))
theorem c25:zl_ Try.prog 25 F25=some (0,zh_ a25,[.c 0 11 true])/\za_ a25=true:=⟨by kernel_rfl,by kernel_rfl⟩
def F27:Fr:=⟨41,[0,10,16,22,28,34],[]⟩
def a27:ACode :=
 (.seq (.reg 0 [] [
 ⟨(.t 2),.allo [(.int .i64 0),(.slice none 0 0)],none⟩] none ⟨[],[],[],[]⟩)
 (.seq (.reg 1 [] [
 ⟨(.t 3),.allo [(.int .i64 0),(.slice none 0 0)],none⟩] none ⟨[],[],[],[]⟩)
 (.seq (.seq (.reg 2 [] [
 ⟨(.t 4),.mv (.v 0),none⟩,
 ⟨(.t 5),.call 10 [(.t 4),(.c (.int .i64 6))],none⟩] none ⟨[],[],[],[]⟩)
 (.block 0
 (.seq (.reg 4 [] [
 ⟨(.t 11),.bin .eql (.t 5) (.c (.int .i64 0)),none⟩,
 ⟨(.v 1),.asg (.t 11),none⟩] none ⟨[],[],[],[]⟩)
 (.cond (.v 1)
 (.reg 5 [] [
 ⟨(.t 13),.call 57 [(.c (.int .i64 3))],none⟩,
 ⟨(.t 12),.mv (.t 13),none⟩,
 ⟨(.t 14),.ext 12 0,none⟩,
 ⟨(.t 15),.ext 12 1,none⟩,
 ⟨.none,.st 2 (.t 3) (.t 14),none⟩] none ⟨[],[],[],[]⟩)
 (.seq (.reg 6 [] [
 ⟨(.t 17),.bin .eql (.t 5) (.c (.int .i64 1)),none⟩,
 ⟨(.v 2),.asg (.t 17),none⟩] none ⟨[],[],[],[]⟩)
 (.cond (.v 2)
 (.reg 7 [] [
 ⟨(.t 19),.call 58 [(.c (.int .i64 2)),(.c (.int .i64 2))],none⟩,
 ⟨(.t 18),.mv (.t 19),none⟩,
 ⟨(.t 20),.ext 18 0,none⟩,
 ⟨(.t 21),.ext 18 1,none⟩,
 ⟨.none,.st 2 (.t 3) (.t 20),none⟩] none ⟨[],[],[],[]⟩)
 (.seq (.reg 8 [] [
 ⟨(.t 23),.bin .eql (.t 5) (.c (.int .i64 2)),none⟩,
 ⟨(.v 3),.asg (.t 23),none⟩] none ⟨[],[],[],[]⟩)
 (.cond (.v 3)
 (.reg 9 [] [
 ⟨(.t 25),.call 57 [(.c (.int .i64 5))],none⟩,
 ⟨(.t 24),.mv (.t 25),none⟩,
 ⟨(.t 26),.ext 24 0,none⟩,
 ⟨(.t 27),.ext 24 1,none⟩,
 ⟨.none,.st 2 (.t 3) (.t 26),none⟩] none ⟨[],[],[],[]⟩)
 (.seq (.reg 10 [] [
 ⟨(.t 29),.bin .eql (.t 5) (.c (.int .i64 3)),none⟩,
 ⟨(.v 4),.asg (.t 29),none⟩] none ⟨[],[],[],[]⟩)
 (.cond (.v 4)
 (.reg 11 [] [
 ⟨(.t 31),.call 59 [(.c (.int .i64 3))],none⟩,
 ⟨(.t 30),.mv (.t 31),none⟩,
 ⟨(.t 32),.ext 30 0,none⟩,
 ⟨(.t 33),.ext 30 1,none⟩,
 ⟨.none,.st 2 (.t 3) (.t 32),none⟩] none ⟨[],[],[],[]⟩)
 (.seq (.reg 12 [] [
 ⟨(.t 35),.bin .eql (.t 5) (.c (.int .i64 4)),none⟩,
 ⟨(.v 5),.asg (.t 35),none⟩] none ⟨[],[],[],[]⟩)
 (.cond (.v 5)
 (.reg 13 [] [
 ⟨(.t 37),.call 57 [(.c (.int .i64 2))],none⟩,
 ⟨(.t 36),.mv (.t 37),none⟩,
 ⟨(.t 38),.ext 36 0,none⟩,
 ⟨(.t 39),.ext 36 1,none⟩,
 ⟨.none,.st 2 (.t 3) (.t 38),none⟩] none ⟨[],[],[],[]⟩)
 (.reg 3 [] [
 ⟨(.t 7),.call 58 [(.c (.int .i64 2)),(.c (.int .i64 3))],none⟩,
 ⟨(.t 6),.mv (.t 7),none⟩,
 ⟨(.t 8),.ext 6 0,none⟩,
 ⟨(.t 9),.ext 6 1,none⟩,
 ⟨.none,.st 2 (.t 3) (.t 8),none⟩] none ⟨[],[],[],[]⟩)))))))))))))
 (.seq (.reg 14 [.lend (.cell 1 0) 40,.lend (.cell 1 1) 40] [
 ⟨(.t 40),.ld 2 true (.t 3),none⟩,
 ⟨.none,.st 2 (.t 2) (.t 40),none⟩] none ⟨[],[],[],[]⟩)
 .ret))))
theorem c27:zl_ Try.prog 27 F27=some (1,zh_ a27,[.c 2 2 true])/\za_ a27=true:=⟨by kernel_rfl,by kernel_rfl⟩
def F32:Fr:=⟨7,[0,3,4],[]⟩
def a32:ACode :=
 (.seq (.reg 0 [] [
 ⟨(.t 2),.allo [(.int .i64 0),(.int .i64 0),(.int .i64 0),(.int .i64 0),(.int .i64 0),(.int .i64 0),(.int .i64 0),(.bool false),(.slice none 0 0),(.slice none 0 0),(.bool false)],none⟩,
 ⟨(.v 1),.asg (.c (.slice none 0 0)),none⟩,
 ⟨(.v 2),.asg (.c (.int .i64 0)),none⟩] none ⟨[],[],[],[]⟩)
 (.seq (.reg 1 [] [
 ⟨(.t 5),.bld [(.int .i64 0),(.int .i64 0),(.int .i64 0),(.int .i64 0),(.int .i64 0),(.int .i64 0),(.int .i64 0),(.bool false),(.slice none 0 0),(.slice none 0 0),(.bool false)] [],none⟩,
 ⟨(.t 6),.mv (.v 0),none⟩,
 ⟨.none,.st 11 (.t 2) (.t 5),none⟩,
 ⟨(.v 1),.asg (.c (.slice none 0 0)),none⟩,
 ⟨(.v 2),.asg (.t 6),none⟩] none ⟨[],[],[],[]⟩)
 .ret))
theorem c32:zl_ Try.prog 32 F32=some (1,zh_ a32,[.c 2 11 true,.v 1,.v 2])/\za_ a32=true:=⟨by kernel_rfl,by kernel_rfl⟩
def F33:Fr:=⟨9,[0,1,4],[]⟩
def a33:ACode :=
 (.seq (.reg 0 [] [
 ⟨(.v 2),.asg (.c (.bool false)),none⟩] none ⟨[],[],[],[]⟩)
 (.seq (.reg 1 [] [
 ⟨(.t 5),.mv (.v 0),none⟩,
 ⟨(.t 6),.mv (.v 1),none⟩,
 ⟨(.t 7),.call 60 [(.t 5),(.t 6)],none⟩,
 ⟨(.t 8),.bin .geq (.t 7) (.c (.int .i64 0)),none⟩,
 ⟨(.v 2),.asg (.t 8),none⟩] none ⟨[],[],[],[]⟩)
 .ret))
theorem c33:zl_ Try.prog 33 F33=some (2,zh_ a33,[.v 2])/\za_ a33=true:=⟨by kernel_rfl,by kernel_rfl⟩
def F34:Fr:=⟨14,[0,2],[]⟩
def F35:Fr:=⟨19,[0,2,3,4],[]⟩
def a35:ACode :=
 (.seq (.reg 0 [] [
 ⟨(.v 1),.asg (.c (.slice none 0 0)),none⟩] none ⟨[],[],[],[]⟩)
 (.seq (.reg 1 [] [
 ⟨(.v 2),.asg (.c (.slice none 0 0)),none⟩] none ⟨[],[],[],[]⟩)
 (.seq (.seq (.reg 2 [.own (.var 2) 3 1] [
 ⟨(.t 5),.mv (.c (.int .i64 0)),none⟩] none ⟨[],[],[],[]⟩)
 (.block 0
 (.loop
 (.seq (.reg 3 [] [
 ⟨(.t 6),.bin .lss (.t 5) (.c (.int .i64 9)),none⟩] none ⟨[],[],[],[]⟩)
 (.seq (.cond (.t 6)
 .skip
 (.exit 0))
 (.seq (.block 1
 (.seq (.reg 4 [] [
 ⟨(.t 7),.mv (.t 5),none⟩,
 ⟨(.v 3),.asg (.t 7),none⟩] none ⟨[],[],[],[]⟩)
 (.seq (.reg 5 [] [
 ⟨(.t 8),.mv (.v 0),none⟩,
 ⟨(.t 9),.mv (.v 3),none⟩,
 ⟨(.t 10),.bin .shl (.c (.int .i64 1)) (.t 9),none⟩,
 ⟨(.t 11),.bin .and (.t 8) (.t 10),none⟩,
 ⟨(.t 12),.bin .neq (.t 11) (.c (.int .i64 0)),none⟩] none ⟨[],[],[],[]⟩)
 (.cond (.t 12)
 (.reg 6 [.lend (.var 2) 16] [
 ⟨(.t 13),.mv (.v 2),none⟩,
 ⟨(.t 14),.mv (.v 3),none⟩,
 ⟨(.t 15),.bls 3 1 (.int .i64 0) 1 [(0,(.t 14))],none⟩,
 ⟨(.t 16),.app 3 1 8 (.t 13) (.t 15),none⟩,
 ⟨(.v 2),.asg (.t 16),none⟩] none ⟨[],[],[],[]⟩)
 .skip))))
 (.reg 7 [] [
 ⟨(.t 17),.bin .add (.t 5) (.c (.int .i64 1)),none⟩,
 ⟨(.t 5),.mv (.t 17),none⟩] none ⟨[],[],[],[]⟩)))))))
 (.seq (.reg 8 [.lend (.var 2) 18] [
 ⟨(.t 18),.mv (.v 2),none⟩,
 ⟨(.v 1),.asg (.t 18),none⟩] none ⟨[],[],[],[]⟩)
 .ret))))
theorem c35:zl_ Try.prog 35 F35=some (1,zh_ a35,[.v 1])/\za_ a35=true:=⟨by kernel_rfl,by kernel_rfl⟩
def F40:Fr:=⟨71,[0,2,3,4,6],[]⟩
def a40:ACode :=
 (.seq (.reg 0 [] [
 ⟨(.t 1),.box 2 (.v 0),none⟩,
 ⟨(.v 1),.asg (.c (.bool false)),none⟩] none ⟨[],[],[],[]⟩)
 (.seq (.seq (.reg 1 [] [
 ⟨(.t 7),.fa 0 (.t 1),none⟩,
 ⟨(.t 8),.ld 1 false (.t 7),none⟩,
 ⟨(.t 9),.call 62 [(.t 8)],none⟩,
 ⟨(.t 10),.un .not (.t 9),none⟩,
 ⟨(.t 11),.mv (.t 10),none⟩,
 ⟨(.t 12),.fa 1 (.t 1),some (11,false)⟩,
 ⟨(.t 13),.ld 1 false (.t 12),some (11,false)⟩,
 ⟨(.t 14),.len (.t 13),some (11,false)⟩,
 ⟨(.t 15),.bin .lss (.t 14) (.c (.int .i64 1)),some (11,false)⟩,
 ⟨(.t 16),.pick (.t 11) (.c (.bool true)) (.t 15),none⟩,
 ⟨(.t 17),.mv (.t 16),none⟩,
 ⟨(.t 18),.fa 1 (.t 1),some (17,false)⟩,
 ⟨(.t 19),.ld 1 false (.t 18),some (17,false)⟩,
 ⟨(.t 20),.len (.t 19),some (17,false)⟩,
 ⟨(.t 21),.bin .gtr (.t 20) (.c (.int .i64 64)),some (17,false)⟩,
 ⟨(.t 22),.pick (.t 17) (.c (.bool true)) (.t 21),none⟩] none ⟨[],[],[],[]⟩)
 (.cond (.t 22)
 (.seq (.reg 2 [] [
 ⟨(.v 1),.asg (.c (.bool false)),none⟩] none ⟨[],[],[],[]⟩)
 .ret)
 .skip))
 (.seq (.seq (.reg 3 [] [
 ⟨(.t 23),.fa 1 (.t 1),none⟩,
 ⟨(.t 24),.ld 1 false (.t 23),none⟩,
 ⟨(.t 25),.len (.t 24),none⟩,
 ⟨(.t 26),.mv (.c (.int .i64 0)),none⟩] none ⟨[],[],[],[]⟩)
 (.block 0
 (.loop
 (.seq (.reg 4 [] [
 ⟨(.t 27),.bin .lss (.t 26) (.t 25),none⟩] none ⟨[],[],[],[]⟩)
 (.seq (.cond (.t 27)
 .skip
 (.exit 0))
 (.seq (.block 1
 (.seq (.reg 5 [] [
 ⟨(.t 28),.mv (.t 26),none⟩,
 ⟨(.t 29),.ia 1 (.t 24) (.t 26),none⟩,
 ⟨(.t 30),.ld 1 false (.t 29),none⟩,
 ⟨(.v 2),.asg (.t 28),none⟩,
 ⟨(.v 3),.asg (.t 30),none⟩] none ⟨[],[],[],[]⟩)
 (.seq (.reg 6 [] [
 ⟨(.t 31),.mv (.v 3),none⟩,
 ⟨(.t 32),.fa 0 (.t 1),none⟩,
 ⟨(.t 33),.ld 1 false (.t 32),none⟩,
 ⟨(.t 34),.call 63 [(.t 31),(.t 33)],none⟩,
 ⟨(.t 35),.un .not (.t 34),none⟩,
 ⟨(.t 36),.mv (.t 35),none⟩,
 ⟨(.t 37),.mv (.v 2),some (36,false)⟩,
 ⟨(.t 38),.bin .gtr (.t 37) (.c (.int .i64 0)),some (36,false)⟩,
 ⟨(.t 39),.mv (.t 38),some (36,false)⟩,
 ⟨(.t 40),.mv (.v 3),some (39,true)⟩,
 ⟨(.t 41),.fa 1 (.t 1),some (39,true)⟩,
 ⟨(.t 42),.ld 1 false (.t 41),some (39,true)⟩,
 ⟨(.t 43),.mv (.v 2),some (39,true)⟩,
 ⟨(.t 44),.bin .sub (.t 43) (.c (.int .i64 1)),some (39,true)⟩,
 ⟨(.t 45),.ia 1 (.t 42) (.t 44),some (39,true)⟩,
 ⟨(.t 46),.ld 1 false (.t 45),some (39,true)⟩,
 ⟨(.t 47),.bin .leq (.t 40) (.t 46),some (39,true)⟩,
 ⟨(.t 48),.pick (.t 39) (.t 47) (.c (.bool false)),some (36,false)⟩,
 ⟨(.t 49),.pick (.t 36) (.c (.bool true)) (.t 48),none⟩] none ⟨[],[],[],[]⟩)
 (.cond (.t 49)
 (.seq (.reg 7 [] [
 ⟨(.v 1),.asg (.c (.bool false)),none⟩] none ⟨[],[],[],[]⟩)
 .ret)
 .skip))))
 (.reg 8 [] [
 ⟨(.t 50),.bin .add (.t 26) (.c (.int .i64 1)),none⟩,
 ⟨(.t 26),.mv (.t 50),none⟩] none ⟨[],[],[],[]⟩)))))))
 (.seq (.seq (.reg 9 [] [
 ⟨(.t 51),.fa 1 (.t 1),none⟩,
 ⟨(.t 52),.ld 1 false (.t 51),none⟩,
 ⟨(.t 53),.len (.t 52),none⟩,
 ⟨(.t 54),.mv (.c (.int .i64 0)),none⟩] none ⟨[],[],[],[]⟩)
 (.block 2
 (.loop
 (.seq (.reg 10 [] [
 ⟨(.t 55),.bin .lss (.t 54) (.t 53),none⟩] none ⟨[],[],[],[]⟩)
 (.seq (.cond (.t 55)
 .skip
 (.exit 2))
 (.seq (.block 3
 (.seq (.reg 11 [] [
 ⟨(.t 56),.ia 1 (.t 52) (.t 54),none⟩,
 ⟨(.t 57),.ld 1 false (.t 56),none⟩,
 ⟨(.v 4),.asg (.t 57),none⟩] none ⟨[],[],[],[]⟩)
 (.seq (.reg 12 [] [
 ⟨(.t 58),.mv (.v 4),none⟩,
 ⟨(.t 59),.fa 1 (.t 1),none⟩,
 ⟨(.t 60),.ld 1 false (.t 59),none⟩,
 ⟨(.t 61),.call 64 [(.t 58),(.t 60)],none⟩,
 ⟨(.t 62),.un .not (.t 61),none⟩,
 ⟨(.t 63),.mv (.t 62),none⟩,
 ⟨(.t 64),.mv (.v 4),some (63,false)⟩,
 ⟨(.t 65),.fa 1 (.t 1),some (63,false)⟩,
 ⟨(.t 66),.ld 1 false (.t 65),some (63,false)⟩,
 ⟨(.t 67),.call 65 [(.t 64),(.t 66)],some (63,false)⟩,
 ⟨(.t 68),.un .not (.t 67),some (63,false)⟩,
 ⟨(.t 69),.pick (.t 63) (.c (.bool true)) (.t 68),none⟩] none ⟨[],[],[],[]⟩)
 (.cond (.t 69)
 (.seq (.reg 13 [] [
 ⟨(.v 1),.asg (.c (.bool false)),none⟩] none ⟨[],[],[],[]⟩)
 .ret)
 .skip))))
 (.reg 14 [] [
 ⟨(.t 70),.bin .add (.t 54) (.c (.int .i64 1)),none⟩,
 ⟨(.t 54),.mv (.t 70),none⟩] none ⟨[],[],[],[]⟩)))))))
 (.seq (.reg 15 [] [
 ⟨(.v 1),.asg (.c (.bool true)),none⟩] none ⟨[],[],[],[]⟩)
 .ret)))))
theorem c40:zl_ Try.prog 40 F40=some (1,zh_ a40,[.v 1])/\za_ a40=true:=⟨by kernel_rfl,by kernel_rfl⟩
def F41:Fr:=⟨13,[0,1,4],[]⟩
def a41:ACode :=
 (.seq (.reg 0 [] [
 ⟨(.t 2),.box 2 (.v 0),none⟩,
 ⟨(.v 2),.asg (.c (.bool false)),none⟩] none ⟨[],[],[],[]⟩)
 (.seq (.reg 1 [] [
 ⟨(.t 5),.mv (.v 1),none⟩,
 ⟨(.t 6),.bin .geq (.t 5) (.c (.int .i64 0)),none⟩,
 ⟨(.t 7),.mv (.t 6),none⟩,
 ⟨(.t 8),.mv (.v 1),some (7,true)⟩,
 ⟨(.t 9),.fa 0 (.t 2),some (7,true)⟩,
 ⟨(.t 10),.ld 1 false (.t 9),some (7,true)⟩,
 ⟨(.t 11),.bin .lss (.t 8) (.t 10),some (7,true)⟩,
 ⟨(.t 12),.pick (.t 7) (.t 11) (.c (.bool false)),none⟩,
 ⟨(.v 2),.asg (.t 12),none⟩] none ⟨[],[],[],[]⟩)
 .ret))
theorem c41:zl_ Try.prog 41 F41=some (2,zh_ a41,[.v 2])/\za_ a41=true:=⟨by kernel_rfl,by kernel_rfl⟩
def F42:Fr:=⟨91,[0,1,2,6],[]⟩
def a42:ACode :=
 (.seq (.reg 0 [] [
 ⟨(.t 3),.box 11 (.v 0),none⟩,
 ⟨(.t 4),.box 2 (.v 1),none⟩,
 ⟨(.v 3),.asg (.c (.bool false)),none⟩] none ⟨[],[],[],[]⟩)
 (.seq (.seq (.reg 1 [] [
 ⟨(.t 7),.fa 1 (.t 3),none⟩,
 ⟨(.t 8),.ld 1 false (.t 7),none⟩,
 ⟨(.t 9),.bin .neq (.t 8) (.c (.int .i64 0)),none⟩,
 ⟨(.t 10),.mv (.t 9),none⟩,
 ⟨(.t 11),.fa 1 (.t 4),some (10,true)⟩,
 ⟨(.t 12),.ld 1 false (.t 11),some (10,true)⟩,
 ⟨(.t 13),.fa 1 (.t 3),some (10,true)⟩,
 ⟨(.t 14),.ld 1 false (.t 13),some (10,true)⟩,
 ⟨(.t 15),.call 33 [(.t 12),(.t 14)],some (10,true)⟩,
 ⟨(.t 16),.un .not (.t 15),some (10,true)⟩,
 ⟨(.t 17),.pick (.t 10) (.t 16) (.c (.bool false)),none⟩] none ⟨[],[],[],[]⟩)
 (.cond (.t 17)
 (.seq (.reg 2 [] [
 ⟨(.v 3),.asg (.c (.bool false)),none⟩] none ⟨[],[],[],[]⟩)
 .ret)
 .skip))
 (.seq (.seq (.reg 3 [] [
 ⟨(.t 18),.fa 2 (.t 3),none⟩,
 ⟨(.t 19),.ld 1 false (.t 18),none⟩,
 ⟨(.t 20),.fa 3 (.t 3),none⟩,
 ⟨(.t 21),.ld 1 false (.t 20),none⟩,
 ⟨(.t 22),.bin .or (.t 19) (.t 21),none⟩,
 ⟨(.t 23),.fa 4 (.t 3),none⟩,
 ⟨(.t 24),.ld 1 false (.t 23),none⟩,
 ⟨(.t 25),.bin .or (.t 22) (.t 24),none⟩,
 ⟨(.t 26),.fa 1 (.t 3),none⟩,
 ⟨(.t 27),.ld 1 false (.t 26),none⟩,
 ⟨(.t 28),.bin .andNot (.t 25) (.t 27),none⟩,
 ⟨(.t 29),.bin .neq (.t 28) (.c (.int .i64 0)),none⟩] none ⟨[],[],[],[]⟩)
 (.cond (.t 29)
 (.seq (.reg 4 [] [
 ⟨(.v 3),.asg (.c (.bool false)),none⟩] none ⟨[],[],[],[]⟩)
 .ret)
 .skip))
 (.seq (.seq (.reg 5 [] [
 ⟨(.t 30),.fa 3 (.t 3),none⟩,
 ⟨(.t 31),.ld 1 false (.t 30),none⟩,
 ⟨(.t 32),.fa 2 (.t 3),none⟩,
 ⟨(.t 33),.ld 1 false (.t 32),none⟩,
 ⟨(.t 34),.bin .and (.t 31) (.t 33),none⟩,
 ⟨(.t 35),.bin .neq (.t 34) (.c (.int .i64 0)),none⟩,
 ⟨(.t 36),.mv (.t 35),none⟩,
 ⟨(.t 37),.fa 4 (.t 3),some (36,false)⟩,
 ⟨(.t 38),.ld 1 false (.t 37),some (36,false)⟩,
 ⟨(.t 39),.fa 2 (.t 3),some (36,false)⟩,
 ⟨(.t 40),.ld 1 false (.t 39),some (36,false)⟩,
 ⟨(.t 41),.bin .andNot (.t 38) (.t 40),some (36,false)⟩,
 ⟨(.t 42),.bin .neq (.t 41) (.c (.int .i64 0)),some (36,false)⟩,
 ⟨(.t 43),.pick (.t 36) (.c (.bool true)) (.t 42),none⟩] none ⟨[],[],[],[]⟩)
 (.cond (.t 43)
 (.seq (.reg 6 [] [
 ⟨(.v 3),.asg (.c (.bool false)),none⟩] none ⟨[],[],[],[]⟩)
 .ret)
 .skip))
 (.seq (.seq (.reg 7 [] [
 ⟨(.t 44),.fa 1 (.t 3),none⟩,
 ⟨(.t 45),.ld 1 false (.t 44),none⟩,
 ⟨(.t 46),.bin .eql (.t 45) (.c (.int .i64 0)),none⟩] none ⟨[],[],[],[]⟩)
 (.cond (.t 46)
 (.seq (.reg 8 [] [
 ⟨(.t 47),.fa 5 (.t 3),none⟩,
 ⟨(.t 48),.ld 2 true (.t 47),none⟩,
 ⟨(.t 49),.bld [(.int .i64 0),(.int .i64 0)] [],none⟩,
 ⟨(.t 50),.ex (.eqA false [.int,.int]) (.t 48) (.t 49),none⟩,
 ⟨(.t 51),.mv (.t 50),none⟩,
 ⟨(.t 52),.fa 7 (.t 3),some (51,true)⟩,
 ⟨(.t 53),.ld 1 false (.t 52),some (51,true)⟩,
 ⟨(.t 54),.un .not (.t 53),some (51,true)⟩,
 ⟨(.t 55),.pick (.t 51) (.t 54) (.c (.bool false)),none⟩,
 ⟨(.v 3),.asg (.t 55),none⟩] none ⟨[],[],[],[]⟩)
 .ret)
 .skip))
 (.seq (.seq (.reg 9 [] [
 ⟨(.t 56),.fa 5 (.t 3),none⟩,
 ⟨(.t 57),.fa 1 (.t 56),none⟩,
 ⟨(.t 58),.ld 1 false (.t 57),none⟩,
 ⟨(.t 59),.mv (.v 2),none⟩,
 ⟨(.t 60),.bin .neq (.t 58) (.t 59),none⟩,
 ⟨(.t 61),.mv (.t 60),none⟩,
 ⟨(.t 62),.fa 5 (.t 3),some (61,false)⟩,
 ⟨(.t 63),.fa 0 (.t 62),some (61,false)⟩,
 ⟨(.t 64),.ld 1 false (.t 63),some (61,false)⟩,
 ⟨(.t 65),.bin .lss (.t 64) (.c (.int .i64 1)),some (61,false)⟩,
 ⟨(.t 66),.pick (.t 61) (.c (.bool true)) (.t 65),none⟩,
 ⟨(.t 67),.mv (.t 66),none⟩,
 ⟨(.t 68),.fa 5 (.t 3),some (67,false)⟩,
 ⟨(.t 69),.fa 0 (.t 68),some (67,false)⟩,
 ⟨(.t 70),.ld 1 false (.t 69),some (67,false)⟩,
 ⟨(.t 71),.fa 0 (.t 3),some (67,false)⟩,
 ⟨(.t 72),.ld 1 false (.t 71),some (67,false)⟩,
 ⟨(.t 73),.bin .gtr (.t 70) (.t 72),some (67,false)⟩,
 ⟨(.t 74),.pick (.t 67) (.c (.bool true)) (.t 73),none⟩] none ⟨[],[],[],[]⟩)
 (.cond (.t 74)
 (.seq (.reg 10 [] [
 ⟨(.v 3),.asg (.c (.bool false)),none⟩] none ⟨[],[],[],[]⟩)
 .ret)
 .skip))
 (.seq (.seq (.reg 11 [] [
 ⟨(.t 75),.fa 7 (.t 3),none⟩,
 ⟨(.t 76),.ld 1 false (.t 75),none⟩,
 ⟨(.t 77),.fa 2 (.t 3),none⟩,
 ⟨(.t 78),.ld 1 false (.t 77),none⟩,
 ⟨(.t 79),.fa 1 (.t 3),none⟩,
 ⟨(.t 80),.ld 1 false (.t 79),none⟩,
 ⟨(.t 81),.bin .eql (.t 78) (.t 80),none⟩,
 ⟨(.t 82),.bib .neq (.t 76) (.t 81),none⟩] none ⟨[],[],[],[]⟩)
 (.cond (.t 82)
 (.seq (.reg 12 [] [
 ⟨(.v 3),.asg (.c (.bool false)),none⟩] none ⟨[],[],[],[]⟩)
 .ret)
 .skip))
 (.seq (.reg 13 [] [
 ⟨(.t 83),.fa 7 (.t 3),none⟩,
 ⟨(.t 84),.ld 1 false (.t 83),none⟩,
 ⟨(.t 85),.un .not (.t 84),none⟩,
 ⟨(.t 86),.mv (.t 85),none⟩,
 ⟨(.t 87),.fa 4 (.t 3),some (86,false)⟩,
 ⟨(.t 88),.ld 1 false (.t 87),some (86,false)⟩,
 ⟨(.t 89),.bin .eql (.t 88) (.c (.int .i64 0)),some (86,false)⟩,
 ⟨(.t 90),.pick (.t 86) (.c (.bool true)) (.t 89),none⟩,
 ⟨(.v 3),.asg (.t 90),none⟩] none ⟨[],[],[],[]⟩)
 .ret))))))))
theorem c42:zl_ Try.prog 42 F42=some (3,zh_ a42,[.v 3])/\za_ a42=true:=⟨by kernel_rfl,by kernel_rfl⟩
def F43:Fr:=⟨90,[0,1,4,5,7,10],[]⟩
def F48:Fr:=⟨18,[0,1,2],[]⟩
def a48:ACode :=
 (.reg 0 [.lend (.cell 0 11) 15] [
 ⟨(.t 6),.mv (.v 0),none⟩,
 ⟨(.t 7),.mv (.v 0),none⟩,
 ⟨(.t 8),.nilck (.t 7),none⟩,
 ⟨(.t 9),.fa 11 (.t 8),none⟩,
 ⟨(.t 10),.ld 1 false (.t 9),none⟩,
 ⟨(.t 11),.mv (.v 1),none⟩,
 ⟨(.t 12),.mv (.v 2),none⟩,
 ⟨(.t 13),.bld [(.int .i64 0),(.int .i64 0),(.int .i64 0),(.int .i64 0)] [(0,1,(.t 11)),(1,1,(.t 12))],none⟩,
 ⟨(.t 14),.bls 46 4 (.agg #[(.int .i64 0),(.int .i64 0),(.int .i64 0),(.int .i64 0)]) 1 [(0,(.t 13))],none⟩,
 ⟨(.t 15),.app 46 4 32 (.t 10) (.t 14),none⟩,
 ⟨(.t 16),.nilck (.t 6),none⟩,
 ⟨(.t 17),.fa 11 (.t 16),none⟩,
 ⟨.none,.st 1 (.t 17) (.t 15),none⟩] none ⟨[],[],[],[]⟩)
theorem c48:zl_ Try.prog 48 F48=some (3,zh_ a48,[])/\za_ a48=true:=⟨by kernel_rfl,by kernel_rfl⟩
def F49:Fr:=⟨19,[0,1,4],[]⟩
def a49:ACode :=
 (.seq (.reg 0 [] [
 ⟨(.t 2),.box 2 (.v 0),none⟩,
 ⟨(.t 3),.box 2 (.v 1),none⟩,
 ⟨(.v 2),.asg (.c (.bool false)),none⟩] none ⟨[],[],[],[]⟩)
 (.seq (.reg 1 [] [
 ⟨(.t 5),.fa 0 (.t 3),none⟩,
 ⟨(.t 6),.ld 1 false (.t 5),none⟩,
 ⟨(.t 7),.bin .geq (.t 6) (.c (.int .i64 0)),none⟩,
 ⟨(.t 8),.mv (.t 7),none⟩,
 ⟨(.t 9),.fa 0 (.t 3),some (8,true)⟩,
 ⟨(.t 10),.ld 1 false (.t 9),some (8,true)⟩,
 ⟨(.t 11),.bin .leq (.t 10) (.c (.int .i64 1073741824)),some (8,true)⟩,
 ⟨(.t 12),.pick (.t 8) (.t 11) (.c (.bool false)),none⟩,
 ⟨(.t 13),.mv (.t 12),none⟩,
 ⟨(.t 14),.ld 2 true (.t 2),some (13,true)⟩,
 ⟨(.t 15),.fa 1 (.t 3),some (13,true)⟩,
 ⟨(.t 16),.ld 1 false (.t 15),some (13,true)⟩,
 ⟨(.t 17),.call 41 [(.t 14),(.t 16)],some (13,true)⟩,
 ⟨(.t 18),.pick (.t 13) (.t 17) (.c (.bool false)),none⟩,
 ⟨(.v 2),.asg (.t 18),none⟩] none ⟨[],[],[],[]⟩)
 .ret))
theorem c49:zl_ Try.prog 49 F49=some (2,zh_ a49,[.v 2])/\za_ a49=true:=⟨by kernel_rfl,by kernel_rfl⟩
def F50:Fr:=⟨137,[0,1,4,5,7],[]⟩
def a50:ACode :=
 (.seq (.reg 0 [] [
 ⟨(.t 3),.box 2 (.v 1),none⟩,
 ⟨(.v 2),.asg (.c (.int .i64 0)),none⟩] none ⟨[],[],[],[]⟩)
 (.seq (.reg 1 [] [
 ⟨(.t 8),.mkf 69 (.t 3),none⟩,
 ⟨(.v 3),.asg (.t 8),none⟩] none ⟨[],[],[],[]⟩)
 (.seq (.seq (.reg 2 [] [
 ⟨(.t 9),.mv (.v 0),none⟩,
 ⟨(.t 10),.nilck (.t 9),none⟩,
 ⟨(.t 11),.fa 0 (.t 10),none⟩,
 ⟨(.t 12),.fa 8 (.t 11),none⟩,
 ⟨(.t 13),.ld 1 false (.t 12),none⟩,
 ⟨(.t 14),.mv (.v 3),none⟩,
 ⟨(.t 15),.call 70 [(.t 13),(.t 14)],none⟩,
 ⟨(.t 16),.mv (.t 15),none⟩,
 ⟨(.t 17),.mv (.v 0),some (16,false)⟩,
 ⟨(.t 18),.nilck (.t 17),some (16,false)⟩,
 ⟨(.t 19),.fa 0 (.t 18),some (16,false)⟩,
 ⟨(.t 20),.fa 9 (.t 19),some (16,false)⟩,
 ⟨(.t 21),.ld 1 false (.t 20),some (16,false)⟩,
 ⟨(.t 22),.mv (.v 3),some (16,false)⟩,
 ⟨(.t 23),.call 70 [(.t 21),(.t 22)],some (16,false)⟩,
 ⟨(.t 24),.pick (.t 16) (.c (.bool true)) (.t 23),none⟩] none ⟨[],[],[],[]⟩)
 (.cond (.t 24)
 (.seq (.reg 3 [] [
 ⟨(.v 2),.asg (.c (.int .i64 11)),none⟩] none ⟨[],[],[],[]⟩)
 .ret)
 .skip))
 (.seq (.reg 4 [] [
 ⟨(.t 25),.mv (.v 0),none⟩,
 ⟨(.t 26),.mv (.v 0),none⟩,
 ⟨(.t 27),.nilck (.t 26),none⟩,
 ⟨(.t 28),.fa 0 (.t 27),none⟩,
 ⟨(.t 29),.fa 0 (.t 28),none⟩,
 ⟨(.t 30),.ld 1 false (.t 29),none⟩,
 ⟨(.t 31),.fa 0 (.t 3),none⟩,
 ⟨(.t 32),.ld 1 false (.t 31),none⟩,
 ⟨(.t 33),.mnx true (.t 30) (.t 32),none⟩,
 ⟨(.t 34),.nilck (.t 25),none⟩,
 ⟨(.t 35),.fa 0 (.t 34),none⟩,
 ⟨(.t 36),.fa 0 (.t 35),none⟩,
 ⟨.none,.st 1 (.t 36) (.t 33),none⟩] (some [[],[],[1],[2],[3],[4],[],[6],[5,7],[0,0,1,2,3,4,5,6,7,8],[9,0,1,2,3,4,5,6,7,8],[10,0,1,2,3,4,5,6,7,8],[11,8,0,1,2,3,4,5,6,7,8]]) ⟨[],[],[],[]⟩)
 (.seq (.seq (.reg 5 [] [
 ⟨(.t 37),.mv (.v 0),none⟩,
 ⟨(.t 38),.nilck (.t 37),none⟩,
 ⟨(.t 39),.fa 0 (.t 38),none⟩,
 ⟨(.t 40),.fa 8 (.t 39),none⟩,
 ⟨(.t 41),.ld 1 false (.t 40),none⟩,
 ⟨(.t 42),.len (.t 41),none⟩,
 ⟨(.t 43),.bin .eql (.t 42) (.c (.int .i64 0)),none⟩] none ⟨[],[],[],[]⟩)
 (.cond (.t 43)
 (.seq (.reg 6 [] [
 ⟨(.t 44),.mv (.v 0),none⟩,
 ⟨(.t 45),.ld 2 true (.t 3),none⟩,
 ⟨(.t 46),.bls 36 2 (.agg #[(.int .i64 0),(.int .i64 0)]) 1 [(0,(.t 45))],none⟩,
 ⟨(.t 47),.nilck (.t 44),none⟩,
 ⟨(.t 48),.fa 0 (.t 47),none⟩,
 ⟨(.t 49),.fa 8 (.t 48),none⟩,
 ⟨.none,.st 1 (.t 49) (.t 46),none⟩] none ⟨[],[],[],[]⟩)
 (.seq (.reg 7 [] [
 ⟨(.t 50),.mv (.v 0),none⟩,
 ⟨(.t 51),.fa 1 (.t 3),none⟩,
 ⟨(.t 52),.ld 1 false (.t 51),none⟩,
 ⟨(.t 53),.call 48 [(.t 50),(.c (.int .i64 2)),(.t 52)],none⟩] none ⟨[],[],[],[]⟩)
 (.seq (.reg 8 [] [
 ⟨(.v 2),.asg (.c (.int .i64 0)),none⟩] none ⟨[],[],[],[]⟩)
 .ret)))
 .skip))
 (.seq (.reg 9 [] [
 ⟨(.t 54),.mv (.v 0),none⟩,
 ⟨(.t 55),.nilck (.t 54),none⟩,
 ⟨(.t 56),.fa 0 (.t 55),none⟩,
 ⟨(.t 57),.fa 8 (.t 56),none⟩,
 ⟨(.t 58),.ld 1 false (.t 57),none⟩,
 ⟨(.t 59),.ia 2 (.t 58) (.c (.int .i64 0)),none⟩,
 ⟨(.t 60),.ld 2 true (.t 59),none⟩,
 ⟨(.t 6),.allo [(.int .i64 0),(.int .i64 0)],none⟩,
 ⟨.none,.st 2 (.t 6) (.t 60),none⟩] none ⟨[],[],[],[]⟩)
 (.seq (.reg 10 [] [
 ⟨(.t 61),.mv (.v 0),none⟩,
 ⟨(.t 62),.nilck (.t 61),none⟩,
 ⟨(.t 63),.fa 0 (.t 62),none⟩,
 ⟨(.t 64),.fa 9 (.t 63),none⟩,
 ⟨(.t 65),.ld 1 false (.t 64),none⟩,
 ⟨(.t 66),.len (.t 65),none⟩,
 ⟨(.t 67),.bin .eql (.t 66) (.c (.int .i64 0)),none⟩,
 ⟨(.t 68),.mv (.t 67),none⟩,
 ⟨(.t 69),.ld 2 true (.t 3),some (68,false)⟩,
 ⟨(.t 70),.mv (.v 0),some (68,false)⟩,
 ⟨(.t 71),.nilck (.t 70),some (68,false)⟩,
 ⟨(.t 72),.fa 0 (.t 71),some (68,false)⟩,
 ⟨(.t 73),.fa 9 (.t 72),some (68,false)⟩,
 ⟨(.t 74),.ld 1 false (.t 73),some (68,false)⟩,
 ⟨(.t 75),.ia 2 (.t 74) (.c (.int .i64 0)),some (68,false)⟩,
 ⟨(.t 76),.ld 2 true (.t 75),some (68,false)⟩,
 ⟨(.t 77),.call 66 [(.t 69),(.t 76)],some (68,false)⟩,
 ⟨(.t 78),.bin .lss (.t 77) (.c (.int .i64 0)),some (68,false)⟩,
 ⟨(.t 79),.pick (.t 68) (.c (.bool true)) (.t 78),none⟩,
 ⟨(.v 4),.asg (.t 79),none⟩] (some [[],[0],[1],[2],[3],[4],[5],[6],[7],[7],[9,7],[10,7],[11,7],[12,7],[13,7],[14,7],[8,15,7,7],[16,7],[7,17],[18,16,0,1,2,3,4,5,6,7,8,9,10,11,12,13,14,15,16,17,18]]) ⟨[68],[],[],[]⟩)
 (.seq (.seq (.reg 11 [] [
 ⟨(.t 80),.mv (.v 4),none⟩,
 ⟨(.t 81),.mv (.t 80),none⟩,
 ⟨(.t 82),.ld 2 true (.t 3),some (81,true)⟩,
 ⟨(.t 83),.ld 2 true (.t 6),some (81,true)⟩,
 ⟨(.t 84),.call 66 [(.t 82),(.t 83)],some (81,true)⟩,
 ⟨(.t 85),.bin .lss (.t 84) (.c (.int .i64 0)),some (81,true)⟩,
 ⟨(.t 86),.pick (.t 81) (.t 85) (.c (.bool false)),none⟩] none ⟨[],[],[],[]⟩)
 (.cond (.t 86)
 (.seq (.seq (.reg 12 [] [
 ⟨(.t 87),.mv (.v 0),none⟩,
 ⟨(.t 88),.nilck (.t 87),none⟩,
 ⟨(.t 89),.fa 0 (.t 88),none⟩,
 ⟨(.t 90),.fa 9 (.t 89),none⟩,
 ⟨(.t 91),.ld 1 false (.t 90),none⟩,
 ⟨(.t 92),.len (.t 91),none⟩,
 ⟨(.t 93),.bin .gtr (.t 92) (.c (.int .i64 0)),none⟩,
 ⟨(.t 94),.mv (.t 93),none⟩,
 ⟨(.t 95),.mv (.v 0),some (94,true)⟩,
 ⟨(.t 96),.nilck (.t 95),some (94,true)⟩,
 ⟨(.t 97),.fa 0 (.t 96),some (94,true)⟩,
 ⟨(.t 98),.fa 9 (.t 97),some (94,true)⟩,
 ⟨(.t 99),.ld 1 false (.t 98),some (94,true)⟩,
 ⟨(.t 100),.ia 2 (.t 99) (.c (.int .i64 0)),some (94,true)⟩,
 ⟨(.t 101),.ld 2 true (.t 100),some (94,true)⟩,
 ⟨(.t 102),.ld 2 true (.t 6),some (94,true)⟩,
 ⟨(.t 103),.call 66 [(.t 101),(.t 102)],some (94,true)⟩,
 ⟨(.t 104),.bin .lss (.t 103) (.c (.int .i64 0)),some (94,true)⟩,
 ⟨(.t 105),.pick (.t 94) (.t 104) (.c (.bool false)),none⟩] (some [[],[0],[1],[2],[3],[4],[5],[6],[7],[8,7],[9,7],[10,7],[11,7],[12,7],[13,7],[7],[14,15,7,7],[16,7],[7,17]]) ⟨[94],[],[],[]⟩)
 (.cond (.t 105)
 (.reg 13 [] [
 ⟨(.t 106),.mv (.v 0),none⟩,
 ⟨(.t 107),.mv (.v 0),none⟩,
 ⟨(.t 108),.nilck (.t 107),none⟩,
 ⟨(.t 109),.fa 0 (.t 108),none⟩,
 ⟨(.t 110),.fa 9 (.t 109),none⟩,
 ⟨(.t 111),.ld 1 false (.t 110),none⟩,
 ⟨(.t 112),.ia 2 (.t 111) (.c (.int .i64 0)),none⟩,
 ⟨(.t 113),.fa 1 (.t 112),none⟩,
 ⟨(.t 114),.ld 1 false (.t 113),none⟩,
 ⟨(.t 115),.call 48 [(.t 106),(.c (.int .i64 3)),(.t 114)],none⟩] none ⟨[],[],[],[]⟩)
 .skip))
 (.seq (.reg 14 [] [
 ⟨(.t 116),.mv (.v 0),none⟩,
 ⟨(.t 117),.nilck (.t 116),none⟩,
 ⟨(.t 118),.fa 0 (.t 117),none⟩,
 ⟨(.t 119),.fa 10 (.t 118),none⟩,
 ⟨(.t 120),.ld 1 false (.t 119),none⟩,
 ⟨(.t 121),.un .not (.t 120),none⟩] none ⟨[],[],[],[]⟩)
 (.cond (.t 121)
 (.seq (.reg 15 [] [
 ⟨(.t 122),.mv (.v 0),none⟩,
 ⟨(.t 123),.nilck (.t 122),none⟩,
 ⟨(.t 124),.fa 0 (.t 123),none⟩,
 ⟨(.t 125),.fa 10 (.t 124),none⟩,
 ⟨.none,.st 1 (.t 125) (.c (.bool true)),none⟩] none ⟨[],[],[],[]⟩)
 (.reg 16 [] [
 ⟨(.t 126),.mv (.v 0),none⟩,
 ⟨(.t 127),.fa 1 (.t 6),none⟩,
 ⟨(.t 128),.ld 1 false (.t 127),none⟩,
 ⟨(.t 129),.call 48 [(.t 126),(.c (.int .i64 4)),(.t 128)],none⟩] none ⟨[],[],[],[]⟩))
 .skip)))
 (.reg 17 [] [
 ⟨(.t 130),.mv (.v 0),none⟩,
 ⟨(.t 131),.fa 1 (.t 3),none⟩,
 ⟨(.t 132),.ld 1 false (.t 131),none⟩,
 ⟨(.t 133),.call 48 [(.t 130),(.c (.int .i64 3)),(.t 132)],none⟩] none ⟨[],[],[],[]⟩)))
 (.seq (.reg 18 [] [
 ⟨(.t 134),.mv (.v 0),none⟩,
 ⟨(.t 135),.ld 2 true (.t 3),none⟩,
 ⟨(.t 136),.call 71 [(.t 134),(.t 135)],none⟩] none ⟨[],[],[],[]⟩)
 (.seq (.reg 19 [] [
 ⟨(.v 2),.asg (.c (.int .i64 0)),none⟩] none ⟨[],[],[],[]⟩)
 .ret))))))))))
theorem c50:zl_ Try.prog 50 F50=some (2,zh_ a50,[.v 2])/\za_ a50=true:=⟨by kernel_rfl,by kernel_rfl⟩
def F51:Fr:=⟨83,[0,1,2,6],[]⟩
def F57:Fr:=⟨39,[0,3,5],[]⟩
def a57:ACode :=
 (.seq (.reg 0 [] [
 ⟨(.t 2),.allo [(.int .i64 0),(.slice none 0 0)],none⟩,
 ⟨(.v 1),.asg (.c (.int .i64 0)),none⟩] none ⟨[],[],[],[]⟩)
 (.seq (.seq (.reg 1 [] [
 ⟨(.t 6),.mv (.v 0),none⟩,
 ⟨(.t 7),.bin .lss (.t 6) (.c (.int .i64 1)),none⟩,
 ⟨(.t 8),.mv (.t 7),none⟩,
 ⟨(.t 9),.mv (.v 0),some (8,false)⟩,
 ⟨(.t 10),.bin .gtr (.t 9) (.c (.int .i64 9)),some (8,false)⟩,
 ⟨(.t 11),.pick (.t 8) (.c (.bool true)) (.t 10),none⟩] none ⟨[],[],[],[]⟩)
 (.cond (.t 11)
 (.seq (.reg 2 [] [
 ⟨(.t 12),.bld [(.int .i64 0),(.slice none 0 0)] [],none⟩,
 ⟨.none,.st 2 (.t 2) (.t 12),none⟩,
 ⟨(.v 1),.asg (.c (.int .i64 1)),none⟩] none ⟨[],[],[],[]⟩)
 .ret)
 .skip))
 (.seq (.reg 3 [] [
 ⟨(.t 13),.mv (.v 0),none⟩,
 ⟨(.t 14),.bld [(.int .i64 0),(.slice none 0 0)] [(0,1,(.t 13))],none⟩,
 ⟨(.t 4),.allo [(.int .i64 0),(.slice none 0 0)],none⟩,
 ⟨.none,.st 2 (.t 4) (.t 14),none⟩] none ⟨[],[],[],[]⟩)
 (.seq (.seq (.reg 4 [.own (.cell 1 1) 3 1] [
 ⟨(.v 2),.asg (.c (.int .i64 1)),none⟩] none ⟨[],[],[],[]⟩)
 (.block 0
 (.loop
 (.seq (.seq (.reg 5 [] [
 ⟨(.t 15),.mv (.v 2),none⟩,
 ⟨(.t 16),.mv (.v 0),none⟩,
 ⟨(.t 17),.bin .shl (.c (.int .i64 1)) (.t 16),none⟩,
 ⟨(.t 18),.bin .lss (.t 15) (.t 17),none⟩] none ⟨[],[],[],[]⟩)
 (.cond (.t 18)
 .skip
 (.exit 0)))
 (.seq (.block 1
 (.seq (.reg 7 [] [
 ⟨(.t 21),.mv (.v 2),none⟩,
 ⟨(.t 22),.call 74 [(.t 21)],none⟩,
 ⟨(.t 23),.mv (.v 0),none⟩,
 ⟨(.t 24),.bin .quo (.t 23) (.c (.int .i64 2)),none⟩,
 ⟨(.t 25),.bin .add (.t 24) (.c (.int .i64 1)),none⟩,
 ⟨(.t 26),.bin .eql (.t 22) (.t 25),none⟩] none ⟨[],[],[],[]⟩)
 (.cond (.t 26)
 (.reg 8 [.lend (.cell 1 1) 31] [
 ⟨(.t 27),.fa 1 (.t 4),none⟩,
 ⟨(.t 28),.ld 1 false (.t 27),none⟩,
 ⟨(.t 29),.mv (.v 2),none⟩,
 ⟨(.t 30),.bls 3 1 (.int .i64 0) 1 [(0,(.t 29))],none⟩,
 ⟨(.t 31),.app 3 1 8 (.t 28) (.t 30),none⟩,
 ⟨(.t 32),.fa 1 (.t 4),none⟩,
 ⟨.none,.st 1 (.t 32) (.t 31),none⟩] none ⟨[],[],[],[]⟩)
 .skip)))
 (.reg 6 [] [
 ⟨(.t 19),.mv (.v 2),none⟩,
 ⟨(.t 20),.bin .add (.t 19) (.c (.int .i64 1)),none⟩,
 ⟨(.v 2),.asg (.t 20),none⟩] none ⟨[],[],[],[]⟩))))))
 (.seq (.seq (.reg 9 [.freeze (.cell 1 1)] [
 ⟨(.t 33),.fa 1 (.t 4),none⟩,
 ⟨(.t 34),.ld 1 false (.t 33),none⟩,
 ⟨(.t 35),.len (.t 34),none⟩,
 ⟨(.t 36),.bin .gtr (.t 35) (.c (.int .i64 64)),none⟩] none ⟨[],[],[],[]⟩)
 (.cond (.t 36)
 (.seq (.reg 10 [] [
 ⟨(.t 37),.bld [(.int .i64 0),(.slice none 0 0)] [],none⟩,
 ⟨.none,.st 2 (.t 2) (.t 37),none⟩,
 ⟨(.v 1),.asg (.c (.int .i64 4)),none⟩] none ⟨[],[],[],[]⟩)
 .ret)
 .skip))
 (.seq (.reg 11 [] [
 ⟨(.t 38),.ld 2 true (.t 4),none⟩,
 ⟨.none,.st 2 (.t 2) (.t 38),none⟩,
 ⟨(.v 1),.asg (.c (.int .i64 0)),none⟩] none ⟨[],[],[],[]⟩)
 .ret))))))
theorem c57:zl_ Try.prog 57 F57=some (1,zh_ a57,[.c 2 2 true,.v 1])/\za_ a57=true:=⟨by kernel_rfl,by kernel_rfl⟩
def F58:Fr:=⟨80,[0,1,5,6,7,8,9,10,11],[]⟩
def a58:ACode :=
 (.seq (.reg 0 [] [
 ⟨(.t 4),.allo [(.int .i64 0),(.slice none 0 0)],none⟩,
 ⟨(.v 2),.asg (.c (.int .i64 0)),none⟩] none ⟨[],[],[],[]⟩)
 (.seq (.seq (.reg 1 [] [
 ⟨(.t 12),.mv (.v 0),none⟩,
 ⟨(.t 13),.bin .lss (.t 12) (.c (.int .i64 1)),none⟩,
 ⟨(.t 14),.mv (.t 13),none⟩,
 ⟨(.t 15),.mv (.v 1),some (14,false)⟩,
 ⟨(.t 16),.bin .lss (.t 15) (.c (.int .i64 1)),some (14,false)⟩,
 ⟨(.t 17),.pick (.t 14) (.c (.bool true)) (.t 16),none⟩,
 ⟨(.t 18),.mv (.t 17),none⟩,
 ⟨(.t 19),.mv (.v 0),some (18,false)⟩,
 ⟨(.t 20),.bin .gtr (.t 19) (.c (.int .i64 9)),some (18,false)⟩,
 ⟨(.t 21),.pick (.t 18) (.c (.bool true)) (.t 20),none⟩,
 ⟨(.t 22),.mv (.t 21),none⟩,
 ⟨(.t 23),.mv (.v 1),some (22,false)⟩,
 ⟨(.t 24),.bin .gtr (.t 23) (.c (.int .i64 9)),some (22,false)⟩,
 ⟨(.t 25),.pick (.t 22) (.c (.bool true)) (.t 24),none⟩,
 ⟨(.t 26),.mv (.t 25),none⟩,
 ⟨(.t 27),.mv (.v 0),some (26,false)⟩,
 ⟨(.t 28),.mv (.v 1),some (26,false)⟩,
 ⟨(.t 29),.bin .mul (.t 27) (.t 28),some (26,false)⟩,
 ⟨(.t 30),.bin .gtr (.t 29) (.c (.int .i64 9)),some (26,false)⟩,
 ⟨(.t 31),.pick (.t 26) (.c (.bool true)) (.t 30),none⟩] none ⟨[],[],[],[]⟩)
 (.cond (.t 31)
 (.seq (.reg 2 [] [
 ⟨(.t 32),.bld [(.int .i64 0),(.slice none 0 0)] [],none⟩,
 ⟨.none,.st 2 (.t 4) (.t 32),none⟩,
 ⟨(.v 2),.asg (.c (.int .i64 1)),none⟩] none ⟨[],[],[],[]⟩)
 .ret)
 .skip))
 (.seq (.reg 3 [] [
 ⟨(.v 3),.asg (.c (.slice none 0 0)),none⟩] none ⟨[],[],[],[]⟩)
 (.seq (.seq (.reg 4 [.own (.var 3) 3 1] [
 ⟨(.v 4),.asg (.c (.int .i64 0)),none⟩] none ⟨[],[],[],[]⟩)
 (.block 0
 (.loop
 (.seq (.seq (.reg 5 [] [
 ⟨(.t 33),.mv (.v 4),none⟩,
 ⟨(.t 34),.mv (.v 0),none⟩,
 ⟨(.t 35),.bin .lss (.t 33) (.t 34),none⟩] none ⟨[],[],[],[]⟩)
 (.cond (.t 35)
 .skip
 (.exit 0)))
 (.seq (.block 1
 (.seq (.reg 7 [] [
 ⟨(.v 5),.asg (.c (.int .i64 0)),none⟩] none ⟨[],[],[],[]⟩)
 (.block 2
 (.loop
 (.seq (.seq (.reg 8 [] [
 ⟨(.t 38),.mv (.v 5),none⟩,
 ⟨(.t 39),.mv (.v 1),none⟩,
 ⟨(.t 40),.bin .lss (.t 38) (.t 39),none⟩] none ⟨[],[],[],[]⟩)
 (.cond (.t 40)
 .skip
 (.exit 2)))
 (.seq (.block 3
 (.seq (.reg 10 [] [
 ⟨(.v 6),.asg (.c (.int .i64 0)),none⟩] none ⟨[],[],[],[]⟩)
 (.seq (.seq (.reg 11 [] [
 ⟨(.v 7),.asg (.c (.int .i64 0)),none⟩] none ⟨[],[],[],[]⟩)
 (.block 4
 (.loop
 (.seq (.seq (.reg 12 [] [
 ⟨(.t 43),.mv (.v 7),none⟩,
 ⟨(.t 44),.mv (.v 1),none⟩,
 ⟨(.t 45),.bin .lss (.t 43) (.t 44),none⟩] none ⟨[],[],[],[]⟩)
 (.cond (.t 45)
 .skip
 (.exit 4)))
 (.seq (.block 5
 (.reg 14 [] [
 ⟨(.t 48),.mv (.v 6),none⟩,
 ⟨(.t 49),.mv (.v 4),none⟩,
 ⟨(.t 50),.mv (.v 1),none⟩,
 ⟨(.t 51),.bin .mul (.t 49) (.t 50),none⟩,
 ⟨(.t 52),.mv (.v 7),none⟩,
 ⟨(.t 53),.bin .add (.t 51) (.t 52),none⟩,
 ⟨(.t 54),.bin .shl (.c (.int .i64 1)) (.t 53),none⟩,
 ⟨(.t 55),.bin .or (.t 48) (.t 54),none⟩,
 ⟨(.v 6),.asg (.t 55),none⟩] none ⟨[],[],[],[]⟩))
 (.reg 13 [] [
 ⟨(.t 46),.mv (.v 7),none⟩,
 ⟨(.t 47),.bin .add (.t 46) (.c (.int .i64 1)),none⟩,
 ⟨(.v 7),.asg (.t 47),none⟩] none ⟨[],[],[],[]⟩))))))
 (.seq (.seq (.reg 15 [] [
 ⟨(.v 8),.asg (.c (.int .i64 0)),none⟩] none ⟨[],[],[],[]⟩)
 (.block 6
 (.loop
 (.seq (.seq (.reg 16 [] [
 ⟨(.t 56),.mv (.v 8),none⟩,
 ⟨(.t 57),.mv (.v 0),none⟩,
 ⟨(.t 58),.bin .lss (.t 56) (.t 57),none⟩] none ⟨[],[],[],[]⟩)
 (.cond (.t 58)
 .skip
 (.exit 6)))
 (.seq (.block 7
 (.reg 18 [] [
 ⟨(.t 61),.mv (.v 6),none⟩,
 ⟨(.t 62),.mv (.v 8),none⟩,
 ⟨(.t 63),.mv (.v 1),none⟩,
 ⟨(.t 64),.bin .mul (.t 62) (.t 63),none⟩,
 ⟨(.t 65),.mv (.v 5),none⟩,
 ⟨(.t 66),.bin .add (.t 64) (.t 65),none⟩,
 ⟨(.t 67),.bin .shl (.c (.int .i64 1)) (.t 66),none⟩,
 ⟨(.t 68),.bin .or (.t 61) (.t 67),none⟩,
 ⟨(.v 6),.asg (.t 68),none⟩] none ⟨[],[],[],[]⟩))
 (.reg 17 [] [
 ⟨(.t 59),.mv (.v 8),none⟩,
 ⟨(.t 60),.bin .add (.t 59) (.c (.int .i64 1)),none⟩,
 ⟨(.v 8),.asg (.t 60),none⟩] none ⟨[],[],[],[]⟩))))))
 (.reg 19 [.lend (.var 3) 72] [
 ⟨(.t 69),.mv (.v 3),none⟩,
 ⟨(.t 70),.mv (.v 6),none⟩,
 ⟨(.t 71),.bls 3 1 (.int .i64 0) 1 [(0,(.t 70))],none⟩,
 ⟨(.t 72),.app 3 1 8 (.t 69) (.t 71),none⟩,
 ⟨(.v 3),.asg (.t 72),none⟩] none ⟨[],[],[],[]⟩)))))
 (.reg 9 [] [
 ⟨(.t 41),.mv (.v 5),none⟩,
 ⟨(.t 42),.bin .add (.t 41) (.c (.int .i64 1)),none⟩,
 ⟨(.v 5),.asg (.t 42),none⟩] none ⟨[],[],[],[]⟩)))))))
 (.reg 6 [] [
 ⟨(.t 36),.mv (.v 4),none⟩,
 ⟨(.t 37),.bin .add (.t 36) (.c (.int .i64 1)),none⟩,
 ⟨(.v 4),.asg (.t 37),none⟩] none ⟨[],[],[],[]⟩))))))
 (.seq (.reg 20 [.freeze (.var 3)] [
 ⟨(.t 73),.mv (.v 0),none⟩,
 ⟨(.t 74),.mv (.v 1),none⟩,
 ⟨(.t 75),.bin .mul (.t 73) (.t 74),none⟩,
 ⟨(.t 76),.mv (.v 3),none⟩,
 ⟨(.t 77),.call 75 [(.t 75),(.t 76)],none⟩,
 ⟨(.t 78),.ext 77 0,none⟩,
 ⟨(.t 79),.ext 77 1,none⟩,
 ⟨.none,.st 2 (.t 4) (.t 78),none⟩,
 ⟨(.v 2),.asg (.t 79),none⟩] none ⟨[],[],[],[]⟩)
 .ret)))))
theorem c58:zl_ Try.prog 58 F58=some (2,zh_ a58,[.c 4 2 true,.v 2])/\za_ a58=true:=⟨by kernel_rfl,by kernel_rfl⟩
def F59:Fr:=⟨21,[0,3,4],[]⟩
def a59:ACode :=
 (.seq (.reg 0 [] [
 ⟨(.t 2),.allo [(.int .i64 0),(.slice none 0 0)],none⟩,
 ⟨(.v 1),.asg (.c (.int .i64 0)),none⟩] none ⟨[],[],[],[]⟩)
 (.seq (.seq (.reg 1 [] [
 ⟨(.t 5),.mv (.v 0),none⟩,
 ⟨(.t 6),.bin .lss (.t 5) (.c (.int .i64 1)),none⟩,
 ⟨(.t 7),.mv (.t 6),none⟩,
 ⟨(.t 8),.mv (.v 0),some (7,false)⟩,
 ⟨(.t 9),.bin .gtr (.t 8) (.c (.int .i64 3)),some (7,false)⟩,
 ⟨(.t 10),.pick (.t 7) (.c (.bool true)) (.t 9),none⟩] none ⟨[],[],[],[]⟩)
 (.cond (.t 10)
 (.seq (.reg 2 [] [
 ⟨(.t 11),.bld [(.int .i64 0),(.slice none 0 0)] [],none⟩,
 ⟨.none,.st 2 (.t 2) (.t 11),none⟩,
 ⟨(.v 1),.asg (.c (.int .i64 1)),none⟩] none ⟨[],[],[],[]⟩)
 .ret)
 .skip))
 (.seq (.reg 3 [] [
 ⟨(.t 12),.mv (.v 0),none⟩,
 ⟨(.t 13),.bin .shl (.c (.int .i64 1)) (.t 12),none⟩,
 ⟨(.t 14),.bin .sub (.t 13) (.c (.int .i64 1)),none⟩,
 ⟨(.v 2),.asg (.t 14),none⟩] none ⟨[],[],[],[]⟩)
 (.seq (.reg 4 [] [
 ⟨(.t 15),.mv (.v 2),none⟩,
 ⟨(.t 16),.mv (.v 2),none⟩,
 ⟨(.t 17),.call 76 [(.c (.int .i64 0)),(.t 16)],none⟩,
 ⟨(.t 18),.call 75 [(.t 15),(.t 17)],none⟩,
 ⟨(.t 19),.ext 18 0,none⟩,
 ⟨(.t 20),.ext 18 1,none⟩,
 ⟨.none,.st 2 (.t 2) (.t 19),none⟩,
 ⟨(.v 1),.asg (.t 20),none⟩] none ⟨[],[],[],[]⟩)
 .ret))))
theorem c59:zl_ Try.prog 59 F59=some (1,zh_ a59,[.c 2 2 true,.v 1])/\za_ a59=true:=⟨by kernel_rfl,by kernel_rfl⟩
def F60:Fr:=⟨19,[0,1,4,5],[]⟩
def a60:ACode :=
 (.seq (.reg 0 [] [
 ⟨(.v 2),.asg (.c (.int .i64 0)),none⟩] none ⟨[],[],[],[]⟩)
 (.seq (.seq (.reg 1 [] [
 ⟨(.t 6),.mv (.v 0),none⟩,
 ⟨(.t 7),.len (.t 6),none⟩,
 ⟨(.t 8),.mv (.c (.int .i64 0)),none⟩] none ⟨[],[],[],[]⟩)
 (.block 0
 (.loop
 (.seq (.reg 2 [] [
 ⟨(.t 9),.bin .lss (.t 8) (.t 7),none⟩] none ⟨[],[],[],[]⟩)
 (.seq (.cond (.t 9)
 .skip
 (.exit 0))
 (.seq (.block 1
 (.seq (.reg 3 [] [
 ⟨(.t 10),.mv (.t 8),none⟩,
 ⟨(.v 3),.asg (.t 10),none⟩] none ⟨[],[],[],[]⟩)
 (.seq (.reg 4 [] [
 ⟨(.t 11),.mv (.v 1),none⟩,
 ⟨(.t 12),.mv (.v 0),none⟩,
 ⟨(.t 13),.mv (.v 3),none⟩,
 ⟨(.t 14),.ia 1 (.t 12) (.t 13),none⟩,
 ⟨(.t 15),.ld 1 false (.t 14),none⟩,
 ⟨(.t 16),.bin .eql (.t 11) (.t 15),none⟩] none ⟨[],[],[],[]⟩)
 (.cond (.t 16)
 (.seq (.reg 5 [] [
 ⟨(.t 17),.mv (.v 3),none⟩,
 ⟨(.v 2),.asg (.t 17),none⟩] none ⟨[],[],[],[]⟩)
 .ret)
 .skip))))
 (.reg 6 [] [
 ⟨(.t 18),.bin .add (.t 8) (.c (.int .i64 1)),none⟩,
 ⟨(.t 8),.mv (.t 18),none⟩] none ⟨[],[],[],[]⟩)))))))
 (.seq (.reg 7 [] [
 ⟨(.v 2),.asg (.c (.int .i64 (-1))),none⟩] none ⟨[],[],[],[]⟩)
 .ret)))
theorem c60:zl_ Try.prog 60 F60=some (2,zh_ a60,[.v 2])/\za_ a60=true:=⟨by kernel_rfl,by kernel_rfl⟩
def F61:Fr:=⟨8,[0,2],[]⟩
def a61:ACode :=
 (.seq (.reg 0 [] [
 ⟨(.v 1),.asg (.c (.slice none 0 0)),none⟩] none ⟨[],[],[],[]⟩)
 (.seq (.seq (.reg 1 [] [
 ⟨(.t 3),.mv (.v 0),none⟩,
 ⟨(.t 4),.isn false (.t 3),none⟩] none ⟨[],[],[],[]⟩)
 (.cond (.t 4)
 (.seq (.reg 2 [] [
 ⟨(.v 1),.asg (.c (.slice none 0 0)),none⟩] none ⟨[],[],[],[]⟩)
 .ret)
 .skip))
 (.seq (.reg 3 [] [
 ⟨(.t 5),.bls 36 2 (.agg #[(.int .i64 0),(.int .i64 0)]) 0 [],none⟩,
 ⟨(.t 6),.mv (.v 0),none⟩,
 ⟨(.t 7),.app 36 2 16 (.t 5) (.t 6),none⟩,
 ⟨(.v 1),.asg (.t 7),none⟩] none ⟨[],[],[],[]⟩)
 .ret)))
theorem c61:zl_ Try.prog 61 F61=some (1,zh_ a61,[.v 1])/\za_ a61=true:=⟨by kernel_rfl,by kernel_rfl⟩
def F62:Fr:=⟨9,[0,2],[]⟩
def a62:ACode :=
 (.seq (.reg 0 [] [
 ⟨(.v 1),.asg (.c (.bool false)),none⟩] none ⟨[],[],[],[]⟩)
 (.seq (.reg 1 [] [
 ⟨(.t 3),.mv (.v 0),none⟩,
 ⟨(.t 4),.bin .geq (.t 3) (.c (.int .i64 1)),none⟩,
 ⟨(.t 5),.mv (.t 4),none⟩,
 ⟨(.t 6),.mv (.v 0),some (5,true)⟩,
 ⟨(.t 7),.bin .leq (.t 6) (.c (.int .i64 9)),some (5,true)⟩,
 ⟨(.t 8),.pick (.t 5) (.t 7) (.c (.bool false)),none⟩,
 ⟨(.v 1),.asg (.t 8),none⟩] none ⟨[],[],[],[]⟩)
 .ret))
theorem c62:zl_ Try.prog 62 F62=some (1,zh_ a62,[.v 1])/\za_ a62=true:=⟨by kernel_rfl,by kernel_rfl⟩
def F63:Fr:=⟨13,[0,1,4],[]⟩
def a63:ACode :=
 (.seq (.reg 0 [] [
 ⟨(.v 2),.asg (.c (.bool false)),none⟩] none ⟨[],[],[],[]⟩)
 (.seq (.reg 1 [] [
 ⟨(.t 5),.mv (.v 0),none⟩,
 ⟨(.t 6),.bin .geq (.t 5) (.c (.int .i64 1)),none⟩,
 ⟨(.t 7),.mv (.t 6),none⟩,
 ⟨(.t 8),.mv (.v 0),some (7,true)⟩,
 ⟨(.t 9),.mv (.v 1),some (7,true)⟩,
 ⟨(.t 10),.bin .shl (.c (.int .i64 1)) (.t 9),some (7,true)⟩,
 ⟨(.t 11),.bin .lss (.t 8) (.t 10),some (7,true)⟩,
 ⟨(.t 12),.pick (.t 7) (.t 11) (.c (.bool false)),none⟩,
 ⟨(.v 2),.asg (.t 12),none⟩] none ⟨[],[],[],[]⟩)
 .ret))
theorem c63:zl_ Try.prog 63 F63=some (2,zh_ a63,[.v 2])/\za_ a63=true:=⟨by kernel_rfl,by kernel_rfl⟩
def F64:Fr:=⟨18,[0,1,4,6],[]⟩
def a64:ACode :=
 (.seq (.reg 0 [] [
 ⟨(.v 2),.asg (.c (.bool false)),none⟩] none ⟨[],[],[],[]⟩)
 (.seq (.seq (.reg 1 [] [
 ⟨(.t 7),.mv (.v 1),none⟩,
 ⟨(.t 8),.len (.t 7),none⟩,
 ⟨(.t 9),.mv (.c (.int .i64 0)),none⟩] none ⟨[],[],[],[]⟩)
 (.block 0
 (.loop
 (.seq (.reg 2 [] [
 ⟨(.t 10),.bin .lss (.t 9) (.t 8),none⟩] none ⟨[],[],[],[]⟩)
 (.seq (.cond (.t 10)
 .skip
 (.exit 0))
 (.seq (.block 1
 (.seq (.reg 3 [] [
 ⟨(.t 11),.ia 1 (.t 7) (.t 9),none⟩,
 ⟨(.t 12),.ld 1 false (.t 11),none⟩,
 ⟨(.v 3),.asg (.t 12),none⟩] none ⟨[],[],[],[]⟩)
 (.seq (.reg 4 [] [
 ⟨(.t 13),.mv (.v 0),none⟩,
 ⟨(.t 14),.mv (.v 3),none⟩,
 ⟨(.t 15),.bin .and (.t 13) (.t 14),none⟩,
 ⟨(.t 16),.bin .eql (.t 15) (.c (.int .i64 0)),none⟩] none ⟨[],[],[],[]⟩)
 (.cond (.t 16)
 (.seq (.reg 5 [] [
 ⟨(.v 2),.asg (.c (.bool false)),none⟩] none ⟨[],[],[],[]⟩)
 .ret)
 .skip))))
 (.reg 6 [] [
 ⟨(.t 17),.bin .add (.t 9) (.c (.int .i64 1)),none⟩,
 ⟨(.t 9),.mv (.t 17),none⟩] none ⟨[],[],[],[]⟩)))))))
 (.seq (.reg 7 [] [
 ⟨(.v 2),.asg (.c (.bool true)),none⟩] none ⟨[],[],[],[]⟩)
 .ret)))
theorem c64:zl_ Try.prog 64 F64=some (2,zh_ a64,[.v 2])/\za_ a64=true:=⟨by kernel_rfl,by kernel_rfl⟩
def F65:Fr:=⟨24,[0,1,4,6],[]⟩
def a65:ACode :=
 (.seq (.reg 0 [] [
 ⟨(.v 2),.asg (.c (.bool false)),none⟩] none ⟨[],[],[],[]⟩)
 (.seq (.seq (.reg 1 [] [
 ⟨(.t 7),.mv (.v 1),none⟩,
 ⟨(.t 8),.len (.t 7),none⟩,
 ⟨(.t 9),.mv (.c (.int .i64 0)),none⟩] none ⟨[],[],[],[]⟩)
 (.block 0
 (.loop
 (.seq (.reg 2 [] [
 ⟨(.t 10),.bin .lss (.t 9) (.t 8),none⟩] none ⟨[],[],[],[]⟩)
 (.seq (.cond (.t 10)
 .skip
 (.exit 0))
 (.seq (.block 1
 (.seq (.reg 3 [] [
 ⟨(.t 11),.ia 1 (.t 7) (.t 9),none⟩,
 ⟨(.t 12),.ld 1 false (.t 11),none⟩,
 ⟨(.v 3),.asg (.t 12),none⟩] none ⟨[],[],[],[]⟩)
 (.seq (.reg 4 [] [
 ⟨(.t 13),.mv (.v 3),none⟩,
 ⟨(.t 14),.mv (.v 0),none⟩,
 ⟨(.t 15),.bin .neq (.t 13) (.t 14),none⟩,
 ⟨(.t 16),.mv (.t 15),none⟩,
 ⟨(.t 17),.mv (.v 0),some (16,true)⟩,
 ⟨(.t 18),.mv (.v 3),some (16,true)⟩,
 ⟨(.t 19),.bin .and (.t 17) (.t 18),some (16,true)⟩,
 ⟨(.t 20),.mv (.v 3),some (16,true)⟩,
 ⟨(.t 21),.bin .eql (.t 19) (.t 20),some (16,true)⟩,
 ⟨(.t 22),.pick (.t 16) (.t 21) (.c (.bool false)),none⟩] none ⟨[],[],[],[]⟩)
 (.cond (.t 22)
 (.seq (.reg 5 [] [
 ⟨(.v 2),.asg (.c (.bool false)),none⟩] none ⟨[],[],[],[]⟩)
 .ret)
 .skip))))
 (.reg 6 [] [
 ⟨(.t 23),.bin .add (.t 9) (.c (.int .i64 1)),none⟩,
 ⟨(.t 9),.mv (.t 23),none⟩] none ⟨[],[],[],[]⟩)))))))
 (.seq (.reg 7 [] [
 ⟨(.v 2),.asg (.c (.bool true)),none⟩] none ⟨[],[],[],[]⟩)
 .ret)))
theorem c65:zl_ Try.prog 65 F65=some (2,zh_ a65,[.v 2])/\za_ a65=true:=⟨by kernel_rfl,by kernel_rfl⟩
def F66:Fr:=⟨16,[0,1,4],[]⟩
def a66:ACode :=
 (.seq (.reg 0 [] [
 ⟨(.t 2),.box 2 (.v 0),none⟩,
 ⟨(.t 3),.box 2 (.v 1),none⟩,
 ⟨(.v 2),.asg (.c (.int .i64 0)),none⟩] none ⟨[],[],[],[]⟩)
 (.seq (.reg 1 [] [
 ⟨(.t 5),.fa 0 (.t 2),none⟩,
 ⟨(.t 6),.ld 1 false (.t 5),none⟩,
 ⟨(.t 7),.fa 1 (.t 2),none⟩,
 ⟨(.t 8),.ld 1 false (.t 7),none⟩,
 ⟨(.t 9),.bld [(.int .i64 0),(.int .i64 0),(.int .i64 0)] [(0,1,(.t 6)),(1,1,(.t 8))],none⟩,
 ⟨(.t 10),.fa 0 (.t 3),none⟩,
 ⟨(.t 11),.ld 1 false (.t 10),none⟩,
 ⟨(.t 12),.fa 1 (.t 3),none⟩,
 ⟨(.t 13),.ld 1 false (.t 12),none⟩,
 ⟨(.t 14),.bld [(.int .i64 0),(.int .i64 0),(.int .i64 0)] [(0,1,(.t 11)),(1,1,(.t 13))],none⟩,
 ⟨(.t 15),.call 77 [(.t 9),(.t 14)],none⟩,
 ⟨(.v 2),.asg (.t 15),none⟩] none ⟨[],[],[],[]⟩)
 .ret))
theorem c66:zl_ Try.prog 66 F66=some (2,zh_ a66,[.v 2])/\za_ a66=true:=⟨by kernel_rfl,by kernel_rfl⟩
def F71:Fr:=⟨41,[0,1,4],[]⟩
def F73:Fr:=⟨45,[0,1,3],[]⟩
def a73:ACode :=
 (.seq (.seq (.reg 0 [] [
 ⟨(.t 4),.ld 1 false (.v 0),none⟩,
 ⟨(.t 5),.call 35 [(.t 4)],none⟩,
 ⟨(.t 6),.len (.t 5),none⟩,
 ⟨(.t 7),.mv (.c (.int .i64 0)),none⟩] none ⟨[],[],[],[]⟩)
 (.block 0
 (.loop
 (.seq (.reg 1 [] [
 ⟨(.t 8),.bin .lss (.t 7) (.t 6),none⟩] none ⟨[],[],[],[]⟩)
 (.seq (.cond (.t 8)
 .skip
 (.exit 0))
 (.seq (.block 1
 (.seq (.reg 2 [] [
 ⟨(.t 9),.ia 1 (.t 5) (.t 7),none⟩,
 ⟨(.t 10),.ld 1 false (.t 9),none⟩,
 ⟨(.v 2),.asg (.t 10),none⟩] none ⟨[],[],[],[]⟩)
 (.reg 3 [] [
 ⟨(.t 11),.ld 1 false (.v 1),none⟩,
 ⟨(.t 12),.mv (.v 2),none⟩,
 ⟨(.t 13),.call 48 [(.t 11),(.c (.int .i64 5)),(.t 12)],none⟩] none ⟨[],[],[],[]⟩)))
 (.reg 4 [] [
 ⟨(.t 14),.bin .add (.t 7) (.c (.int .i64 1)),none⟩,
 ⟨(.t 7),.mv (.t 14),none⟩] none ⟨[],[],[],[]⟩)))))))
 (.seq (.reg 5 [] [
 ⟨(.t 15),.ld 1 false (.v 1),none⟩,
 ⟨(.t 16),.nilck (.t 15),none⟩,
 ⟨(.t 17),.fa 0 (.t 16),none⟩,
 ⟨(.t 18),.fa 2 (.t 17),none⟩,
 ⟨(.t 19),.ld 1 false (.t 18),none⟩,
 ⟨(.t 20),.ld 1 false (.v 0),none⟩,
 ⟨(.t 21),.bin .andNot (.t 19) (.t 20),none⟩,
 ⟨(.t 22),.nilck (.t 15),none⟩,
 ⟨(.t 23),.fa 0 (.t 22),none⟩,
 ⟨(.t 24),.fa 2 (.t 23),none⟩,
 ⟨.none,.st 1 (.t 24) (.t 21),none⟩] (some [[],[0],[1],[2],[3],[],[4,5],[0,0,1,2,3,4,5,6],[7,0,1,2,3,4,5,6],[8,0,1,2,3,4,5,6],[9,6,0,1,2,3,4,5,6]]) ⟨[],[],[],[]⟩)
 (.seq (.reg 6 [] [
 ⟨(.t 25),.ld 1 false (.v 1),none⟩,
 ⟨(.t 26),.nilck (.t 25),none⟩,
 ⟨(.t 27),.fa 0 (.t 26),none⟩,
 ⟨(.t 28),.fa 3 (.t 27),none⟩,
 ⟨(.t 29),.ld 1 false (.t 28),none⟩,
 ⟨(.t 30),.ld 1 false (.v 0),none⟩,
 ⟨(.t 31),.bin .or (.t 29) (.t 30),none⟩,
 ⟨(.t 32),.nilck (.t 25),none⟩,
 ⟨(.t 33),.fa 0 (.t 32),none⟩,
 ⟨(.t 34),.fa 3 (.t 33),none⟩,
 ⟨.none,.st 1 (.t 34) (.t 31),none⟩] (some [[],[0],[1],[2],[3],[],[4,5],[0,0,1,2,3,4,5,6],[7,0,1,2,3,4,5,6],[8,0,1,2,3,4,5,6],[9,6,0,1,2,3,4,5,6]]) ⟨[],[],[],[]⟩)
 (.reg 7 [] [
 ⟨(.t 35),.ld 1 false (.v 1),none⟩,
 ⟨(.t 36),.nilck (.t 35),none⟩,
 ⟨(.t 37),.fa 0 (.t 36),none⟩,
 ⟨(.t 38),.fa 4 (.t 37),none⟩,
 ⟨(.t 39),.ld 1 false (.t 38),none⟩,
 ⟨(.t 40),.ld 1 false (.v 0),none⟩,
 ⟨(.t 41),.bin .andNot (.t 39) (.t 40),none⟩,
 ⟨(.t 42),.nilck (.t 35),none⟩,
 ⟨(.t 43),.fa 0 (.t 42),none⟩,
 ⟨(.t 44),.fa 4 (.t 43),none⟩,
 ⟨.none,.st 1 (.t 44) (.t 41),none⟩] (some [[],[0],[1],[2],[3],[],[4,5],[0,0,1,2,3,4,5,6],[7,0,1,2,3,4,5,6],[8,0,1,2,3,4,5,6],[9,6,0,1,2,3,4,5,6]]) ⟨[],[],[],[]⟩))))
theorem c73:zl_ Try.prog 73 F73=some (2,zh_ a73,[])/\za_ a73=true:=⟨by kernel_rfl,by kernel_rfl⟩
def F74:Fr:=⟨13,[0,2,3],[]⟩
def a74:ACode :=
 (.seq (.reg 0 [] [
 ⟨(.v 1),.asg (.c (.int .i64 0)),none⟩] none ⟨[],[],[],[]⟩)
 (.seq (.reg 1 [] [
 ⟨(.v 2),.asg (.c (.int .i64 0)),none⟩] none ⟨[],[],[],[]⟩)
 (.seq (.block 0
 (.loop
 (.seq (.seq (.reg 2 [] [
 ⟨(.t 4),.mv (.v 0),none⟩,
 ⟨(.t 5),.bin .gtr (.t 4) (.c (.int .i64 0)),none⟩] none ⟨[],[],[],[]⟩)
 (.cond (.t 5)
 .skip
 (.exit 0)))
 (.seq (.block 1
 (.reg 4 [] [
 ⟨(.t 8),.mv (.v 2),none⟩,
 ⟨(.t 9),.mv (.v 0),none⟩,
 ⟨(.t 10),.bin .and (.t 9) (.c (.int .i64 1)),none⟩,
 ⟨(.t 11),.bin .add (.t 8) (.t 10),none⟩,
 ⟨(.v 2),.asg (.t 11),none⟩] none ⟨[],[],[],[]⟩))
 (.reg 3 [] [
 ⟨(.t 6),.mv (.v 0),none⟩,
 ⟨(.t 7),.bin .shr (.t 6) (.c (.int .u64 1)),none⟩,
 ⟨(.v 0),.asg (.t 7),none⟩] none ⟨[],[],[],[]⟩)))))
 (.seq (.reg 5 [] [
 ⟨(.t 12),.mv (.v 2),none⟩,
 ⟨(.v 1),.asg (.t 12),none⟩] none ⟨[],[],[],[]⟩)
 .ret))))
theorem c74:zl_ Try.prog 74 F74=some (1,zh_ a74,[.v 1])/\za_ a74=true:=⟨by kernel_rfl,by kernel_rfl⟩
def F75:Fr:=⟨71,[0,1,5,7,9,11],[]⟩
def a75:ACode :=
 (.seq (.reg 0 [] [
 ⟨(.t 4),.allo [(.int .i64 0),(.slice none 0 0)],none⟩,
 ⟨(.v 2),.asg (.c (.int .i64 0)),none⟩] none ⟨[],[],[],[]⟩)
 (.seq (.seq (.reg 1 [] [
 ⟨(.t 13),.mv (.v 0),none⟩,
 ⟨(.t 14),.bin .lss (.t 13) (.c (.int .i64 1)),none⟩,
 ⟨(.t 15),.mv (.t 14),none⟩,
 ⟨(.t 16),.mv (.v 0),some (15,false)⟩,
 ⟨(.t 17),.bin .gtr (.t 16) (.c (.int .i64 9)),some (15,false)⟩,
 ⟨(.t 18),.pick (.t 15) (.c (.bool true)) (.t 17),none⟩,
 ⟨(.t 19),.mv (.t 18),none⟩,
 ⟨(.t 20),.mv (.v 1),some (19,false)⟩,
 ⟨(.t 21),.len (.t 20),some (19,false)⟩,
 ⟨(.t 22),.bin .eql (.t 21) (.c (.int .i64 0)),some (19,false)⟩,
 ⟨(.t 23),.pick (.t 19) (.c (.bool true)) (.t 22),none⟩] none ⟨[],[],[],[]⟩)
 (.cond (.t 23)
 (.seq (.reg 2 [] [
 ⟨(.t 24),.bld [(.int .i64 0),(.slice none 0 0)] [],none⟩,
 ⟨.none,.st 2 (.t 4) (.t 24),none⟩,
 ⟨(.v 2),.asg (.c (.int .i64 1)),none⟩] none ⟨[],[],[],[]⟩)
 .ret)
 .skip))
 (.seq (.seq (.reg 3 [] [
 ⟨(.t 25),.mv (.v 1),none⟩,
 ⟨(.t 26),.len (.t 25),none⟩,
 ⟨(.t 27),.mv (.c (.int .i64 0)),none⟩] none ⟨[],[],[],[]⟩)
 (.block 0
 (.loop
 (.seq (.reg 4 [] [
 ⟨(.t 28),.bin .lss (.t 27) (.t 26),none⟩] none ⟨[],[],[],[]⟩)
 (.seq (.cond (.t 28)
 .skip
 (.exit 0))
 (.seq (.block 1
 (.seq (.reg 5 [] [
 ⟨(.t 29),.ia 1 (.t 25) (.t 27),none⟩,
 ⟨(.t 30),.ld 1 false (.t 29),none⟩,
 ⟨(.v 3),.asg (.t 30),none⟩] none ⟨[],[],[],[]⟩)
 (.seq (.reg 6 [] [
 ⟨(.t 31),.mv (.v 3),none⟩,
 ⟨(.t 32),.bin .lss (.t 31) (.c (.int .i64 1)),none⟩,
 ⟨(.t 33),.mv (.t 32),none⟩,
 ⟨(.t 34),.mv (.v 3),some (33,false)⟩,
 ⟨(.t 35),.mv (.v 0),some (33,false)⟩,
 ⟨(.t 36),.bin .shl (.c (.int .i64 1)) (.t 35),some (33,false)⟩,
 ⟨(.t 37),.bin .geq (.t 34) (.t 36),some (33,false)⟩,
 ⟨(.t 38),.pick (.t 33) (.c (.bool true)) (.t 37),none⟩] none ⟨[],[],[],[]⟩)
 (.cond (.t 38)
 (.seq (.reg 7 [] [
 ⟨(.t 39),.bld [(.int .i64 0),(.slice none 0 0)] [],none⟩,
 ⟨.none,.st 2 (.t 4) (.t 39),none⟩,
 ⟨(.v 2),.asg (.c (.int .i64 1)),none⟩] none ⟨[],[],[],[]⟩)
 .ret)
 .skip))))
 (.reg 8 [] [
 ⟨(.t 40),.bin .add (.t 27) (.c (.int .i64 1)),none⟩,
 ⟨(.t 27),.mv (.t 40),none⟩] none ⟨[],[],[],[]⟩)))))))
 (.seq (.seq (.reg 9 [] [
 ⟨(.t 41),.mv (.v 1),none⟩,
 ⟨(.t 42),.len (.t 41),none⟩,
 ⟨(.t 43),.mv (.c (.int .i64 0)),none⟩] none ⟨[],[],[],[]⟩)
 (.block 2
 (.loop
 (.seq (.reg 10 [] [
 ⟨(.t 44),.bin .lss (.t 43) (.t 42),none⟩] none ⟨[],[],[],[]⟩)
 (.seq (.cond (.t 44)
 .skip
 (.exit 2))
 (.seq (.block 3
 (.seq (.reg 11 [] [
 ⟨(.t 45),.ia 1 (.t 41) (.t 43),none⟩,
 ⟨(.t 46),.ld 1 false (.t 45),none⟩,
 ⟨(.v 4),.asg (.t 46),none⟩] none ⟨[],[],[],[]⟩)
 (.seq (.reg 12 [] [
 ⟨(.t 47),.mv (.v 1),none⟩,
 ⟨(.t 48),.len (.t 47),none⟩,
 ⟨(.t 49),.mv (.c (.int .i64 0)),none⟩] none ⟨[],[],[],[]⟩)
 (.block 4
 (.loop
 (.seq (.reg 13 [] [
 ⟨(.t 50),.bin .lss (.t 49) (.t 48),none⟩] none ⟨[],[],[],[]⟩)
 (.seq (.cond (.t 50)
 .skip
 (.exit 4))
 (.seq (.block 5
 (.seq (.reg 14 [] [
 ⟨(.t 51),.ia 1 (.t 47) (.t 49),none⟩,
 ⟨(.t 52),.ld 1 false (.t 51),none⟩,
 ⟨(.v 5),.asg (.t 52),none⟩] none ⟨[],[],[],[]⟩)
 (.seq (.reg 15 [] [
 ⟨(.t 53),.mv (.v 4),none⟩,
 ⟨(.t 54),.mv (.v 5),none⟩,
 ⟨(.t 55),.bin .and (.t 53) (.t 54),none⟩,
 ⟨(.t 56),.bin .eql (.t 55) (.c (.int .i64 0)),none⟩] none ⟨[],[],[],[]⟩)
 (.cond (.t 56)
 (.seq (.reg 16 [] [
 ⟨(.t 57),.bld [(.int .i64 0),(.slice none 0 0)] [],none⟩,
 ⟨.none,.st 2 (.t 4) (.t 57),none⟩,
 ⟨(.v 2),.asg (.c (.int .i64 13)),none⟩] none ⟨[],[],[],[]⟩)
 .ret)
 .skip))))
 (.reg 17 [] [
 ⟨(.t 58),.bin .add (.t 49) (.c (.int .i64 1)),none⟩,
 ⟨(.t 49),.mv (.t 58),none⟩] none ⟨[],[],[],[]⟩)))))))))
 (.reg 18 [] [
 ⟨(.t 59),.bin .add (.t 43) (.c (.int .i64 1)),none⟩,
 ⟨(.t 43),.mv (.t 59),none⟩] none ⟨[],[],[],[]⟩)))))))
 (.seq (.reg 19 [] [
 ⟨(.t 60),.mv (.v 0),none⟩,
 ⟨(.t 61),.mv (.v 0),none⟩,
 ⟨(.t 62),.mv (.v 1),none⟩,
 ⟨(.t 63),.call 81 [(.t 61),(.t 62)],none⟩,
 ⟨(.t 64),.bld [(.int .i64 0),(.slice none 0 0)] [(0,1,(.t 60)),(1,1,(.t 63))],none⟩,
 ⟨(.t 12),.allo [(.int .i64 0),(.slice none 0 0)],none⟩,
 ⟨.none,.st 2 (.t 12) (.t 64),none⟩] none ⟨[],[],[],[]⟩)
 (.seq (.seq (.reg 20 [] [
 ⟨(.t 65),.fa 1 (.t 12),none⟩,
 ⟨(.t 66),.ld 1 false (.t 65),none⟩,
 ⟨(.t 67),.len (.t 66),none⟩,
 ⟨(.t 68),.bin .gtr (.t 67) (.c (.int .i64 64)),none⟩] none ⟨[],[],[],[]⟩)
 (.cond (.t 68)
 (.seq (.reg 21 [] [
 ⟨(.t 69),.bld [(.int .i64 0),(.slice none 0 0)] [],none⟩,
 ⟨.none,.st 2 (.t 4) (.t 69),none⟩,
 ⟨(.v 2),.asg (.c (.int .i64 4)),none⟩] none ⟨[],[],[],[]⟩)
 .ret)
 .skip))
 (.seq (.reg 22 [] [
 ⟨(.t 70),.ld 2 true (.t 12),none⟩,
 ⟨.none,.st 2 (.t 4) (.t 70),none⟩,
 ⟨(.v 2),.asg (.c (.int .i64 0)),none⟩] none ⟨[],[],[],[]⟩)
 .ret)))))))
theorem c75:zl_ Try.prog 75 F75=some (2,zh_ a75,[.c 4 2 true,.v 2])/\za_ a75=true:=⟨by kernel_rfl,by kernel_rfl⟩
def F76:Fr:=⟨70,[0,1,4,5,6,7,9,11,13],[]⟩
def a76:ACode :=
 (.seq (.reg 0 [] [
 ⟨(.v 2),.asg (.c (.slice none 0 0)),none⟩] none ⟨[],[],[],[]⟩)
 (.seq (.seq (.reg 1 [] [
 ⟨(.t 14),.mv (.v 0),none⟩,
 ⟨(.t 15),.bin .mul (.c (.int .i64 2)) (.t 14),none⟩,
 ⟨(.t 16),.bin .add (.t 15) (.c (.int .i64 2)),none⟩,
 ⟨(.t 17),.mv (.v 1),none⟩,
 ⟨(.t 18),.bin .geq (.t 16) (.t 17),none⟩] none ⟨[],[],[],[]⟩)
 (.cond (.t 18)
 (.seq (.reg 2 [] [
 ⟨(.t 19),.mv (.v 0),none⟩,
 ⟨(.t 20),.bin .shl (.c (.int .i64 1)) (.t 19),none⟩,
 ⟨(.t 21),.bls 3 1 (.int .i64 0) 1 [(0,(.t 20))],none⟩,
 ⟨(.v 2),.asg (.t 21),none⟩] none ⟨[],[],[],[]⟩)
 .ret)
 .skip))
 (.seq (.reg 3 [] [
 ⟨(.t 22),.mv (.v 0),none⟩,
 ⟨(.t 23),.bin .mul (.c (.int .i64 2)) (.t 22),none⟩,
 ⟨(.t 24),.bin .add (.t 23) (.c (.int .i64 1)),none⟩,
 ⟨(.t 25),.mv (.v 1),none⟩,
 ⟨(.t 26),.call 76 [(.t 24),(.t 25)],none⟩,
 ⟨(.t 27),.mv (.v 0),none⟩,
 ⟨(.t 28),.bin .mul (.c (.int .i64 2)) (.t 27),none⟩,
 ⟨(.t 29),.bin .add (.t 28) (.c (.int .i64 2)),none⟩,
 ⟨(.t 30),.mv (.v 1),none⟩,
 ⟨(.t 31),.call 76 [(.t 29),(.t 30)],none⟩,
 ⟨(.v 3),.asg (.t 26),none⟩,
 ⟨(.v 4),.asg (.t 31),none⟩] none ⟨[],[],[],[]⟩)
 (.seq (.reg 4 [] [
 ⟨(.v 5),.asg (.c (.slice none 0 0)),none⟩] none ⟨[],[],[],[]⟩)
 (.seq (.seq (.reg 5 [.own (.var 5) 3 1] [
 ⟨(.t 32),.mv (.v 3),none⟩,
 ⟨(.t 33),.app 3 1 8 (.c (.slice none 0 0)) (.t 32),none⟩,
 ⟨(.t 34),.mv (.v 4),none⟩,
 ⟨(.t 35),.app 3 1 8 (.t 33) (.t 34),none⟩,
 ⟨(.t 36),.len (.t 35),none⟩,
 ⟨(.t 37),.mv (.c (.int .i64 0)),none⟩] none ⟨[],[],[],[]⟩)
 (.block 0
 (.loop
 (.seq (.reg 6 [] [
 ⟨(.t 38),.bin .lss (.t 37) (.t 36),none⟩] none ⟨[],[],[],[]⟩)
 (.seq (.cond (.t 38)
 .skip
 (.exit 0))
 (.seq (.block 1
 (.seq (.reg 7 [] [
 ⟨(.t 39),.ia 1 (.t 35) (.t 37),none⟩,
 ⟨(.t 40),.ld 1 false (.t 39),none⟩,
 ⟨(.v 6),.asg (.t 40),none⟩] none ⟨[],[],[],[]⟩)
 (.reg 8 [.lend (.var 5) 47] [
 ⟨(.t 41),.mv (.v 5),none⟩,
 ⟨(.t 42),.mv (.v 6),none⟩,
 ⟨(.t 43),.mv (.v 0),none⟩,
 ⟨(.t 44),.bin .shl (.c (.int .i64 1)) (.t 43),none⟩,
 ⟨(.t 45),.bin .or (.t 42) (.t 44),none⟩,
 ⟨(.t 46),.bls 3 1 (.int .i64 0) 1 [(0,(.t 45))],none⟩,
 ⟨(.t 47),.app 3 1 8 (.t 41) (.t 46),none⟩,
 ⟨(.v 5),.asg (.t 47),none⟩] none ⟨[],[],[],[]⟩)))
 (.reg 9 [] [
 ⟨(.t 48),.bin .add (.t 37) (.c (.int .i64 1)),none⟩,
 ⟨(.t 37),.mv (.t 48),none⟩] none ⟨[],[],[],[]⟩)))))))
 (.seq (.seq (.reg 10 [] [
 ⟨(.t 49),.mv (.v 3),none⟩,
 ⟨(.t 50),.len (.t 49),none⟩,
 ⟨(.t 51),.mv (.c (.int .i64 0)),none⟩] none ⟨[],[],[],[]⟩)
 (.block 2
 (.loop
 (.seq (.reg 11 [] [
 ⟨(.t 52),.bin .lss (.t 51) (.t 50),none⟩] none ⟨[],[],[],[]⟩)
 (.seq (.cond (.t 52)
 .skip
 (.exit 2))
 (.seq (.block 3
 (.seq (.reg 12 [] [
 ⟨(.t 53),.ia 1 (.t 49) (.t 51),none⟩,
 ⟨(.t 54),.ld 1 false (.t 53),none⟩,
 ⟨(.v 7),.asg (.t 54),none⟩] none ⟨[],[],[],[]⟩)
 (.seq (.reg 13 [] [
 ⟨(.t 55),.mv (.v 4),none⟩,
 ⟨(.t 56),.len (.t 55),none⟩,
 ⟨(.t 57),.mv (.c (.int .i64 0)),none⟩] none ⟨[],[],[],[]⟩)
 (.block 4
 (.loop
 (.seq (.reg 14 [] [
 ⟨(.t 58),.bin .lss (.t 57) (.t 56),none⟩] none ⟨[],[],[],[]⟩)
 (.seq (.cond (.t 58)
 .skip
 (.exit 4))
 (.seq (.block 5
 (.seq (.reg 15 [] [
 ⟨(.t 59),.ia 1 (.t 55) (.t 57),none⟩,
 ⟨(.t 60),.ld 1 false (.t 59),none⟩,
 ⟨(.v 8),.asg (.t 60),none⟩] none ⟨[],[],[],[]⟩)
 (.reg 16 [.lend (.var 5) 66] [
 ⟨(.t 61),.mv (.v 5),none⟩,
 ⟨(.t 62),.mv (.v 7),none⟩,
 ⟨(.t 63),.mv (.v 8),none⟩,
 ⟨(.t 64),.bin .or (.t 62) (.t 63),none⟩,
 ⟨(.t 65),.bls 3 1 (.int .i64 0) 1 [(0,(.t 64))],none⟩,
 ⟨(.t 66),.app 3 1 8 (.t 61) (.t 65),none⟩,
 ⟨(.v 5),.asg (.t 66),none⟩] none ⟨[],[],[],[]⟩)))
 (.reg 17 [] [
 ⟨(.t 67),.bin .add (.t 57) (.c (.int .i64 1)),none⟩,
 ⟨(.t 57),.mv (.t 67),none⟩] none ⟨[],[],[],[]⟩)))))))))
 (.reg 18 [] [
 ⟨(.t 68),.bin .add (.t 51) (.c (.int .i64 1)),none⟩,
 ⟨(.t 51),.mv (.t 68),none⟩] none ⟨[],[],[],[]⟩)))))))
 (.seq (.reg 19 [.lend (.var 5) 69] [
 ⟨(.t 69),.mv (.v 5),none⟩,
 ⟨(.v 2),.asg (.t 69),none⟩] none ⟨[],[],[],[]⟩)
 .ret)))))))
theorem c76:zl_ Try.prog 76 F76=some (2,zh_ a76,[.v 2])/\za_ a76=true:=⟨by kernel_rfl,by kernel_rfl⟩
def F77:Fr:=⟨23,[0,1,4,5,6],[]⟩
def a77:ACode :=
 (.seq (.reg 0 [] [
 ⟨(.t 2),.box 3 (.v 0),none⟩,
 ⟨(.t 3),.box 3 (.v 1),none⟩,
 ⟨(.v 2),.asg (.c (.int .i64 0)),none⟩] none ⟨[],[],[],[]⟩)
 (.seq (.seq (.reg 1 [] [
 ⟨(.t 7),.ld 3 true (.t 2),none⟩,
 ⟨(.t 8),.mv (.c (.int .i64 0)),none⟩] none ⟨[],[],[],[]⟩)
 (.block 0
 (.loop
 (.seq (.reg 2 [] [
 ⟨(.t 9),.bin .lss (.t 8) (.c (.int .i64 3)),none⟩] none ⟨[],[],[],[]⟩)
 (.seq (.cond (.t 9)
 .skip
 (.exit 0))
 (.seq (.block 1
 (.seq (.reg 3 [] [
 ⟨(.t 10),.mv (.t 8),none⟩,
 ⟨(.t 11),.ex (.idx 3 1 false) (.t 7) (.t 8),none⟩,
 ⟨(.v 3),.asg (.t 10),none⟩,
 ⟨(.v 4),.asg (.t 11),none⟩] none ⟨[],[],[],[]⟩)
 (.seq (.seq (.reg 4 [] [
 ⟨(.t 12),.mv (.v 4),none⟩,
 ⟨(.t 13),.mv (.v 3),none⟩,
 ⟨(.t 14),.iaa 1 3 (.t 3) (.t 13),none⟩,
 ⟨(.t 15),.ld 1 false (.t 14),none⟩,
 ⟨(.t 16),.bin .lss (.t 12) (.t 15),none⟩] none ⟨[],[],[],[]⟩)
 (.cond (.t 16)
 (.seq (.reg 5 [] [
 ⟨(.v 2),.asg (.c (.int .i64 (-1))),none⟩] none ⟨[],[],[],[]⟩)
 .ret)
 .skip))
 (.seq (.reg 6 [] [
 ⟨(.t 17),.mv (.v 4),none⟩,
 ⟨(.t 18),.mv (.v 3),none⟩,
 ⟨(.t 19),.iaa 1 3 (.t 3) (.t 18),none⟩,
 ⟨(.t 20),.ld 1 false (.t 19),none⟩,
 ⟨(.t 21),.bin .gtr (.t 17) (.t 20),none⟩] none ⟨[],[],[],[]⟩)
 (.cond (.t 21)
 (.seq (.reg 7 [] [
 ⟨(.v 2),.asg (.c (.int .i64 1)),none⟩] none ⟨[],[],[],[]⟩)
 .ret)
 .skip)))))
 (.reg 8 [] [
 ⟨(.t 22),.bin .add (.t 8) (.c (.int .i64 1)),none⟩,
 ⟨(.t 8),.mv (.t 22),none⟩] none ⟨[],[],[],[]⟩)))))))
 (.seq (.reg 9 [] [
 ⟨(.v 2),.asg (.c (.int .i64 0)),none⟩] none ⟨[],[],[],[]⟩)
 .ret)))
theorem c77:zl_ Try.prog 77 F77=some (2,zh_ a77,[.v 2])/\za_ a77=true:=⟨by kernel_rfl,by kernel_rfl⟩
def F78:Fr:=⟨10,[0,1,4],[]⟩
def a78:ACode :=
 (.seq (.reg 0 [] [
 ⟨(.v 2),.asg (.c (.bool false)),none⟩] none ⟨[],[],[],[]⟩)
 (.seq (.reg 1 [] [
 ⟨(.t 5),.mv (.v 0),none⟩,
 ⟨(.t 6),.mv (.v 1),none⟩,
 ⟨(.t 7),.bin .and (.t 5) (.t 6),none⟩,
 ⟨(.t 8),.mv (.v 0),none⟩,
 ⟨(.t 9),.bin .eql (.t 7) (.t 8),none⟩,
 ⟨(.v 2),.asg (.t 9),none⟩] none ⟨[],[],[],[]⟩)
 .ret))
theorem c78:zl_ Try.prog 78 F78=some (2,zh_ a78,[.v 2])/\za_ a78=true:=⟨by kernel_rfl,by kernel_rfl⟩
def F81:Fr:=⟨51,[0,1,4,5,6,7,8,10],[]⟩
def a81:ACode :=
 (.seq (.reg 0 [] [
 ⟨(.v 2),.asg (.c (.slice none 0 0)),none⟩] none ⟨[],[],[],[]⟩)
 (.seq (.reg 1 [] [
 ⟨(.v 3),.asg (.c (.slice none 0 0)),none⟩] none ⟨[],[],[],[]⟩)
 (.seq (.seq (.reg 2 [.own (.var 3) 3 1] [
 ⟨(.v 4),.asg (.c (.int .i64 0)),none⟩] none ⟨[],[],[],[]⟩)
 (.block 0
 (.loop
 (.seq (.seq (.reg 3 [] [
 ⟨(.t 11),.mv (.v 4),none⟩,
 ⟨(.t 12),.mv (.v 0),none⟩,
 ⟨(.t 13),.bin .shl (.c (.int .i64 1)) (.t 12),none⟩,
 ⟨(.t 14),.bin .lss (.t 11) (.t 13),none⟩] none ⟨[],[],[],[]⟩)
 (.cond (.t 14)
 .skip
 (.exit 0)))
 (.seq (.block 1
 (.seq (.reg 5 [] [
 ⟨(.v 5),.asg (.c (.bool false)),none⟩,
 ⟨(.v 6),.asg (.c (.bool true)),none⟩] none ⟨[],[],[],[]⟩)
 (.seq (.seq (.reg 6 [] [
 ⟨(.t 17),.mv (.v 1),none⟩,
 ⟨(.t 18),.len (.t 17),none⟩,
 ⟨(.t 19),.mv (.c (.int .i64 0)),none⟩] none ⟨[],[],[],[]⟩)
 (.block 2
 (.loop
 (.seq (.reg 7 [] [
 ⟨(.t 20),.bin .lss (.t 19) (.t 18),none⟩] none ⟨[],[],[],[]⟩)
 (.seq (.cond (.t 20)
 .skip
 (.exit 2))
 (.seq (.block 3
 (.seq (.reg 8 [] [
 ⟨(.t 21),.ia 1 (.t 17) (.t 19),none⟩,
 ⟨(.t 22),.ld 1 false (.t 21),none⟩,
 ⟨(.v 7),.asg (.t 22),none⟩] none ⟨[],[],[],[]⟩)
 (.seq (.reg 9 [] [
 ⟨(.t 23),.mv (.v 5),none⟩,
 ⟨(.t 24),.mv (.t 23),none⟩,
 ⟨(.t 25),.mv (.v 7),some (24,false)⟩,
 ⟨(.t 26),.mv (.v 4),some (24,false)⟩,
 ⟨(.t 27),.bin .eql (.t 25) (.t 26),some (24,false)⟩,
 ⟨(.t 28),.pick (.t 24) (.c (.bool true)) (.t 27),none⟩,
 ⟨(.v 5),.asg (.t 28),none⟩] none ⟨[],[],[],[]⟩)
 (.reg 10 [] [
 ⟨(.t 29),.mv (.v 6),none⟩,
 ⟨(.t 30),.mv (.t 29),none⟩,
 ⟨(.t 31),.mv (.v 7),some (30,true)⟩,
 ⟨(.t 32),.mv (.v 4),some (30,true)⟩,
 ⟨(.t 33),.bin .eql (.t 31) (.t 32),some (30,true)⟩,
 ⟨(.t 34),.mv (.t 33),some (30,true)⟩,
 ⟨(.t 35),.mv (.v 7),some (34,false)⟩,
 ⟨(.t 36),.mv (.v 4),some (34,false)⟩,
 ⟨(.t 37),.call 78 [(.t 35),(.t 36)],some (34,false)⟩,
 ⟨(.t 38),.un .not (.t 37),some (34,false)⟩,
 ⟨(.t 39),.pick (.t 34) (.c (.bool true)) (.t 38),some (30,true)⟩,
 ⟨(.t 40),.pick (.t 30) (.t 39) (.c (.bool false)),none⟩,
 ⟨(.v 6),.asg (.t 40),none⟩] none ⟨[],[],[],[]⟩))))
 (.reg 11 [] [
 ⟨(.t 41),.bin .add (.t 19) (.c (.int .i64 1)),none⟩,
 ⟨(.t 19),.mv (.t 41),none⟩] none ⟨[],[],[],[]⟩)))))))
 (.seq (.reg 12 [] [
 ⟨(.t 42),.mv (.v 5),none⟩,
 ⟨(.t 43),.mv (.t 42),none⟩,
 ⟨(.t 44),.mv (.v 6),some (43,true)⟩,
 ⟨(.t 45),.pick (.t 43) (.t 44) (.c (.bool false)),none⟩] none ⟨[],[],[],[]⟩)
 (.cond (.t 45)
 (.reg 13 [.lend (.var 3) 49] [
 ⟨(.t 46),.mv (.v 3),none⟩,
 ⟨(.t 47),.mv (.v 4),none⟩,
 ⟨(.t 48),.bls 3 1 (.int .i64 0) 1 [(0,(.t 47))],none⟩,
 ⟨(.t 49),.app 3 1 8 (.t 46) (.t 48),none⟩,
 ⟨(.v 3),.asg (.t 49),none⟩] none ⟨[],[],[],[]⟩)
 .skip)))))
 (.reg 4 [] [
 ⟨(.t 15),.mv (.v 4),none⟩,
 ⟨(.t 16),.bin .add (.t 15) (.c (.int .i64 1)),none⟩,
 ⟨(.v 4),.asg (.t 16),none⟩] none ⟨[],[],[],[]⟩))))))
 (.seq (.reg 14 [.lend (.var 3) 50] [
 ⟨(.t 50),.mv (.v 3),none⟩,
 ⟨(.v 2),.asg (.t 50),none⟩] none ⟨[],[],[],[]⟩)
 .ret))))
theorem c81:zl_ Try.prog 81 F81=some (2,zh_ a81,[.v 2])/\za_ a81=true:=⟨by kernel_rfl,by kernel_rfl⟩
theorem zD_:Try.prog.follows .mixedOrders=true:=by kernel_rfl
theorem lc_{P:Program}{f:Nat}{args:List V}{z:Nat}{xs:List V}(h:PC P f args fun r=>(∃e,r=.own true e z xs)\/(xs=[]/\r=.s (.slice none 0 0))):PC P f args fun r=>r=.list z xs:=by
 intro g w vals hb
 refine(h g w vals hb).mono ?_
 rintro e w' ⟨v,r,bs',g',h1,⟨rfl,hq⟩,hok,hbd,hx⟩
 rcases hq with ⟨e,rfl⟩|⟨rfl,rfl⟩
 .obtain⟨g2,k1,k2,k3,k4⟩:=tf_ (e':=0) (l:=.var 0) hbd (by decide) (S':=Stn [.own false 0 z xs] []) rfl
  have hv:z3_ (Frn 1) g2 w' ⟨#[v],[]⟩ (.var 0)=some v:=by simp[z3_,Frn,Act.tv]
  have hr:=k1.rep (.l (.var 0)) (.own false 0 z xs) v ⟨rfl,hv⟩
  obtain⟨q1,q2⟩:=uR_ (g:=g2) (w:=w') (args:=[.list z xs]) (vals:=#[v]) rfl (by simp[immA,immC]) (fun i y u hy hu=>by
   cases i with
   |zero=>simp at hy hu;subst hy;subst hu;cases hr with|ownf h h0=>exact h
   |succ i=>simp at hy) k1.Ilt
  refine⟨v,.list z xs,[],g2,h1,⟨rfl,rfl⟩,rfl,q1,hx.os,hx.tape,hx.output,hx.size,fun k hk hn=>?_,fun k hk=>absurd hk (q2 k),fun b hb=>by simp at hb⟩
  obtain⟨p1,p2⟩:=hx.same k hk hn
  refine⟨p1,((k2.same k (zzk_ hk hx.size) (fun ho=>?_)).2).trans p2⟩
  rcases hx.owned k ho with p|p
  .exact hn p
  .omega
 .have hv:z3_ (Frn 1) g' w' ⟨#[v],[]⟩ (.var 0)=some v:=by simp[z3_,Frn,Act.tv]
  have hr:=hbd.rep (.l (.var 0)) (.s (.slice none 0 0)) v ⟨rfl,hv⟩
  obtain⟨q1,q2⟩:=uR_ (g:=g') (w:=w') (args:=[.list z []]) (vals:=#[v]) rfl (by simp[immA,immC]) (fun i y u hy hu=>by
   cases i with
   |zero=>simp at hy hu;subst hy;subst hu;exact q6_ (.inr ⟨rfl,z,rfl⟩) hr
   |succ i=>simp at hy) hbd.Ilt
  exact⟨v,.list z [],[],g',h1,⟨rfl,rfl⟩,rfl,q1,hx.os,hx.tape,hx.output,hx.size,fun k hk hn=>hx.same k hk hn,fun k hk=>absurd hk (q2 k),fun b hb=>by simp at hb⟩
end Go.Proofs.Ytpfjlnmnolbiaaa
