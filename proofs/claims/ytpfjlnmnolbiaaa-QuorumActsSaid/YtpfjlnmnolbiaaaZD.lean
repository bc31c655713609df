/- Parts of the proof of a law of chapter 30, put behind one another. -/
import Derived.Test.YtpfjlnmnolbiaaaZC
import Derived.Tactics
import Derived.IntWalk
import Derived.Test.YtpfjlnmnolbiaaaProg
set_option linter.unusedVariables false
set_option linter.unusedSimpArgs false
namespace Go.Proofs.Ytpfjlnmnolbiaaa
open Go.RowKit Go.Proofs
section
def ob{α:Type}(o:Option α)(K:α->Prop):Prop:=match o with
 |some x=>K x
 |none=>False
@[simp] theorem ob_some {α:Type} (x:α) (K:α->Prop):ob (some x) K=K x:=rfl
@[simp] theorem ob_none {α:Type} (K:α->Prop):ob none K=False:=rfl
section
variable{P:Program}{F:Fr}{n:Nat}
@[simp] theorem upd_at (f:Nat->V) (d:Nat) (x:V) (t:Nat):upd f d x t=if t=d then x else f t:=rfl
@[simp] theorem W_skip (S:St) (Q:AX->St->Prop):W P F n .skip S Q=Q .normal S:=rfl
@[simp] theorem W_exit (id:Nat) (S:St) (Q:AX->St->Prop):W P F n (.exit id) S Q=Q (.exit id) S:=rfl
@[simp] theorem W_ret (S:St) (Q:AX->St->Prop):W P F n .ret S Q=Q .ret S:=rfl
def sq(P:Program)(F:Fr)(n:Nat)(y:ACode)(Q:AX->St->Prop):AX->St->Prop:=fun e S=>match e with
 |.normal=>W P F n y S Q
 |e=>Q e S
def bq(id:Nat)(Q:AX->St->Prop):AX->St->Prop:=fun e S=>match e with
 |.exit id'=>if id'=id then Q .normal S else Q (.exit id') S
 |e=>Q e S
@[simp] theorem sq_normal (y:ACode) (Q:AX->St->Prop) (S:St):sq P F n y Q .normal S=W P F n y S Q:=rfl
@[simp] theorem sq_exit (y:ACode) (Q:AX->St->Prop) (S:St) (id:Nat):sq P F n y Q (.exit id) S=Q (.exit id) S:=rfl
@[simp] theorem sq_ret (y:ACode) (Q:AX->St->Prop) (S:St):sq P F n y Q .ret S=Q .ret S:=rfl
@[simp] theorem sq_goto (y:ACode) (Q:AX->St->Prop) (S:St) (l:Nat):sq P F n y Q (.goto l) S=Q (.goto l) S:=rfl
@[simp] theorem bq_goto (id:Nat) (Q:AX->St->Prop) (S:St) (l:Nat):bq id Q (.goto l) S=Q (.goto l) S:=rfl
@[simp] theorem W_label (l:Nat) (S:St) (Q:AX->St->Prop):W P F n (.label l) S Q=Q .normal S:=rfl
@[simp] theorem W_goto (l:Nat) (S:St) (Q:AX->St->Prop):W P F n (.goto l) S Q=Q (.goto l) S:=rfl
def ng(Q:AX->St->Prop):AX->St->Prop:=fun e S=>match e with
 |.goto _=>False
 |e=>Q e S
@[simp] theorem ng_normal (Q:AX->St->Prop) (S:St):ng Q .normal S=Q .normal S:=rfl
@[simp] theorem ng_exit (Q:AX->St->Prop) (S:St) (id:Nat):ng Q (.exit id) S=Q (.exit id) S:=rfl
@[simp] theorem ng_ret (Q:AX->St->Prop) (S:St):ng Q .ret S=Q .ret S:=rfl
def jq(P:Program)(F:Fr)(n:Nat)(l:Nat)(r:ACode)(Q:AX->St->Prop):AX->St->Prop:=fun e S=>match e with
 |.goto l'=>l'=l/\W P F n r S (ng Q)
 |e=>Q e S
@[simp] theorem jq_normal (l:Nat) (r:ACode) (Q:AX->St->Prop) (S:St):jq P F n l r Q .normal S=Q .normal S:=rfl
@[simp] theorem jq_exit (l:Nat) (r:ACode) (Q:AX->St->Prop) (S:St) (id:Nat):jq P F n l r Q (.exit id) S=Q (.exit id) S:=rfl
@[simp] theorem jq_ret (l:Nat) (r:ACode) (Q:AX->St->Prop) (S:St):jq P F n l r Q .ret S=Q .ret S:=rfl
@[simp] theorem jq_goto (l l':Nat) (r:ACode) (Q:AX->St->Prop) (S:St):jq P F n l r Q (.goto l') S=(l'=l/\W P F n r S (ng Q)):=rfl
@[simp] theorem W_scope (l:Nat) (c r:ACode) (S:St) (Q:AX->St->Prop):W P F n (.scope l c r) S Q=W P F n c S (jq P F n l r Q):=rfl
@[simp] theorem bq_normal (id:Nat) (Q:AX->St->Prop) (S:St):bq id Q .normal S=Q .normal S:=rfl
@[simp] theorem bq_exit (id:Nat) (Q:AX->St->Prop) (S:St) (id':Nat):bq id Q (.exit id') S=if id'=id then Q .normal S else Q (.exit id') S:=rfl
@[simp] theorem bq_ret (id:Nat) (Q:AX->St->Prop) (S:St):bq id Q .ret S=Q .ret S:=rfl
@[simp] theorem W_seq (x y : ACode) (S : St) (Q : AX → St → Prop) : W P F n (.seq x y) S Q = W P F n x S (sq P F n y Q) := by
  simp only[W]
  congr 1
def cd(P:Program)(F:Fr)(n:Nat)(c:V)(x y:ACode)(S:St)(Q:AX->St->Prop):Prop:=match c with
 |.s (.bool b)=>if b then W P F n x S Q else W P F n y S Q
 |_=>False
@[simp] theorem W_cond (c:Opd) (x y:ACode) (S:St) (Q:AX->St->Prop):W P F n (.cond c x y) S Q=cd P F n (z6_ S c) x y S Q:=rfl
@[simp] theorem cd_true (x y:ACode) (S:St) (Q:AX->St->Prop):cd P F n (.s (.bool true)) x y S Q=W P F n x S Q:=rfl
@[simp] theorem cd_false (x y:ACode) (S:St) (Q:AX->St->Prop):cd P F n (.s (.bool false)) x y S Q=W P F n y S Q:=rfl
@[simp] theorem W_block (id : Nat) (c : ACode) (S : St) (Q : AX → St → Prop) : W P F n (.block id c) S Q = W P F n c S (bq id Q) := by
  simp only[W]
  congr 1
def wrk(P:Program)(ops:List AOper)(K:St->Prop):St->Prop:=fun S=>WR P ops S K
@[simp] theorem wrk_at (ops:List AOper) (K:St->Prop) (S:St):wrk P ops K S=WR P ops S K:=rfl
@[simp] theorem W_reg (id : Nat) (pre : List Ghost) (ops : List AOper) (an : Ann) (S : St) (Q : AX → St → Prop) : W P F n (.reg id pre ops none an) S Q = (pre.all (xT_ F) = true ∧ ob (w9_ pre S) (wrk P ops (Q .normal))) := by
  simp only[W]
  cases w9_ pre S<;>rfl
def WGD(P:Program)(ac:Bool)(o:AOper)(S:St)(K:St->Prop):Prop:=∃S',DG P ac o S S'/\K S'
def wdk(P:Program)(A:Ann)(k:Nat)(ops:List AOper)(K:St->Prop):St->Prop:=fun S=>WDR P A K k ops S
@[simp] theorem wdk_at (A:Ann) (k:Nat) (ops:List AOper) (K:St->Prop) (S:St):wdk P A k ops K S=WDR P A K k ops S:=rfl
def WNM(P:Program)(ops:List AOper)(es:List (List Nat))(S:St)(K:St->Prop):Prop:=WN P ops es ops.length [] S K
def wdm(P:Program)(A:Ann)(es:List (List Nat))(ops:List AOper)(K:St->Prop):St->Prop:=fun S=>if A.acs=[1000000] then WNM P ops es S K else WDR P A K 0 ops S
@[simp] theorem wdm_at (sh lf acs:List Nat) (ap:List (Nat×Nat×Nat)) (es:List (List Nat)) (ops:List AOper) (K:St->Prop) (S:St):wdm P ⟨sh,lf,acs,ap⟩ es ops K S=if acs=[1000000] then WNM P ops es S K else WDR P ⟨sh,lf,acs,ap⟩ K 0 ops S:=rfl
@[simp] theorem W_regd (id : Nat) (pre : List Ghost) (ops : List AOper) (es : List (List Nat)) (an : Ann) (S : St) (Q : AX → St → Prop) : W P F n (.reg id pre ops (some es) an) S Q = (pre.all (xT_ F) = true ∧ ob (w9_ pre S) (wdm P an es ops (Q .normal))) := by
  simp only[W]
  cases w9_ pre S<;>rfl
@[simp] theorem WR_nil (S:St) (K:St->Prop):WR P [] S K=K S:=rfl
@[simp] theorem WR_cons (o:AOper) (r:List AOper) (S:St) (K:St->Prop):WR P (o::r) S K=WG P o S (wrk P r K):=rfl
@[simp] theorem WG_none (d:Dst) (op:AOp) (S:St) (K:St->Prop):WG P ⟨d,op,none⟩ S K=WO P ⟨d,op,none⟩ S K:=rfl
def gd(P:Program)(x:V)(want:Bool)(d:Nat)(op:AOp)(S:St)(K:St->Prop):Prop:=match gB x want with
 |some true=>WO P ⟨.t d,op,none⟩ S K
 |some false=>K { S with tm:=upd S.tm d (.tup []) }
 |none=>False
@[simp] theorem WG_some (d:Nat) (op:AOp) (t:Nat) (want:Bool) (S:St) (K:St->Prop):WG P ⟨.t d,op,some (t,want)⟩ S K=gd P (S.tm t) want d op S K:=rfl
@[simp] theorem gd_tt (d:Nat) (op:AOp) (S:St) (K:St->Prop):gd P (.s (.bool true)) true d op S K=WO P ⟨.t d,op,none⟩ S K:=rfl
@[simp] theorem gd_ff (d:Nat) (op:AOp) (S:St) (K:St->Prop):gd P (.s (.bool false)) false d op S K=WO P ⟨.t d,op,none⟩ S K:=rfl
@[simp] theorem gd_tf (d:Nat) (op:AOp) (S:St) (K:St->Prop):gd P (.s (.bool true)) false d op S K=K { S with tm:=upd S.tm d (.tup []) }:=rfl
@[simp] theorem gd_ft (d:Nat) (op:AOp) (S:St) (K:St->Prop):gd P (.s (.bool false)) true d op S K=K { S with tm:=upd S.tm d (.tup []) }:=rfl
@[simp] theorem gd_no (want:Bool) (d:Nat) (op:AOp) (S:St) (K:St->Prop):gd P (.tup []) want d op S K=K { S with tm:=upd S.tm d (.tup []) }:=rfl
def obc(o:Option (Nat×List V))(K:Nat×List V->Prop):Prop:=match o with
 |some r=>K r
 |none=>False
def qg_:AOp->Bool
 |.call _ _|.isn _ _|.callv _ _=>true
 |_=>false
theorem zD_(d:Dst)(op:AOp)(gu:Option (Nat×Bool))(S:St)(K:St->Prop)(h:qg_ op=false):WO P ⟨d,op,gu⟩ S K=ob (step S d op) K:=by
 cases op<;>first|(simp[qg_]at h;done)|(simp only[WO];cases step S d _<;>rfl)
@[simp] theorem WO_isn (d : Nat) (ne : Bool) (x : Opd) (gu : Option (Nat × Bool)) (S : St) (K : St → Prop) : WO P ⟨.t d, .isn ne x, gu⟩ S K = obc (cont S (z6_ S x)) fun r => (r.2 ≠ [] → K { S with tm := upd S.tm d (.s (.bool ne)) }) ∧ (r.2 = [] → K { S with tm := upd S.tm d (.s (.bool true)) } ∧ K { S with tm := upd S.tm d (.s (.bool false)) }) := by
  simp only[WO]
  cases cont S (z6_ S x) with
  |none=>rfl
  | some r =>
    simp only[obc]
    refine propext ⟨fun h=>⟨fun hr=>h ne (fun _=>rfl),fun hr=>⟨h true (fun q=>absurd hr q),h false (fun q=>absurd hr q)⟩⟩,fun h b hb=>?_⟩
    by_cases hr:r.2=[]
    .cases b
     .exact(h.2 hr).2
     .exact(h.2 hr).1
    .rw[hb hr];exact h.1 hr
@[simp] theorem WO_ex (d:Dst) (k:Ex) (x y:Opd) (gu:Option (Nat×Bool)) (S:St) (K:St->Prop):WO P ⟨d,.ex k x y,gu⟩ S K=ob (step S d (.ex k x y)) K:=zD_ d _ gu S K rfl
@[simp] theorem WO_mv (d:Dst) (x:Opd) (gu:Option (Nat×Bool)) (S:St) (K:St->Prop):WO P ⟨d,.mv x,gu⟩ S K=ob (step S d (.mv x)) K:=zD_ d _ gu S K rfl
@[simp] theorem WO_asg (d:Dst) (x:Opd) (gu:Option (Nat×Bool)) (S:St) (K:St->Prop):WO P ⟨d,.asg x,gu⟩ S K=ob (step S d (.asg x)) K:=zD_ d _ gu S K rfl
@[simp] theorem WO_pick (d:Dst) (c:Opd) (a:Opd) (b:Opd) (gu:Option (Nat×Bool)) (S:St) (K:St->Prop):WO P ⟨d,.pick c a b,gu⟩ S K=ob (step S d (.pick c a b)) K:=zD_ d _ gu S K rfl
@[simp] theorem WO_bin (d:Dst) (o:BinOp) (x:Opd) (y:Opd) (gu:Option (Nat×Bool)) (S:St) (K:St->Prop):WO P ⟨d,.bin o x y,gu⟩ S K=ob (step S d (.bin o x y)) K:=zD_ d _ gu S K rfl
@[simp] theorem WO_bib (d:Dst) (o:BinOp) (x:Opd) (y:Opd) (gu:Option (Nat×Bool)) (S:St) (K:St->Prop):WO P ⟨d,.bib o x y,gu⟩ S K=ob (step S d (.bib o x y)) K:=zD_ d _ gu S K rfl
@[simp] theorem WO_un (d:Dst) (o:UnOp) (x:Opd) (gu:Option (Nat×Bool)) (S:St) (K:St->Prop):WO P ⟨d,.un o x,gu⟩ S K=ob (step S d (.un o x)) K:=zD_ d _ gu S K rfl
@[simp] theorem WO_conv (d:Dst) (k:IntKind) (x:Opd) (gu:Option (Nat×Bool)) (S:St) (K:St->Prop):WO P ⟨d,.conv k x,gu⟩ S K=ob (step S d (.conv k x)) K:=zD_ d _ gu S K rfl
@[simp] theorem WO_b2s (d:Dst) (x:Opd) (gu:Option (Nat×Bool)) (S:St) (K:St->Prop):WO P ⟨d,.b2s x,gu⟩ S K=ob (step S d (.b2s x)) K:=zD_ d _ gu S K rfl
@[simp] theorem WO_cvb (d:Dst) (x:Opd) (gu:Option (Nat×Bool)) (S:St) (K:St->Prop):WO P ⟨d,.cvb x,gu⟩ S K=ob (step S d (.cvb x)) K:=zD_ d _ gu S K rfl
@[simp] theorem WO_mkf (d:Dst) (f:Nat) (x:Opd) (gu:Option (Nat×Bool)) (S:St) (K:St->Prop):WO P ⟨d,.mkf f x,gu⟩ S K=ob (step S d (.mkf f x)) K:=zD_ d _ gu S K rfl
@[simp] theorem WO_nilck (d:Dst) (x:Opd) (gu:Option (Nat×Bool)) (S:St) (K:St->Prop):WO P ⟨d,.nilck x,gu⟩ S K=ob (step S d (.nilck x)) K:=zD_ d _ gu S K rfl
@[simp] theorem WO_ext (d:Dst) (t:Nat) (i:Nat) (gu:Option (Nat×Bool)) (S:St) (K:St->Prop):WO P ⟨d,.ext t i,gu⟩ S K=ob (step S d (.ext t i)) K:=zD_ d _ gu S K rfl
@[simp] theorem WO_bld (d:Dst) (zs:List Value) (ps:List (Nat×Nat×Opd)) (gu:Option (Nat×Bool)) (S:St) (K:St->Prop):WO P ⟨d,.bld zs ps,gu⟩ S K=ob (step S d (.bld zs ps)) K:=zD_ d _ gu S K rfl
@[simp] theorem WO_bls (d:Dst) (e:Nat) (z:Nat) (zero:Value) (m:Nat) (ps:List (Nat×Opd)) (gu:Option (Nat×Bool)) (S:St) (K:St->Prop):WO P ⟨d,.bls e z zero m ps,gu⟩ S K=ob (step S d (.bls e z zero m ps)) K:=zD_ d _ gu S K rfl
@[simp] theorem WO_allo (d:Dst) (zs:List Value) (gu:Option (Nat×Bool)) (S:St) (K:St->Prop):WO P ⟨d,.allo zs,gu⟩ S K=ob (step S d (.allo zs)) K:=zD_ d _ gu S K rfl
@[simp] theorem WO_box (d:Dst) (m:Nat) (x:Opd) (gu:Option (Nat×Bool)) (S:St) (K:St->Prop):WO P ⟨d,.box m x,gu⟩ S K=ob (step S d (.box m x)) K:=zD_ d _ gu S K rfl
@[simp] theorem WO_ld (d:Dst) (m:Nat) (ag:Bool) (p:Opd) (gu:Option (Nat×Bool)) (S:St) (K:St->Prop):WO P ⟨d,.ld m ag p,gu⟩ S K=ob (step S d (.ld m ag p)) K:=zD_ d _ gu S K rfl
@[simp] theorem WO_st (d:Dst) (m:Nat) (p:Opd) (x:Opd) (gu:Option (Nat×Bool)) (S:St) (K:St->Prop):WO P ⟨d,.st m p x,gu⟩ S K=ob (step S d (.st m p x)) K:=zD_ d _ gu S K rfl
@[simp] theorem WO_fa (d:Dst) (off:Nat) (p:Opd) (gu:Option (Nat×Bool)) (S:St) (K:St->Prop):WO P ⟨d,.fa off p,gu⟩ S K=ob (step S d (.fa off p)) K:=zD_ d _ gu S K rfl
@[simp] theorem WO_ia (d:Dst) (z:Nat) (x:Opd) (i:Opd) (gu:Option (Nat×Bool)) (S:St) (K:St->Prop):WO P ⟨d,.ia z x i,gu⟩ S K=ob (step S d (.ia z x i)) K:=zD_ d _ gu S K rfl
@[simp] theorem WO_iaa (d:Dst) (z:Nat) (len:Nat) (x:Opd) (i:Opd) (gu:Option (Nat×Bool)) (S:St) (K:St->Prop):WO P ⟨d,.iaa z len x i,gu⟩ S K=ob (step S d (.iaa z len x i)) K:=zD_ d _ gu S K rfl
@[simp] theorem WO_sl (d:Dst) (e:Nat) (z:Nat) (x:Opd) (lo:Option Opd) (hi:Option Opd) (mx:Option Opd) (gu:Option (Nat×Bool)) (S:St) (K:St->Prop):WO P ⟨d,.sl e z x lo hi mx,gu⟩ S K=ob (step S d (.sl e z x lo hi mx)) K:=zD_ d _ gu S K rfl
@[simp] theorem WO_ssl (d:Dst) (x:Opd) (lo:Option Opd) (hi:Option Opd) (gu:Option (Nat×Bool)) (S:St) (K:St->Prop):WO P ⟨d,.ssl x lo hi,gu⟩ S K=ob (step S d (.ssl x lo hi)) K:=zD_ d _ gu S K rfl
@[simp] theorem WO_app (d:Dst) (e:Nat) (z:Nat) (b:Nat) (x:Opd) (y:Opd) (gu:Option (Nat×Bool)) (S:St) (K:St->Prop):WO P ⟨d,.app e z b x y,gu⟩ S K=ob (step S d (.app e z b x y)) K:=zD_ d _ gu S K rfl
@[simp] theorem WO_len (d:Dst) (x:Opd) (gu:Option (Nat×Bool)) (S:St) (K:St->Prop):WO P ⟨d,.len x,gu⟩ S K=ob (step S d (.len x)) K:=zD_ d _ gu S K rfl
@[simp] theorem WO_slen (d:Dst) (x:Opd) (gu:Option (Nat×Bool)) (S:St) (K:St->Prop):WO P ⟨d,.slen x,gu⟩ S K=ob (step S d (.slen x)) K:=zD_ d _ gu S K rfl
@[simp] theorem WO_mk (d:Dst) (e:Nat) (z:Nat) (b:Nat) (zero:Value) (m:Opd) (c:Opd) (gu:Option (Nat×Bool)) (S:St) (K:St->Prop):WO P ⟨d,.mk e z b zero m c,gu⟩ S K=ob (step S d (.mk e z b zero m c)) K:=zD_ d _ gu S K rfl
@[simp] theorem WO_mnx (d:Dst) (mx:Bool) (x:Opd) (y:Opd) (gu:Option (Nat×Bool)) (S:St) (K:St->Prop):WO P ⟨d,.mnx mx x y,gu⟩ S K=ob (step S d (.mnx mx x y)) K:=zD_ d _ gu S K rfl
def WK(P:Program)(S:St)(d f:Nat)(args:List Opd)(K:St->Prop):Prop:=l2_ P S (.t d) f args K
@[simp] theorem WO_call (d f:Nat) (args:List Opd) (gu:Option (Nat×Bool)) (S:St) (K:St->Prop):WO P ⟨.t d,.call f args,gu⟩ S K=WK P S d f args K:=rfl
def WKV(P:Program)(S:St)(d t:Nat)(args:List Opd)(K:St->Prop):Prop:=lL_ P S (.t d) t args K
@[simp] theorem WO_callv (d t:Nat) (args:List Opd) (gu:Option (Nat×Bool)) (S:St) (K:St->Prop):WO P ⟨.t d,.callv t args,gu⟩ S K=WKV P S d t args K:=rfl
def WC(P:Program)(S:St)(d f:Nat)(K:St->Prop)(r:List V×(Nat->V)):Prop:=(r.1.map toImm).all immA=true/\∃q,PC P f (r.1.map toImm) q/\∀y,q y->K { S with tm:=upd r.2 d y }
def WA(P:Program)(S:St)(d f:Nat)(K:St->Prop)(r:List V×(Nat->V)):Prop:=∃mask sel args bs Q,handOk S.bx r.1 mask sel args bs/\AC P f args bs Q/\∀y bs',Q y bs'->xY_ sel bs'=true/\K (aftS { S with tm:=r.2 } d y sel bs')
theorem z1_{S:St}{d f:Nat}{args:List Opd}{K:St->Prop}(h:ob (takes S S.tm args) (WC P S d f K)):WK P S d f args K:=by
 cases hk:takes S S.tm args with
 |none=>rw[hk]at h;exact h.elim
 |some r=>rw[hk]at h;exact⟨d,rfl,.inl ⟨r.1,r.2,hk,h⟩⟩
theorem zy_{S:St}{d f:Nat}{args:List Opd}{K:St->Prop}(h:ob (takes S S.tm args) (WA P S d f K)):WK P S d f args K:=by
 cases hk:takes S S.tm args with
 |none=>rw[hk]at h;exact h.elim
 |some r=>rw[hk]at h;exact⟨d,rfl,.inr (.inr (.inl ⟨r.1,r.2,hk,h⟩))⟩
theorem pz_{S:St}{d f:Nat}{args:List Opd}{K:St->Prop}{q:V->Prop}(h:MC P S f args q)(hk:∀r,q r->K { S with tm:=upd S.tm d r }):WK P S d f args K:=⟨d,rfl,.inr (.inr (.inr ⟨q,h,hk⟩))⟩
theorem zc_{S:St}{d f:Nat}{K:St->Prop}{ys:List V}{tm1:Nat->V}{args:List V}{q:V->Prop}(hc:PC P f args q)(ha:ys.map toImm=args)(hi:args.all immA=true)(hk:∀y,q y->K { S with tm:=upd tm1 d y }):WC P S d f K (ys,tm1):=by
 subst ha
 exact⟨hi,q,hc,hk⟩
theorem ye_{S:St}{d f:Nat}{K:St->Prop}{ys:List V}{tm1:Nat->V}{mask:List Bool}{sel:List Nat}{args:List V}{bs:List (List V)}{Q:V->List (List V)->Prop}(hc:AC P f args bs Q)(ho:handOk S.bx ys mask sel args bs)
 (hk:∀y bs',Q y bs'->xY_ sel bs'=true/\K (aftS { S with tm:=tm1 } d y sel bs')):WA P S d f K (ys,tm1):=⟨mask,sel,args,bs,Q,ho,hc,hk⟩
theorem nD_(A:Ann)(k:Nat)(o:AOper)(r:List AOper)(K:St->Prop)(S:St):WDR P A K k (o::r) S=(dynOk A k o S=true/\WGD P (A.acs.contains k) o S (wdk P A (k+1) r K)):=by
 simp only[WDR,WGD,DGd,wdk,eq_iff_iff]
 constructor
 .rintro⟨S',⟨h1,h2⟩,h3⟩;exact⟨h2,S',h1,h3⟩
 .rintro⟨h2,S',h1,h3⟩;exact⟨S',⟨h1,h2⟩,h3⟩
@[simp] theorem WDR_nil (A:Ann) (k:Nat) (K:St->Prop) (S:St):WDR P A K k [] S=K S:=rfl
@[simp] theorem WDR_cons (A:Ann) (k:Nat) (o:AOper) (r:List AOper) (K:St->Prop) (S:St):WDR P A K k (o::r) S=(dynOk A k o S=true/\WGD P (A.acs.contains k) o S (wdk P A (k+1) r K)):=nD_ A k o r K S
theorem zs_(ac:Bool)(d:Dst)(op:AOp)(S:St)(K:St->Prop)(h:qg_ op=false):WGD P ac ⟨d,op,none⟩ S K=ob (step S d op) K:=by
 unfold WGD DG DO
 cases op<;>first
  |(simp[qg_]at h;done)
  | (simp only
     cases hs:step S d _ with
     |none=>simp
     |some S'=>simp)
def gdd(P:Program)(ac:Bool)(x:V)(want:Bool)(d:Nat)(op:AOp)(S:St)(K:St->Prop):Prop:=match gB x want with
 |some true=>WGD P ac ⟨.t d,op,none⟩ S K
 |some false=>K { S with tm:=upd S.tm d (.tup []) }
 |none=>False
@[simp] theorem WGD_some (ac : Bool) (d : Nat) (op : AOp) (t : Nat) (want : Bool) (S : St) (K : St → Prop) : WGD P ac ⟨.t d, op, some (t, want)⟩ S K = gdd P ac (S.tm t) want d op S K := by
  unfold WGD DG gdd
  simp only
  cases hx:gB (S.tm t) want with
  |none=>simp
  | some go =>
    cases go
    .simp only[yya_,exists_eq_left',yyi_,if_false,wV_]
    .simp only[yya_,exists_eq_left',if_true]
     rfl
@[simp] theorem gdd_tt (ac:Bool) (d:Nat) (op:AOp) (S:St) (K:St->Prop):gdd P ac (.s (.bool true)) true d op S K=WGD P ac ⟨.t d,op,none⟩ S K:=rfl
@[simp] theorem gdd_ff (ac:Bool) (d:Nat) (op:AOp) (S:St) (K:St->Prop):gdd P ac (.s (.bool false)) false d op S K=WGD P ac ⟨.t d,op,none⟩ S K:=rfl
@[simp] theorem gdd_tf (ac:Bool) (d:Nat) (op:AOp) (S:St) (K:St->Prop):gdd P ac (.s (.bool true)) false d op S K=K { S with tm:=upd S.tm d (.tup []) }:=rfl
@[simp] theorem gdd_ft (ac:Bool) (d:Nat) (op:AOp) (S:St) (K:St->Prop):gdd P ac (.s (.bool false)) true d op S K=K { S with tm:=upd S.tm d (.tup []) }:=rfl
@[simp] theorem gdd_no (ac:Bool) (want:Bool) (d:Nat) (op:AOp) (S:St) (K:St->Prop):gdd P ac (.tup []) want d op S K=K { S with tm:=upd S.tm d (.tup []) }:=rfl
@[simp] theorem WGD_mv (ac:Bool) (d:Dst) (x:Opd) (S:St) (K:St->Prop):WGD P ac ⟨d,.mv x,none⟩ S K=ob (step S d (.mv x)) K:=zs_ ac d _ S K rfl
@[simp] theorem WGD_asg (ac:Bool) (d:Dst) (x:Opd) (S:St) (K:St->Prop):WGD P ac ⟨d,.asg x,none⟩ S K=ob (step S d (.asg x)) K:=zs_ ac d _ S K rfl
@[simp] theorem WGD_pick (ac:Bool) (d:Dst) (c a b:Opd) (S:St) (K:St->Prop):WGD P ac ⟨d,.pick c a b,none⟩ S K=ob (step S d (.pick c a b)) K:=zs_ ac d _ S K rfl
@[simp] theorem WGD_bin (ac:Bool) (d:Dst) (o:BinOp) (x y:Opd) (S:St) (K:St->Prop):WGD P ac ⟨d,.bin o x y,none⟩ S K=ob (step S d (.bin o x y)) K:=zs_ ac d _ S K rfl
@[simp] theorem WGD_bib (ac:Bool) (d:Dst) (o:BinOp) (x y:Opd) (S:St) (K:St->Prop):WGD P ac ⟨d,.bib o x y,none⟩ S K=ob (step S d (.bib o x y)) K:=zs_ ac d _ S K rfl
@[simp] theorem WGD_un (ac:Bool) (d:Dst) (o:UnOp) (x:Opd) (S:St) (K:St->Prop):WGD P ac ⟨d,.un o x,none⟩ S K=ob (step S d (.un o x)) K:=zs_ ac d _ S K rfl
@[simp] theorem WGD_conv (ac:Bool) (d:Dst) (k:IntKind) (x:Opd) (S:St) (K:St->Prop):WGD P ac ⟨d,.conv k x,none⟩ S K=ob (step S d (.conv k x)) K:=zs_ ac d _ S K rfl
@[simp] theorem WGD_b2s (ac:Bool) (d:Dst) (x:Opd) (S:St) (K:St->Prop):WGD P ac ⟨d,.b2s x,none⟩ S K=ob (step S d (.b2s x)) K:=zs_ ac d _ S K rfl
@[simp] theorem WGD_ex (ac:Bool) (d:Dst) (k:Ex) (x y:Opd) (S:St) (K:St->Prop):WGD P ac ⟨d,.ex k x y,none⟩ S K=ob (step S d (.ex k x y)) K:=zs_ ac d _ S K rfl
@[simp] theorem WGD_cvb (ac:Bool) (d:Dst) (x:Opd) (S:St) (K:St->Prop):WGD P ac ⟨d,.cvb x,none⟩ S K=ob (step S d (.cvb x)) K:=zs_ ac d _ S K rfl
@[simp] theorem WGD_mkf (ac:Bool) (d:Dst) (f:Nat) (x:Opd) (S:St) (K:St->Prop):WGD P ac ⟨d,.mkf f x,none⟩ S K=ob (step S d (.mkf f x)) K:=zs_ ac d _ S K rfl
@[simp] theorem WGD_nilck (ac:Bool) (d:Dst) (x:Opd) (S:St) (K:St->Prop):WGD P ac ⟨d,.nilck x,none⟩ S K=ob (step S d (.nilck x)) K:=zs_ ac d _ S K rfl
@[simp] theorem WGD_ext (ac:Bool) (d:Dst) (t i:Nat) (S:St) (K:St->Prop):WGD P ac ⟨d,.ext t i,none⟩ S K=ob (step S d (.ext t i)) K:=zs_ ac d _ S K rfl
@[simp] theorem WGD_bld (ac:Bool) (d:Dst) (zs:List Value) (ps:List (Nat×Nat×Opd)) (S:St) (K:St->Prop):WGD P ac ⟨d,.bld zs ps,none⟩ S K=ob (step S d (.bld zs ps)) K:=zs_ ac d _ S K rfl
@[simp] theorem WGD_bls (ac:Bool) (d:Dst) (e z:Nat) (zero:Value) (m:Nat) (ps:List (Nat×Opd)) (S:St) (K:St->Prop):WGD P ac ⟨d,.bls e z zero m ps,none⟩ S K=ob (step S d (.bls e z zero m ps)) K:=zs_ ac d _ S K rfl
@[simp] theorem WGD_allo (ac:Bool) (d:Dst) (zs:List Value) (S:St) (K:St->Prop):WGD P ac ⟨d,.allo zs,none⟩ S K=ob (step S d (.allo zs)) K:=zs_ ac d _ S K rfl
@[simp] theorem WGD_box (ac:Bool) (d:Dst) (m:Nat) (x:Opd) (S:St) (K:St->Prop):WGD P ac ⟨d,.box m x,none⟩ S K=ob (step S d (.box m x)) K:=zs_ ac d _ S K rfl
@[simp] theorem WGD_ld (ac:Bool) (d:Dst) (m:Nat) (ag:Bool) (p:Opd) (S:St) (K:St->Prop):WGD P ac ⟨d,.ld m ag p,none⟩ S K=ob (step S d (.ld m ag p)) K:=zs_ ac d _ S K rfl
@[simp] theorem WGD_st (ac:Bool) (d:Dst) (m:Nat) (p x:Opd) (S:St) (K:St->Prop):WGD P ac ⟨d,.st m p x,none⟩ S K=ob (step S d (.st m p x)) K:=zs_ ac d _ S K rfl
@[simp] theorem WGD_fa (ac:Bool) (d:Dst) (off:Nat) (p:Opd) (S:St) (K:St->Prop):WGD P ac ⟨d,.fa off p,none⟩ S K=ob (step S d (.fa off p)) K:=zs_ ac d _ S K rfl
@[simp] theorem WGD_ia (ac:Bool) (d:Dst) (z:Nat) (x i:Opd) (S:St) (K:St->Prop):WGD P ac ⟨d,.ia z x i,none⟩ S K=ob (step S d (.ia z x i)) K:=zs_ ac d _ S K rfl
@[simp] theorem WGD_iaa (ac:Bool) (d:Dst) (z len:Nat) (x i:Opd) (S:St) (K:St->Prop):WGD P ac ⟨d,.iaa z len x i,none⟩ S K=ob (step S d (.iaa z len x i)) K:=zs_ ac d _ S K rfl
@[simp] theorem WGD_sl (ac:Bool) (d:Dst) (e z:Nat) (x:Opd) (lo hi mx:Option Opd) (S:St) (K:St->Prop):WGD P ac ⟨d,.sl e z x lo hi mx,none⟩ S K=ob (step S d (.sl e z x lo hi mx)) K:=zs_ ac d _ S K rfl
@[simp] theorem WGD_ssl (ac:Bool) (d:Dst) (x:Opd) (lo hi:Option Opd) (S:St) (K:St->Prop):WGD P ac ⟨d,.ssl x lo hi,none⟩ S K=ob (step S d (.ssl x lo hi)) K:=zs_ ac d _ S K rfl
@[simp] theorem WGD_app (ac:Bool) (d:Dst) (e z b:Nat) (x y:Opd) (S:St) (K:St->Prop):WGD P ac ⟨d,.app e z b x y,none⟩ S K=ob (step S d (.app e z b x y)) K:=zs_ ac d _ S K rfl
@[simp] theorem WGD_len (ac:Bool) (d:Dst) (x:Opd) (S:St) (K:St->Prop):WGD P ac ⟨d,.len x,none⟩ S K=ob (step S d (.len x)) K:=zs_ ac d _ S K rfl
@[simp] theorem WGD_slen (ac:Bool) (d:Dst) (x:Opd) (S:St) (K:St->Prop):WGD P ac ⟨d,.slen x,none⟩ S K=ob (step S d (.slen x)) K:=zs_ ac d _ S K rfl
@[simp] theorem WGD_mk (ac:Bool) (d:Dst) (e z b:Nat) (zero:Value) (m c:Opd) (S:St) (K:St->Prop):WGD P ac ⟨d,.mk e z b zero m c,none⟩ S K=ob (step S d (.mk e z b zero m c)) K:=zs_ ac d _ S K rfl
@[simp] theorem WGD_mnx (ac:Bool) (d:Dst) (mx:Bool) (x y:Opd) (S:St) (K:St->Prop):WGD P ac ⟨d,.mnx mx x y,none⟩ S K=ob (step S d (.mnx mx x y)) K:=zs_ ac d _ S K rfl
def WKD(P:Program)(ac:Bool)(S:St)(d f:Nat)(args:List Opd)(K:St->Prop):Prop:=WGD P ac ⟨.t d,.call f args,none⟩ S K
@[simp] theorem WGD_call (ac:Bool) (d f:Nat) (args:List Opd) (S:St) (K:St->Prop):WGD P ac ⟨.t d,.call f args,none⟩ S K=WKD P ac S d f args K:=rfl
def WCD(P:Program)(S:St)(d f:Nat)(K:St->Prop)(r:List V×(Nat->V)):Prop:=(r.1.map toImm).all immA=true/\∃R,PC P f (r.1.map toImm) (fun r=>r=R)/\K { S with tm:=upd r.2 d R }
def WAD(P:Program)(S:St)(d f:Nat)(K:St->Prop)(r:List V×(Nat->V)):Prop:=∃mask sel args bs R bs',handOk S.bx r.1 mask sel args bs/\AC P f args bs (fun r b=>r=R/\b=bs')/\(xY_ sel bs'=true/\pV_ r.1 sel=true)/\K (aftS { S with tm:=r.2 } d R sel bs')
theorem zB_{S:St}{d f:Nat}{args:List Opd}{K:St->Prop}(h:ob (takes S S.tm args) (WCD P S d f K)):WKD P false S d f args K:=by
 cases hk:takes S S.tm args with
 |none=>rw[hk]at h;exact h.elim
 | some r =>
   rw[hk]at h
   obtain⟨h1,R,h2,h3⟩:=h
   exact⟨_,⟨d,rfl,.inl ⟨r.1,r.2,hk,h1,R,h2,rfl⟩⟩,h3⟩
theorem rE_{S:St}{d f:Nat}{args:List Opd}{K:St->Prop}(h:ob (takes S S.tm args) (WAD P S d f K)):WKD P true S d f args K:=by
 cases hk:takes S S.tm args with
 |none=>rw[hk]at h;exact h.elim
 | some r =>
   rw[hk]at h
   obtain⟨mask,sel,args',bs,R,bs',h1,h2,h3,h4⟩:=h
   exact⟨_,⟨d,rfl,r.1,r.2,hk,mask,sel,args',bs,R,bs',h1,h2,h3,rfl⟩,h4⟩
theorem y8_{S:St}{d f:Nat}{K:St->Prop}{ys:List V}{tm1:Nat->V}{args:List V}{R:V}(hc:PC P f args (fun r=>r=R))(ha:ys.map toImm=args)(hi:args.all immA=true)(hk:K { S with tm:=upd tm1 d R }):WCD P S d f K (ys,tm1):=by
 subst ha
 exact⟨hi,R,hc,hk⟩
theorem la_{S:St}{d f:Nat}{K:St->Prop}{ys:List V}{tm1:Nat->V}{mask:List Bool}{sel:List Nat}{args:List V}{bs:List (List V)}{R:V}{bs':List (List V)}(hc:AC P f args bs (fun r b=>r=R/\b=bs'))(ho:handOk S.bx ys mask sel args bs)(hb:xY_ sel bs'=true)
 (hk:K (aftS { S with tm:=tm1 } d R sel bs')) (hs:pV_ ys sel=true:=by rfl):WAD P S d f K (ys,tm1):=⟨mask,sel,args,bs,R,bs',ho,hc,⟨hb,hs⟩,hk⟩
end
attribute [simp] cps p7_ kN_ ox_ lenT appR St.frzTo FULL FRZ ldC sepC vpOk ldV BIG reep xL_ yu_ n7_ immA St.lendN uG_ p5_ apOk tR_ sepO sepV ldOk tP_ gB exV eqC eqCs on_ obc ldA oS_ un_ wP_ cvbV zM_ yG_ dynOk zE_ opdS vm_ zm_ noVO y4_ borL wp_ bor bors isS tU_ sW_ aftS ren renA renL fwd zz_ xY_ yH_ step za_ stV mvV mvD ldD iaV iaaV slV sslV zr_ tx_ appV mkV w9_ kV_ xT_ St.adopt St.lend St.freeze St.setAt St.at St.row takes ys_ v5_ give ym_ yW_ zL_ spentL spent ya_ z6_ ofC cont binS binB unS yK_ yg_ seens yc_ xf_ cellsOf u5_ xe_ sets ok_ St.place St.places yL_ oR_ yi_ immL toImm flat vi_ rvVs rvV rvAt s0_ resL wb_ dupF locK ptrA ptrK yX_ wkn tE_ pack AX.isEnd St0 immA yd_
@[simp] theorem locky_s (v:Value):locky (.s v)=false:=rfl
@[simp] theorem locky_list (z:Nat) (xs:List V):locky (.list z xs)=false:=rfl
@[simp] theorem locky_ownT (e z:Nat) (xs:List V):locky (.own true e z xs)=true:=rfl
@[simp] theorem locky_ownF (e z:Nat) (xs:List V):locky (.own false e z xs)=true:=rfl
@[simp] theorem locky_lent (d e0 e z:Nat) (xs:List V):locky (.lent d e0 e z xs)=true:=rfl
@[simp] theorem locky_agg (cs:List V):locky (.agg cs)=false:=rfl
@[simp] theorem locky_tup (cs:List V):locky (.tup cs)=false:=rfl
@[simp] theorem locky_ptr (b o:Nat):locky (.ptr b o)=false:=rfl
@[simp] theorem locky_ip (cs:List V):locky (.ip cs)=false:=rfl
@[simp] theorem locky_view (l:Loc) (e:Nat):locky (.view l e)=false:=rfl
@[simp] theorem locky_sview (l:Loc) (e lo m:Nat):locky (.sview l e lo m)=false:=rfl
@[simp] theorem locky_vp (l:Loc) (e i q:Nat):locky (.vp l e i q)=false:=rfl
@[simp] theorem locky_no  : locky (.no )=false:=rfl
@[simp] theorem locky_gone  : locky (.gone )=true:=rfl
@[simp] theorem storable_s (v:Value):zg_ (.s v)=true:=rfl
@[simp] theorem storable_list (z:Nat) (xs:List V):zg_ (.list z xs)=true:=rfl
@[simp] theorem storable_ownT (e z:Nat) (xs:List V):zg_ (.own true e z xs)=true:=rfl
@[simp] theorem storable_ownF (e z:Nat) (xs:List V):zg_ (.own false e z xs)=decide (e=FULL):=rfl
@[simp] theorem storable_lent (d e0 e z:Nat) (xs:List V):zg_ (.lent d e0 e z xs)=false:=rfl
@[simp] theorem storable_agg (cs:List V):zg_ (.agg cs)=false:=rfl
@[simp] theorem storable_tup (cs:List V):zg_ (.tup cs)=false:=rfl
@[simp] theorem storable_ptr (b o:Nat):zg_ (.ptr b o)=true:=rfl
@[simp] theorem storable_ip (cs:List V):zg_ (.ip cs)=false:=rfl
@[simp] theorem storable_view (l:Loc) (e:Nat):zg_ (.view l e)=false:=rfl
@[simp] theorem storable_sview (l:Loc) (e lo m:Nat):zg_ (.sview l e lo m)=false:=rfl
@[simp] theorem storable_vp (l:Loc) (e i q:Nat):zg_ (.vp l e i q)=false:=rfl
@[simp] theorem storable_no  : zg_ (.no )=false:=rfl
@[simp] theorem storable_gone  : zg_ (.gone )=false:=rfl
@[simp] theorem known_s (v:Value):y7_ (.s v)=true:=rfl
@[simp] theorem known_list (z:Nat) (xs:List V):y7_ (.list z xs)=true:=rfl
@[simp] theorem known_ownT (e z:Nat) (xs:List V):y7_ (.own true e z xs)=true:=rfl
@[simp] theorem known_ownF (e z:Nat) (xs:List V):y7_ (.own false e z xs)=true:=rfl
@[simp] theorem known_lent (d e0 e z:Nat) (xs:List V):y7_ (.lent d e0 e z xs)=true:=rfl
@[simp] theorem known_agg (cs:List V):y7_ (.agg cs)=true:=rfl
@[simp] theorem known_tup (cs:List V):y7_ (.tup cs)=true:=rfl
@[simp] theorem known_ptr (b o:Nat):y7_ (.ptr b o)=true:=rfl
@[simp] theorem known_ip (cs:List V):y7_ (.ip cs)=true:=rfl
@[simp] theorem known_view (l:Loc) (e:Nat):y7_ (.view l e)=true:=rfl
@[simp] theorem known_sview (l:Loc) (e lo m:Nat):y7_ (.sview l e lo m)=true:=rfl
@[simp] theorem known_vp (l:Loc) (e i q:Nat):y7_ (.vp l e i q)=true:=rfl
@[simp] theorem known_no  : y7_ (.no )=false:=rfl
@[simp] theorem known_gone  : y7_ (.gone )=false:=rfl
@[simp] theorem immC_s (v:Value):immC (.s v)=true:=rfl
@[simp] theorem immC_list (z:Nat) (xs:List V):immC (.list z xs)=true:=rfl
@[simp] theorem immC_ownT (e z:Nat) (xs:List V):immC (.own true e z xs)=false:=rfl
@[simp] theorem immC_ownF (e z:Nat) (xs:List V):immC (.own false e z xs)=false:=rfl
@[simp] theorem immC_lent (d e0 e z:Nat) (xs:List V):immC (.lent d e0 e z xs)=false:=rfl
@[simp] theorem immC_agg (cs:List V):immC (.agg cs)=false:=rfl
@[simp] theorem immC_tup (cs:List V):immC (.tup cs)=false:=rfl
@[simp] theorem immC_ptr (b o:Nat):immC (.ptr b o)=false:=rfl
@[simp] theorem immC_ip (cs:List V):immC (.ip cs)=false:=rfl
@[simp] theorem immC_view (l:Loc) (e:Nat):immC (.view l e)=false:=rfl
@[simp] theorem immC_sview (l:Loc) (e lo m:Nat):immC (.sview l e lo m)=false:=rfl
@[simp] theorem immC_vp (l:Loc) (e i q:Nat):immC (.vp l e i q)=false:=rfl
@[simp] theorem immC_no  : immC (.no )=false:=rfl
@[simp] theorem immC_gone  : immC (.gone )=false:=rfl
@[simp] theorem cellK_s (n:Nat) (v:Value):zV_ n (.s v)=true:=rfl
@[simp] theorem cellK_list (n:Nat) (z:Nat) (xs:List V):zV_ n (.list z xs)=true:=rfl
@[simp] theorem cellK_ownT (n:Nat) (e z:Nat) (xs:List V):zV_ n (.own true e z xs)=true:=rfl
@[simp] theorem cellK_ownF (n:Nat) (e z:Nat) (xs:List V):zV_ n (.own false e z xs)=true:=rfl
@[simp] theorem cellK_lent (n:Nat) (d e0 e z:Nat) (xs:List V):zV_ n (.lent d e0 e z xs)=false:=rfl
@[simp] theorem cellK_agg (n:Nat) (cs:List V):zV_ n (.agg cs)=false:=rfl
@[simp] theorem cellK_tup (n:Nat) (cs:List V):zV_ n (.tup cs)=false:=rfl
@[simp] theorem cellK_ptr (n:Nat) (b o:Nat):zV_ n (.ptr b o)=decide (b<n):=rfl
@[simp] theorem cellK_ip (n:Nat) (cs:List V):zV_ n (.ip cs)=true:=rfl
@[simp] theorem cellK_view (n:Nat) (l:Loc) (e:Nat):zV_ n (.view l e)=true:=rfl
@[simp] theorem cellK_sview (n:Nat) (l:Loc) (e lo m:Nat):zV_ n (.sview l e lo m)=true:=rfl
@[simp] theorem cellK_vp (n:Nat) (l:Loc) (e i q:Nat):zV_ n (.vp l e i q)=true:=rfl
@[simp] theorem cellK_no (n:Nat)  : zV_ n (.no )=true:=rfl
@[simp] theorem cellK_gone (n:Nat)  : zV_ n (.gone )=true:=rfl
@[simp] theorem cellV_s (n:Nat) (v:Value):x1_ n (.s v)=true:=rfl
@[simp] theorem cellV_list (n:Nat) (z:Nat) (xs:List V):x1_ n (.list z xs)=true:=rfl
@[simp] theorem cellV_ownT (n:Nat) (e z:Nat) (xs:List V):x1_ n (.own true e z xs)=true:=rfl
@[simp] theorem cellV_ownF (n:Nat) (e z:Nat) (xs:List V):x1_ n (.own false e z xs)=true:=rfl
@[simp] theorem cellV_lent (n:Nat) (d e0 e z:Nat) (xs:List V):x1_ n (.lent d e0 e z xs)=false:=rfl
@[simp] theorem cellV_agg (n:Nat) (cs:List V):x1_ n (.agg cs)=cs.all immC:=rfl
@[simp] theorem cellV_tup (n:Nat) (cs:List V):x1_ n (.tup cs)=false:=rfl
@[simp] theorem cellV_ptr (n:Nat) (b o:Nat):x1_ n (.ptr b o)=decide (b<n):=rfl
@[simp] theorem cellV_ip (n:Nat) (cs:List V):x1_ n (.ip cs)=true:=rfl
@[simp] theorem cellV_view (n:Nat) (l:Loc) (e:Nat):x1_ n (.view l e)=true:=rfl
@[simp] theorem cellV_sview (n:Nat) (l:Loc) (e lo m:Nat):x1_ n (.sview l e lo m)=true:=rfl
@[simp] theorem cellV_vp (n:Nat) (l:Loc) (e i q:Nat):x1_ n (.vp l e i q)=true:=rfl
@[simp] theorem cellV_no (n:Nat)  : x1_ n (.no )=true:=rfl
@[simp] theorem cellV_gone (n:Nat)  : x1_ n (.gone )=true:=rfl
@[simp] theorem simpleV_s (n:Nat) (v:Value):zQ_ n (.s v)=true:=rfl
@[simp] theorem simpleV_list (n:Nat) (z:Nat) (xs:List V):zQ_ n (.list z xs)=true:=rfl
@[simp] theorem simpleV_ownT (n:Nat) (e z:Nat) (xs:List V):zQ_ n (.own true e z xs)=false:=rfl
@[simp] theorem simpleV_ownF (n:Nat) (e z:Nat) (xs:List V):zQ_ n (.own false e z xs)=false:=rfl
@[simp] theorem simpleV_lent (n:Nat) (d e0 e z:Nat) (xs:List V):zQ_ n (.lent d e0 e z xs)=false:=rfl
@[simp] theorem simpleV_agg (n:Nat) (cs:List V):zQ_ n (.agg cs)=cs.all immC:=rfl
@[simp] theorem simpleV_tup (n:Nat) (cs:List V):zQ_ n (.tup cs)=false:=rfl
@[simp] theorem simpleV_ptr (n:Nat) (b o:Nat):zQ_ n (.ptr b o)=decide (b<n):=rfl
@[simp] theorem simpleV_ip (n:Nat) (cs:List V):zQ_ n (.ip cs)=false:=rfl
@[simp] theorem simpleV_view (n:Nat) (l:Loc) (e:Nat):zQ_ n (.view l e)=false:=rfl
@[simp] theorem simpleV_sview (n:Nat) (l:Loc) (e lo m:Nat):zQ_ n (.sview l e lo m)=false:=rfl
@[simp] theorem simpleV_vp (n:Nat) (l:Loc) (e i q:Nat):zQ_ n (.vp l e i q)=false:=rfl
@[simp] theorem simpleV_no (n:Nat)  : zQ_ n (.no )=false:=rfl
@[simp] theorem simpleV_gone (n:Nat)  : zQ_ n (.gone )=false:=rfl
@[simp] theorem tmL_nil (u:Nat):tmL [] u=.no:=rfl
@[simp] theorem tmL_cons (t:Nat) (x:V) (r:List (Nat×V)) (u:Nat):tmL ((t,x)::r) u=if u=t then x else tmL r u:=rfl
def lq(keep drop:List Nat)(nb:Nat)(Inv:Nat->St->Prop)(m:Nat)(Q:AX->St->Prop):AX->St->Prop:=fun e S=>match e with
 |.normal=>tE_ keep drop nb S=true/\∃m',m'<m/\Inv m' (wkn keep drop nb S)
 |e=>Q e S
@[simp] theorem lq_normal (keep drop:List Nat) (nb:Nat) (Inv:Nat->St->Prop) (m:Nat) (Q:AX->St->Prop) (S:St):lq keep drop nb Inv m Q .normal S=(tE_ keep drop nb S=true/\∃m',m'<m/\Inv m' (wkn keep drop nb S)):=rfl
@[simp] theorem lq_exit (keep drop:List Nat) (nb:Nat) (Inv:Nat->St->Prop) (m:Nat) (Q:AX->St->Prop) (S:St) (id:Nat):lq keep drop nb Inv m Q (.exit id) S=Q (.exit id) S:=rfl
@[simp] theorem lq_ret (keep drop:List Nat) (nb:Nat) (Inv:Nat->St->Prop) (m:Nat) (Q:AX->St->Prop) (S:St):lq keep drop nb Inv m Q .ret S=Q .ret S:=rfl
@[simp] theorem lq_goto (keep drop:List Nat) (nb:Nat) (Inv:Nat->St->Prop) (m:Nat) (Q:AX->St->Prop) (S:St) (l:Nat):lq keep drop nb Inv m Q (.goto l) S=Q (.goto l) S:=rfl
theorem zi_{P:Program}{F:Fr}{n:Nat}{c:ACode}{S:St}{Q:AX->St->Prop}(keep drop:List Nat)(nb:Nat)(hnb:n<=nb)(Inv:Nat->St->Prop)(m0:Nat)(h0:tE_ keep drop nb S=true/\Inv m0 (wkn keep drop nb S))
 (hr:∀m S,Inv m S->W P F n c S (lq keep drop nb Inv m Q)):W P F n (.loop c) S Q:=jz_ keep drop nb hnb Inv m0 h0 hr
def endP(rvs:List RV)(q:V->Prop)(x:AX)(S:St):Prop:=x.isEnd=true/\RetP rvs q S
def retQ(S:St)(q:V->Prop)(r:List V×List Loc):Prop:=wb_ 0 S r.1 r.2=true/\q (pack r.1)
theorem nz_(rvs:List RV)(q:V->Prop)(S:St):RetP rvs q S=ob (rvVs S rvs) (retQ S q):=by
 unfold RetP
 cases rvVs S rvs<;>rfl
@[simp] theorem endP_ret (rvs:List RV) (q:V->Prop) (S:St):endP rvs q .ret S=ob (rvVs S rvs) (retQ S q):=by simp[endP,nz_]
@[simp] theorem endP_normal (rvs:List RV) (q:V->Prop) (S:St):endP rvs q .normal S=ob (rvVs S rvs) (retQ S q):=by simp[endP,nz_]
@[simp] theorem retQ_at (S:St) (q:V->Prop) (ys:List V) (ls:List Loc):retQ S q (ys,ls)=(wb_ 0 S ys ls=true/\q (pack ys)):=rfl
def endA(n:Nat)(rvs:List RV)(q:V->List (List V)->Prop)(x:AX)(S:St):Prop:=x.isEnd=true/\vn_ n rvs q S
def retA(n:Nat)(S:St)(q:V->List (List V)->Prop)(r:List V×List Loc):Prop:=∃m,n<=m/\wb_ m S r.1 r.2=true/\q (pack r.1) (S.bx.take m)
theorem vy_(n:Nat)(rvs:List RV)(q:V->List (List V)->Prop)(S:St):vn_ n rvs q S=ob (rvVs S rvs) (retA n S q):=by
 unfold vn_
 cases rvVs S rvs<;>rfl
@[simp] theorem endA_ret (n:Nat) (rvs:List RV) (q:V->List (List V)->Prop) (S:St):endA n rvs q .ret S=ob (rvVs S rvs) (retA n S q):=by simp[endA,vy_]
@[simp] theorem endA_normal (n:Nat) (rvs:List RV) (q:V->List (List V)->Prop) (S:St):endA n rvs q .normal S=ob (rvVs S rvs) (retA n S q):=by simp[endA,vy_]
theorem zJ_{n:Nat}{S:St}{q:V->List (List V)->Prop}{ys:List V}{ls:List Loc}(m:Nat)(h:n<=m/\wb_ m S ys ls=true/\q (pack ys) (S.bx.take m)):retA n S q (ys,ls):=⟨m,h⟩
theorem sM_{P:Program}{F:Fr}{f np:Nat}{ac:ACode}{rvs:List RV}(h:ze_ P f F=some (np,zh_ ac,rvs)/\z9_ ac=true)(hm:P.follows .mixedOrders=true){args:List V}(hl:args.length=np){bs:List (List V)}{Q:V->List (List V)->Prop}
 (hw:W P F bs.length ac (St0 F args bs) (endA bs.length rvs Q)):AC P f args bs Q:=iY_ h hm hl hw
theorem zn_{P:Program}{F:Fr}{f np:Nat}{ac:ACode}{rvs:List RV}(h:ze_ P f F=some (np,zh_ ac,rvs)/\z9_ ac=true)(hm:P.follows .mixedOrders=true){args:List V}(hl:args.length=np){q:V->Prop}
 (hw:W P F 0 ac (St0 F args []) (endP rvs q)):PC P f args q:=hp_ h hm hl hw
end
section
def nilL(x y:V):Prop:=x=y\/(x=.s (.slice none 0 0)/\∃z,y=.list z [])
def kA_:List V->List V->Prop
 |[],[]=>True
 |x::r,y::s=>nilL x y/\kA_ r s
 |_,_=>False
def nilA(x y:V):Prop :=
 match x,y with
 |.agg cs,.agg ds=>kA_ cs ds
 |x,y=>nilL x y
def ie_:List V->List V->Prop
 |[],[]=>True
 |x::r,y::s=>nilA x y/\ie_ r s
 |_,_=>False
theorem qb_{g:Gh}{w:World}{x y:V}{v:Value}(h:nilL x y)(hr:Rep g w x v):Rep g w y v:=by
 rcases h with rfl|⟨rfl,z,rfl⟩
 .exact hr
 .cases hr
  exact .list (fun _=>undef) (zzl_ _) (zzn_ _) (fun _=>rfl) (by simp) (by simp[flat]) (fun j hj=>by simp[flat]at hj) (fun j u hu=>by simp[flat]at hu)
section
variable{P:Program}
end
@[simp] theorem rg1:List.range 1=[0]:=by decide
@[simp] theorem rg2:List.range 2=[0,1]:=by decide
@[simp] theorem rg3:List.range 3=[0,1,2]:=by decide
@[simp] theorem rg4:List.range 4=[0,1,2,3]:=by decide
@[simp] theorem rg5:List.range 5=[0,1,2,3,4]:=by decide
@[simp] theorem rg6:List.range 6=[0,1,2,3,4,5]:=by decide
@[simp] theorem rg7:List.range 7=[0,1,2,3,4,5,6]:=by decide
@[simp] theorem rg8:List.range 8=[0,1,2,3,4,5,6,7]:=by decide
@[simp] theorem rg9:List.range 9=[0,1,2,3,4,5,6,7,8]:=by decide
@[simp] theorem rg10:List.range 10=[0,1,2,3,4,5,6,7,8,9]:=by decide
@[simp] theorem rg11:List.range 11=[0,1,2,3,4,5,6,7,8,9,10]:=by decide
@[simp] theorem rg12:List.range 12=[0,1,2,3,4,5,6,7,8,9,10,11]:=by decide
@[simp] theorem rg13:List.range 13=[0,1,2,3,4,5,6,7,8,9,10,11,12]:=by decide
@[simp] theorem rg14:List.range 14=[0,1,2,3,4,5,6,7,8,9,10,11,12,13]:=by decide
@[simp] theorem rg15:List.range 15=[0,1,2,3,4,5,6,7,8,9,10,11,12,13,14]:=by decide
@[simp] theorem rg16:List.range 16=[0,1,2,3,4,5,6,7,8,9,10,11,12,13,14,15]:=by decide
attribute [simp] nilL kA_ nilA ie_
end
def F6:Fr:=⟨21,[0,1,4,5,6],[]⟩
def a6:ACode :=
 (.seq (qP 0 [
 qV 2 (.c (.bool false))])
 (.seq (.seq (qP 1 [
 qN 7 (qm 0),
 qN 8 (.call 7 [(T 7)]),
 qN 9 (.un .not (T 8))])
 (.cond (T 9)
 (.seq (qP 2 [
 qN 10 (.call 8 []),
 qV 2 (T 10)])
 .ret)
 .skip))
 (.seq (qP 3 [
 qN 12 (qm 0),
 qN 13 (qm 1),
 qN 14 (.call 9 [(T 12),(T 13)]),
 qN 11 (qt 14),
 qN 15 (.ext 11 0),
 qN 16 (.ext 11 1),
 qV 3 (T 15),
 qV 4 (T 16)])
 (.seq (qP 4 [
 qN 17 (.call 8 []),
 qN 18 (qt 17),
 qG 19 18 true (qm 4),
 qN 20 (qa 18 19),
 qV 2 (T 20)])
 .ret))))
theorem c6:ze_ Try.prog 6 F6=some (2,zh_ a6,[.v 2])/\z9_ a6=true:=⟨by kernel_rfl,by kernel_rfl⟩
def F7:Fr:=⟨6,[0,2],[]⟩
def a7:ACode :=
 (.seq (qP 0 [
 qV 1 (.c (.bool false))])
 (.seq (qP 1 [
 qN 3 (qm 0),
 qN 4 (.len (T 3)),
 qN 5 (qi .leq 4 400),
 qV 1 (T 5)])
 .ret))
theorem c7:ze_ Try.prog 7 F7=some (1,zh_ a7,[.v 1])/\z9_ a7=true:=⟨by kernel_rfl,by kernel_rfl⟩
def F8:Fr:=⟨107,[0,3,4,6,7,8,9],[]⟩
def a8:ACode :=
 (.seq (qP 0 [
 qV 0 (.c (.bool false))])
 (.seq (qP 1 [
 qN 10 (.bls 3 1 (.int .i64 0) 3 [(0,(qI 3)),(1,(qI 5)),(2,(qI 6))]),
 qN 11 (.bld [(.int .i64 0),(.slice none 0 0)] [(0,1,(qI 3)),(1,1,(T 10))]),
 qN 1 (.allo [(.int .i64 0),(.slice none 0 0)]),
 qS 2 (T 1) (T 11)])
 (.seq (.reg 2 [] [
 qN 13 (.call 25 []),
 qN 14 (qL 2 1),
 qN 15 (.call 15 [(T 13),(T 14),(qI 0),(qI 3)]),
 qN 12 (qt 15),
 qN 16 (.ext 12 0),
 qN 17 (.ext 12 1),
 qN 18 (.ext 12 2),
 qN 2 (.allo qZ),
 qS 11 (T 2) (T 16),
 qV 1 (T 17),
 qV 2 (T 18)] (some [[],[],[0,1,0],[2],[3],[3],[3],[],[7,4,2,0,1,2,3,4,7],[5,8,0,1,2,3,4,5,7,8],[6,9,0,1,2,3,4,5,6,7,8,9]]) ⟨[],[5,6],[],[]⟩)
 (.seq (.seq (qP 3 [
 qN 19 (qm 2),
 qN 20 (qi .neq 19 0),
 qN 21 (qt 20),
 qG 22 21 false (qm 1),
 qG 23 21 false (.len (T 22)),
 qG 24 21 false (qi .neq 23 2),
 qN 25 (qo 21 24),
 qN 26 (qt 25),
 qG 27 26 false (qm 1),
 qG 28 26 false (.ia 4 (T 27) (qI 1)),
 qG 29 26 false (qf 1 28),
 qG 30 26 false (ql 1 29),
 qG 31 26 false (qi .neq 30 1),
 qN 32 (qo 26 31),
 qN 33 (qt 32),
 qG 34 33 false (qm 1),
 qG 35 33 false (.ia 4 (T 34) (qI 1)),
 qG 36 33 false (qf 2 35),
 qG 37 33 false (qL 2 36),
 qG 38 33 false (.bld [(.int .i64 0),(.int .i64 0)] [(0,1,(qI 1))]),
 qG 39 33 false (.ex (.eqA true [.int,.int]) (T 37) (T 38)),
 qN 40 (qo 33 39),
 qN 41 (qt 40),
 qG 42 41 false (qf 1 2),
 qG 43 41 false (ql 1 42),
 qG 44 41 false (qi .neq 43 3),
 qN 45 (qo 41 44)])
 (.cond (T 45)
 (.seq (qP 4 [
 qV 0 (.c (.bool false))])
 .ret)
 .skip))
 (.seq (.reg 5 [] [
 qN 47 (.call 25 []),
 qN 48 (qL 2 1),
 qN 49 (qm 1),
 qN 50 (.ia 4 (T 49) (qI 1)),
 qN 51 (qf 2 50),
 qN 52 (qL 2 51),
 qN 53 (.bld [(.int .i64 0),(.int .i64 0),(.int .i64 0),(.int .i64 0)] [(0,1,(qI 1)),(2,2,(T 52))]),
 qN 54 (.call 23 [(T 47),(T 48),(qI 1),(qI 0),(T 53)]),
 qN 46 (qt 54),
 qN 55 (.ext 46 0),
 qN 56 (.ext 46 1),
 qN 57 (.ext 46 2),
 qN 5 (.allo qZ),
 qS 11 (T 5) (T 55),
 qV 3 (T 56),
 qV 4 (T 57)] (some [[],[],[],[2],[3],[4],[5],[0,1,6,0],[7],[8],[8],[8],[],[12,9,7,0,1,2,3,4,5,6,7,8,9,12],[10,13,0,1,2,3,4,5,6,7,8,9,10,12,13],[11,14,0,1,2,3,4,5,6,7,8,9,10,11,12,13,14]]) ⟨[],[10,11],[],[]⟩)
 (.seq (qP 6 [
 qN 59 (qL 11 5),
 qN 60 (qL 2 1),
 qN 61 (.bld [(.int .i64 0),(.int .i64 0)] [(0,1,(qI 1)),(1,1,(qI 2))]),
 qN 62 (.bld [(.int .i64 0),(.int .i64 0),(.int .i64 0),(.int .i64 0)] [(0,1,(qI 1)),(2,2,(T 61))]),
 qN 63 (.call 23 [(T 59),(T 60),(qI 1),(qI 2),(T 62)]),
 qN 58 (qt 63),
 qN 64 (.ext 58 0),
 qN 65 (.ext 58 1),
 qN 66 (.ext 58 2),
 qS 11 (T 5) (T 64),
 qV 5 (T 65),
 qV 6 (T 66)])
 (.seq (qP 7 [
 qN 67 (qm 4),
 qN 68 (qi .eql 67 0),
 qN 69 (qt 68),
 qG 70 69 true (qm 6),
 qG 71 69 true (qi .eql 70 0),
 qN 72 (qa 69 71),
 qN 73 (qt 72),
 qG 74 73 true (qm 3),
 qG 75 73 true (.len (T 74)),
 qG 76 73 true (qi .eql 75 1),
 qN 77 (qa 73 76),
 qN 78 (qt 77),
 qG 79 78 true (qm 3),
 qG 80 78 true (.ia 4 (T 79) (qI 0)),
 qG 81 78 true (qL 4 80),
 qG 82 78 true (.bld [(.int .i64 0),(.int .i64 0),(.int .i64 0),(.int .i64 0)] [(0,1,(qI 2))]),
 qG 83 78 true (.ex (.eqA false [.int,.int,.int,.int]) (T 81) (T 82)),
 qN 84 (qa 78 83),
 qN 85 (qt 84),
 qG 86 85 true (qm 5),
 qG 87 85 true (.len (T 86)),
 qG 88 85 true (qi .eql 87 1),
 qN 89 (qa 85 88),
 qN 90 (qt 89),
 qG 91 90 true (qm 5),
 qG 92 90 true (.ia 4 (T 91) (qI 0)),
 qG 93 90 true (qL 4 92),
 qG 94 90 true (.bld [(.int .i64 0),(.int .i64 0),(.int .i64 0),(.int .i64 0)] [(0,1,(qI 3)),(1,1,(qI 2))]),
 qG 95 90 true (.ex (.eqA false [.int,.int,.int,.int]) (T 93) (T 94)),
 qN 96 (qa 90 95),
 qN 97 (qt 96),
 qG 98 97 true (qL 11 2),
 qG 99 97 true (qL 2 1),
 qG 100 97 true (.call 19 [(T 98),(T 99),(qI 0)]),
 qN 101 (qa 97 100),
 qN 102 (qt 101),
 qG 103 102 true (qL 11 5),
 qG 104 102 true (qL 2 1),
 qG 105 102 true (.call 19 [(T 103),(T 104),(qI 1)]),
 qN 106 (qa 102 105),
 qV 0 (T 106)])
 .ret)))))))
theorem c8:ze_ Try.prog 8 F8=some (0,zh_ a8,[.v 0])/\z9_ a8=true:=⟨by kernel_rfl,by kernel_rfl⟩
def F10:Fr:=⟨16,[0,1,4],[]⟩
def a10:ACode :=
 (.seq (qP 0 [
 qV 2 (qI 0)])
 (.seq (.seq (qP 1 [
 qN 5 (qm 1),
 qN 6 (qi .lss 5 1)])
 (.cond (T 6)
 (.seq (qP 2 [
 qV 2 (qI 0)])
 .ret)
 .skip))
 (.seq (qP 3 [
 qN 7 (qm 0),
 qN 8 (qm 1),
 qN 9 (qb .rem 7 8),
 qV 0 (T 9)])
 (.seq (.seq (qP 4 [
 qN 10 (qm 0),
 qN 11 (qi .lss 10 0)])
 (.cond (T 11)
 (qP 5 [
 qN 12 (qm 0),
 qN 13 (qm 1),
 qN 14 (qb .add 12 13),
 qV 0 (T 14)])
 .skip))
 (.seq (qP 6 [
 qN 15 (qm 0),
 qV 2 (T 15)])
 .ret)))))
theorem c10:ze_ Try.prog 10 F10=some (2,zh_ a10,[.v 2])/\z9_ a10=true:=⟨by kernel_rfl,by kernel_rfl⟩
def F15:Fr:=⟨105,[0,1,2,3,9,10,11,13],[]⟩
def F16:Fr:=⟨52,[0,1,2,3,9,10,11,18,24,29],[]⟩
def a16:ACode :=
 (.seq (qP 0 [
 qN 4 (.box 11 (.v 0)),
 qN 5 (.box 2 (.v 1)),
 qN 8 (.allo qZ),
 qV 4 (.c (.slice none 0 0)),
 qV 5 (qI 0)])
 (.seq (.block 0
 (.seq (qP 1 [
 qN 12 (qL 11 4),
 qN 13 (qL 2 5),
 qN 14 (qm 2),
 qN 15 (.call 20 [(T 12),(T 13),(T 14)]),
 qN 16 (.un .not (T 15)),
 qV 6 (T 16)])
 (.cond (.v 6)
 (.seq (qP 2 [
 qN 17 (.bld qZ []),
 qS 11 (T 8) (T 17),
 qV 4 (.c (.slice none 0 0)),
 qV 5 (qI 2)])
 .ret)
 (.seq (qP 3 [
 qN 19 (qL 2 5),
 qN 20 (qm 3),
 qN 21 (.call 36 [(T 19),(T 20)]),
 qN 22 (.un .not (T 21)),
 qV 7 (T 22)])
 (.cond (.v 7)
 (.seq (qP 4 [
 qN 23 (.bld qZ []),
 qS 11 (T 8) (T 23),
 qV 4 (.c (.slice none 0 0)),
 qV 5 (qI 1)])
 .ret)
 (.seq (qP 5 [
 qN 25 (qf 1 4),
 qN 26 (ql 1 25),
 qN 27 (qi .neq 26 0),
 qV 8 (T 27)])
 (.cond (.v 8)
 (.seq (qP 6 [
 qN 28 (.bld qZ []),
 qS 11 (T 8) (T 28),
 qV 4 (.c (.slice none 0 0)),
 qV 5 (qI 14)])
 .ret)
 (.seq (qP 7 [
 qN 30 (qf 0 4),
 qN 31 (ql 1 30),
 qN 32 (qi .eql 31 1073741824),
 qV 9 (T 32)])
 (.cond (.v 9)
 (.seq (qP 8 [
 qN 33 (.bld qZ []),
 qS 11 (T 8) (T 33),
 qV 4 (.c (.slice none 0 0)),
 qV 5 (qI 16)])
 .ret)
 .skip)))))))))
 (.seq (qP 9 [
 qN 34 (qL 11 4),
 qN 35 (.call 37 [(T 34)]),
 qS 11 (T 4) (T 35)])
 (.seq (qP 10 [
 qN 36 (qf 0 4),
 qN 37 (ql 1 36),
 qN 38 (qi .add 37 1),
 qN 39 (qf 0 4),
 qS 1 (T 39) (T 38)])
 (.seq (qP 11 [
 qN 40 (qf 0 4),
 qN 41 (ql 1 40),
 qN 42 (qm 2),
 qN 43 (.bld [(.int .i64 0),(.int .i64 0)] [(0,1,(T 41)),(1,1,(T 42))]),
 qN 44 (qm 3),
 qN 45 (qf 5 4),
 qS 2 (T 45) (T 43),
 qN 46 (qf 1 4),
 qS 1 (T 46) (T 44)])
 (.seq (.reg 12 [.lend (.cell 0 0) 47,.lend (.cell 0 1) 47,.lend (.cell 0 2) 47,.lend (.cell 0 3) 47,.lend (.cell 0 4) 47,.lend (.cell 0 5) 47,.lend (.cell 0 6) 47,.lend (.cell 0 7) 47,.lend (.cell 0 8) 47,.lend (.cell 0 9) 47,.lend (.cell 0 10) 47] [
 qN 47 (qL 11 4),
 qN 48 (qm 3),
 qN 49 (qf 5 4),
 qN 50 (qL 2 49),
 qN 51 (.call 38 [(T 48),(qI 1),(T 50)]),
 qS 11 (T 8) (T 47),
 qV 4 (T 51),
 qV 5 (qI 0)] (some [[],[],[],[2],[1,3],[0,4,0],[4,5,0,1,2,3,4,5],[6,0,1,2,3,4,5,6]]) ⟨[4],[],[],[]⟩)
 .ret))))))
theorem c16:ze_ Try.prog 16 F16=some (4,zh_ a16,[.c 8 11 true,.v 4,.v 5])/\z9_ a16=true:=⟨by kernel_rfl,by kernel_rfl⟩
def F17:Fr:=⟨73,[0,1,4],[]⟩
def a17:ACode :=
 (.seq (qP 0 [
 qN 2 (.box 11 (.v 0)),
 qN 3 (.box 11 (.v 1)),
 qV 2 (.c (.bool false))])
 (.seq (qP 1 [
 qN 5 (qf 0 2),
 qN 6 (ql 1 5),
 qN 7 (qf 0 3),
 qN 8 (ql 1 7),
 qN 9 (qb .eql 6 8),
 qN 10 (qt 9),
 qG 11 10 true (qf 1 2),
 qG 12 10 true (ql 1 11),
 qG 13 10 true (qf 1 3),
 qG 14 10 true (ql 1 13),
 qG 15 10 true (qb .eql 12 14),
 qN 16 (qa 10 15),
 qN 17 (qt 16),
 qG 18 17 true (qf 2 2),
 qG 19 17 true (ql 1 18),
 qG 20 17 true (qf 2 3),
 qG 21 17 true (ql 1 20),
 qG 22 17 true (qb .eql 19 21),
 qN 23 (qa 17 22),
 qN 24 (qt 23),
 qG 25 24 true (qf 3 2),
 qG 26 24 true (ql 1 25),
 qG 27 24 true (qf 3 3),
 qG 28 24 true (ql 1 27),
 qG 29 24 true (qb .eql 26 28),
 qN 30 (qa 24 29),
 qN 31 (qt 30),
 qG 32 31 true (qf 4 2),
 qG 33 31 true (ql 1 32),
 qG 34 31 true (qf 4 3),
 qG 35 31 true (ql 1 34),
 qG 36 31 true (qb .eql 33 35),
 qN 37 (qa 31 36),
 qN 38 (qt 37),
 qG 39 38 true (qf 5 2),
 qG 40 38 true (qL 2 39),
 qG 41 38 true (qf 5 3),
 qG 42 38 true (qL 2 41),
 qG 43 38 true (.ex (.eqA false [.int,.int]) (T 40) (T 42)),
 qN 44 (qa 38 43),
 qN 45 (qt 44),
 qG 46 45 true (qf 7 2),
 qG 47 45 true (ql 1 46),
 qG 48 45 true (qf 7 3),
 qG 49 45 true (ql 1 48),
 qG 50 45 true (.bib .eql (T 47) (T 49)),
 qN 51 (qa 45 50),
 qN 52 (qt 51),
 qG 53 52 true (qf 10 2),
 qG 54 52 true (ql 1 53),
 qG 55 52 true (qf 10 3),
 qG 56 52 true (ql 1 55),
 qG 57 52 true (.bib .eql (T 54) (T 56)),
 qN 58 (qa 52 57),
 qN 59 (qt 58),
 qG 60 59 true (qf 8 2),
 qG 61 59 true (ql 1 60),
 qG 62 59 true (qf 8 3),
 qG 63 59 true (ql 1 62),
 qG 64 59 true (.call 39 [(T 61),(T 63)]),
 qN 65 (qa 59 64),
 qN 66 (qt 65),
 qG 67 66 true (qf 9 2),
 qG 68 66 true (ql 1 67),
 qG 69 66 true (qf 9 3),
 qG 70 66 true (ql 1 69),
 qG 71 66 true (.call 39 [(T 68),(T 70)]),
 qN 72 (qa 66 71),
 qV 2 (T 72)])
 .ret))
theorem c17:ze_ Try.prog 17 F17=some (2,zh_ a17,[.v 2])/\z9_ a17=true:=⟨by kernel_rfl,by kernel_rfl⟩
def F18:Fr:=⟨26,[0,1,4,5],[]⟩
def a18:ACode :=
 (.seq (qP 0 [
 qV 2 (.c (.bool false))])
 (.seq (.seq (qP 1 [
 qN 6 (qm 0),
 qN 7 (.len (T 6)),
 qN 8 (qm 1),
 qN 9 (.len (T 8)),
 qN 10 (qb .neq 7 9)])
 (.cond (T 10)
 (.seq (qP 2 [
 qV 2 (.c (.bool false))])
 .ret)
 .skip))
 (.seq (.seq (qP 3 [
 qV 3 (qI 0)])
 (.block 0
 (.loop
 (.seq (.seq (qP 4 [
 qN 11 (qm 3),
 qN 12 (qm 0),
 qN 13 (.len (T 12)),
 qN 14 (qb .lss 11 13)])
 (.cond (T 14)
 .skip
 (.exit 0)))
 (.seq (.block 1
 (.seq (.reg 6 [] [
 qN 17 (qm 0),
 qN 18 (qm 3),
 qN 19 (.ia 4 (T 17) (T 18)),
 qN 20 (qL 4 19),
 qN 21 (qm 1),
 qN 22 (qm 3),
 qN 23 (.ia 4 (T 21) (T 22)),
 qN 24 (qL 4 23),
 qN 25 (.ex (.eqA true [.int,.int,.int,.int]) (T 20) (T 24))] (some [[],[],[0,1],[2],[],[],[4,5],[6],[3,7]]) ⟨[],[],[],[]⟩)
 (.cond (T 25)
 (.seq (qP 7 [
 qV 2 (.c (.bool false))])
 .ret)
 .skip)))
 (qP 5 [
 qN 15 (qm 3),
 qN 16 (qi .add 15 1),
 qV 3 (T 16)]))))))
 (.seq (qP 8 [
 qV 2 (.c (.bool true))])
 .ret))))
theorem c18:ze_ Try.prog 18 F18=some (2,zh_ a18,[.v 2])/\z9_ a18=true:=⟨by kernel_rfl,by kernel_rfl⟩
def F19:Fr:=⟨35,[0,1,2,6],[]⟩
def a19:ACode :=
 (.seq (qP 0 [
 qN 3 (.box 11 (.v 0)),
 qN 4 (.box 2 (.v 1)),
 qV 3 (.c (.bool false))])
 (.seq (.seq (qP 1 [
 qN 7 (qL 2 4),
 qN 8 (.call 40 [(T 7)]),
 qN 9 (.un .not (T 8)),
 qN 10 (qt 9),
 qG 11 10 false (qL 2 4),
 qG 12 10 false (qm 2),
 qG 13 10 false (.call 41 [(T 11),(T 12)]),
 qG 14 10 false (.un .not (T 13)),
 qN 15 (qo 10 14),
 qN 16 (qt 15),
 qG 17 16 false (qf 0 3),
 qG 18 16 false (ql 1 17),
 qG 19 16 false (qi .lss 18 0),
 qN 20 (qo 16 19),
 qN 21 (qt 20),
 qG 22 21 false (qf 0 3),
 qG 23 21 false (ql 1 22),
 qG 24 21 false (qi .gtr 23 1073741824),
 qN 25 (qo 21 24)])
 (.cond (T 25)
 (.seq (qP 2 [
 qV 3 (.c (.bool false))])
 .ret)
 .skip))
 (.seq (qP 3 [
 qN 26 (qL 11 3),
 qN 27 (qL 2 4),
 qN 28 (qm 2),
 qN 29 (.call 42 [(T 26),(T 27),(T 28)]),
 qN 30 (qt 29),
 qG 31 30 true (qL 11 3),
 qG 32 30 true (qL 2 4),
 qG 33 30 true (.call 43 [(T 31),(T 32)]),
 qN 34 (qa 30 33),
 qV 3 (T 34)])
 .ret)))
theorem c19:ze_ Try.prog 19 F19=some (3,zh_ a19,[.v 3])/\z9_ a19=true:=⟨by kernel_rfl,by kernel_rfl⟩
def F20:Fr:=⟨230,[0,1,2,6,13,45,91,127,7,8,12],[]⟩
def F21:Fr:=⟨74,[0,1,2,7,8,9,11],[]⟩
def F22:Fr:=⟨36,[0,1,2,7,8,10,17,9],[]⟩
def a22:ACode :=
 (.seq (qP 0 [
 qN 3 (.box 11 (.v 0)),
 qN 4 (.box 2 (.v 1)),
 qN 6 (.allo qZ),
 qV 3 (.c (.slice none 0 0)),
 qV 4 (qI 0)])
 (.seq (.block 0
 (.seq (qP 1 [
 qN 11 (qL 11 3),
 qN 12 (qL 2 4),
 qN 13 (qm 2),
 qN 14 (.call 20 [(T 11),(T 12),(T 13)]),
 qN 15 (.un .not (T 14)),
 qV 5 (T 15)])
 (.cond (.v 5)
 (.seq (qP 2 [
 qN 16 (.bld qZ []),
 qS 11 (T 6) (T 16),
 qV 3 (.c (.slice none 0 0)),
 qV 4 (qI 2)])
 .ret)
 (.seq (qP 3 [
 qN 18 (qf 7 3),
 qN 19 (ql 1 18),
 qN 20 (.un .not (T 19)),
 qV 6 (T 20)])
 (.cond (.v 6)
 (.seq (qP 4 [
 qN 21 (.bld qZ []),
 qS 11 (T 6) (T 21),
 qV 3 (.c (.slice none 0 0)),
 qV 4 (qI 14)])
 .ret)
 .skip)))))
 (.seq (qP 5 [
 qN 22 (qL 11 3),
 qN 23 (.call 37 [(T 22)]),
 qS 11 (T 3) (T 23)])
 (.seq (qP 6 [
 qN 24 (qf 1 3),
 qN 25 (ql 1 24),
 qN 26 (.bld [(.int .i64 0),(.int .i64 0)] []),
 qN 27 (.call 38 [(T 25),(qI 6),(T 26)]),
 qV 7 (T 27)])
 (.seq (qP 7 [
 qN 28 (.bld [(.int .i64 0),(.int .i64 0)] []),
 qN 29 (qf 1 3),
 qS 1 (T 29) (qI 0),
 qN 30 (qf 2 3),
 qS 1 (T 30) (qI 0),
 qN 31 (qf 3 3),
 qS 1 (T 31) (qI 0),
 qN 32 (qf 5 3),
 qS 2 (T 32) (T 28),
 qN 33 (qf 7 3),
 ⟨.none,.st 1 (T 33) (.c (.bool false)),none⟩])
 (.seq (qR 8 [.lend (.cell 0 0) 34,.lend (.cell 0 1) 34,.lend (.cell 0 2) 34,.lend (.cell 0 3) 34,.lend (.cell 0 4) 34,.lend (.cell 0 5) 34,.lend (.cell 0 6) 34,.lend (.cell 0 7) 34,.lend (.cell 0 8) 34,.lend (.cell 0 9) 34,.lend (.cell 0 10) 34] [
 qN 34 (qL 11 3),
 qN 35 (qm 7),
 qS 11 (T 6) (T 34),
 qV 3 (T 35),
 qV 4 (qI 0)])
 .ret))))))
theorem c22:ze_ Try.prog 22 F22=some (3,zh_ a22,[.c 6 11 true,.v 3,.v 4])/\z9_ a22=true:=⟨by kernel_rfl,by kernel_rfl⟩
def F23:Fr:=⟨108,[0,1,2,3,4,11,12,13,14,78,84],[]⟩
def F24:Fr:=⟨245,[0,1,2,3,4,11,12,13,75,17,103,136,19,165,167,178,21],[]⟩
def F25:Fr:=⟨2,[],[]⟩
def a25:ACode :=
 (.seq (qP 0 [
 qN 0 (.allo qZ)])
 (.seq (qP 1 [
 qN 1 (.bld qZ []),
 qS 11 (T 0) (T 1)])
 .ret))
theorem c25:ze_ Try.prog 25 F25=some (0,zh_ a25,[.c 0 11 true])/\z9_ a25=true:=⟨by kernel_rfl,by kernel_rfl⟩
def F26:Fr:=⟨2,[],[]⟩
def a26:ACode :=
 (.seq (qP 0 [
 qN 0 (.allo qZ)])
 (.seq (qP 1 [
 qN 1 (.bld qZ []),
 qS 11 (T 0) (T 1)])
 .ret))
theorem c26:ze_ Try.prog 26 F26=some (0,zh_ a26,[.c 0 11 true])/\z9_ a26=true:=⟨by kernel_rfl,by kernel_rfl⟩
def F27:Fr:=⟨41,[0,10,16,22,28,34],[]⟩
def a27:ACode :=
 (.seq (qP 0 [
 qN 2 (.allo [(.int .i64 0),(.slice none 0 0)])])
 (.seq (qP 1 [
 qN 3 (.allo [(.int .i64 0),(.slice none 0 0)])])
 (.seq (.seq (qP 2 [
 qN 4 (qm 0),
 qN 5 (.call 10 [(T 4),(qI 6)])])
 (.block 0
 (.seq (qP 4 [
 qN 11 (qi .eql 5 0),
 qV 1 (T 11)])
 (.cond (.v 1)
 (qP 5 [
 qN 13 (.call 57 [(qI 3)]),
 qN 12 (qt 13),
 qN 14 (.ext 12 0),
 qN 15 (.ext 12 1),
 qS 2 (T 3) (T 14)])
 (.seq (qP 6 [
 qN 17 (qi .eql 5 1),
 qV 2 (T 17)])
 (.cond (.v 2)
 (qP 7 [
 qN 19 (.call 58 [(qI 2),(qI 2)]),
 qN 18 (qt 19),
 qN 20 (.ext 18 0),
 qN 21 (.ext 18 1),
 qS 2 (T 3) (T 20)])
 (.seq (qP 8 [
 qN 23 (qi .eql 5 2),
 qV 3 (T 23)])
 (.cond (.v 3)
 (qP 9 [
 qN 25 (.call 57 [(qI 5)]),
 qN 24 (qt 25),
 qN 26 (.ext 24 0),
 qN 27 (.ext 24 1),
 qS 2 (T 3) (T 26)])
 (.seq (qP 10 [
 qN 29 (qi .eql 5 3),
 qV 4 (T 29)])
 (.cond (.v 4)
 (qP 11 [
 qN 31 (.call 59 [(qI 3)]),
 qN 30 (qt 31),
 qN 32 (.ext 30 0),
 qN 33 (.ext 30 1),
 qS 2 (T 3) (T 32)])
 (.seq (qP 12 [
 qN 35 (qi .eql 5 4),
 qV 5 (T 35)])
 (.cond (.v 5)
 (qP 13 [
 qN 37 (.call 57 [(qI 2)]),
 qN 36 (qt 37),
 qN 38 (.ext 36 0),
 qN 39 (.ext 36 1),
 qS 2 (T 3) (T 38)])
 (qP 3 [
 qN 7 (.call 58 [(qI 2),(qI 3)]),
 qN 6 (qt 7),
 qN 8 (.ext 6 0),
 qN 9 (.ext 6 1),
 qS 2 (T 3) (T 8)])))))))))))))
 (.seq (qR 14 [.lend (.cell 1 0) 40,.lend (.cell 1 1) 40] [
 qN 40 (qL 2 3),
 qS 2 (T 2) (T 40)])
 .ret))))
theorem c27:ze_ Try.prog 27 F27=some (1,zh_ a27,[.c 2 2 true])/\z9_ a27=true:=⟨by kernel_rfl,by kernel_rfl⟩
def F32:Fr:=⟨7,[0,3,4],[]⟩
def a32:ACode :=
 (.seq (qP 0 [
 qN 2 (.allo qZ),
 qV 1 (.c (.slice none 0 0)),
 qV 2 (qI 0)])
 (.seq (qP 1 [
 qN 5 (.bld qZ []),
 qN 6 (qm 0),
 qS 11 (T 2) (T 5),
 qV 1 (.c (.slice none 0 0)),
 qV 2 (T 6)])
 .ret))
theorem c32:ze_ Try.prog 32 F32=some (1,zh_ a32,[.c 2 11 true,.v 1,.v 2])/\z9_ a32=true:=⟨by kernel_rfl,by kernel_rfl⟩
def F33:Fr:=⟨9,[0,1,4],[]⟩
def a33:ACode :=
 (.seq (qP 0 [
 qV 2 (.c (.bool false))])
 (.seq (qP 1 [
 qN 5 (qm 0),
 qN 6 (qm 1),
 qN 7 (.call 60 [(T 5),(T 6)]),
 qN 8 (qi .geq 7 0),
 qV 2 (T 8)])
 .ret))
theorem c33:ze_ Try.prog 33 F33=some (2,zh_ a33,[.v 2])/\z9_ a33=true:=⟨by kernel_rfl,by kernel_rfl⟩
def F34:Fr:=⟨14,[0,2],[]⟩
def F35:Fr:=⟨19,[0,2,3,4],[]⟩
def a35:ACode :=
 (.seq (qP 0 [
 qV 1 (.c (.slice none 0 0))])
 (.seq (qP 1 [
 qV 2 (.c (.slice none 0 0))])
 (.seq (.seq (qR 2 [.own (.var 2) 3 1] [
 qN 5 (.mv (qI 0))])
 (.block 0
 (.loop
 (.seq (qP 3 [
 qN 6 (qi .lss 5 9)])
 (.seq (.cond (T 6)
 .skip
 (.exit 0))
 (.seq (.block 1
 (.seq (qP 4 [
 qN 7 (qt 5),
 qV 3 (T 7)])
 (.seq (qP 5 [
 qN 8 (qm 0),
 qN 9 (qm 3),
 qN 10 (.bin .shl (qI 1) (T 9)),
 qN 11 (qb .and 8 10),
 qN 12 (qi .neq 11 0)])
 (.cond (T 12)
 (qR 6 [.lend (.var 2) 16] [
 qN 13 (qm 2),
 qN 14 (qm 3),
 qN 15 (.bls 3 1 (.int .i64 0) 1 [(0,(T 14))]),
 qN 16 (.app 3 1 8 (T 13) (T 15)),
 qV 2 (T 16)])
 .skip))))
 (qP 7 [
 qN 17 (qi .add 5 1),
 qN 5 (qt 17)])))))))
 (.seq (qR 8 [.lend (.var 2) 18] [
 qN 18 (qm 2),
 qV 1 (T 18)])
 .ret))))
theorem c35:ze_ Try.prog 35 F35=some (1,zh_ a35,[.v 1])/\z9_ a35=true:=⟨by kernel_rfl,by kernel_rfl⟩
def F36:Fr:=⟨18,[0,1,4,6],[]⟩
def a36:ACode :=
 (.seq (qP 0 [
 qN 2 (.box 2 (.v 0)),
 qV 2 (.c (.bool false))])
 (.seq (.seq (qP 1 [
 qN 7 (qf 1 2),
 qN 8 (ql 1 7),
 qN 9 (.len (T 8)),
 qN 10 (.mv (qI 0))])
 (.block 0
 (.loop
 (.seq (qP 2 [
 qN 11 (qb .lss 10 9)])
 (.seq (.cond (T 11)
 .skip
 (.exit 0))
 (.seq (.block 1
 (.seq (qP 3 [
 qN 12 (.ia 1 (T 8) (T 10)),
 qN 13 (ql 1 12),
 qV 3 (T 13)])
 (.seq (qP 4 [
 qN 14 (qm 3),
 qN 15 (qm 1),
 qN 16 (qb .eql 14 15)])
 (.cond (T 16)
 (.seq (qP 5 [
 qV 2 (.c (.bool true))])
 .ret)
 .skip))))
 (qP 6 [
 qN 17 (qi .add 10 1),
 qN 10 (qt 17)])))))))
 (.seq (qP 7 [
 qV 2 (.c (.bool false))])
 .ret)))
theorem c36:ze_ Try.prog 36 F36=some (2,zh_ a36,[.v 2])/\z9_ a36=true:=⟨by kernel_rfl,by kernel_rfl⟩
def F37:Fr:=⟨12,[0],[]⟩
def F38:Fr:=⟨26,[0,1,2,6,7,8],[]⟩
def a38:ACode :=
 (.seq (qP 0 [
 qN 5 (.box 2 (.v 2)),
 qV 3 (.c (.slice none 0 0))])
 (.seq (qP 1 [
 qV 4 (.c (.slice none 0 0))])
 (.seq (.seq (qR 2 [.own (.var 4) 46 4] [
 qV 5 (qI 0)])
 (.block 0
 (.loop
 (.seq (.seq (qP 3 [
 qN 9 (qm 5),
 qN 10 (qi .lss 9 9)])
 (.cond (T 10)
 .skip
 (.exit 0)))
 (.seq (.block 1
 (.seq (qP 5 [
 qN 13 (qm 0),
 qN 14 (qm 5),
 qN 15 (qb .shr 13 14),
 qN 16 (qi .and 15 1),
 qN 17 (qi .eql 16 1)])
 (.cond (T 17)
 (qR 6 [.lend (.var 4) 24] [
 qN 18 (qm 4),
 qN 19 (qm 1),
 qN 20 (qm 5),
 qN 21 (qL 2 5),
 qN 22 (.bld [(.int .i64 0),(.int .i64 0),(.int .i64 0),(.int .i64 0)] [(0,1,(T 19)),(1,1,(T 20)),(2,2,(T 21))]),
 qN 23 (.bls 46 4 (.agg #[(.int .i64 0),(.int .i64 0),(.int .i64 0),(.int .i64 0)]) 1 [(0,(T 22))]),
 qN 24 (.app 46 4 32 (T 18) (T 23)),
 qV 4 (T 24)])
 .skip)))
 (qP 4 [
 qN 11 (qm 5),
 qN 12 (qi .add 11 1),
 qV 5 (T 12)]))))))
 (.seq (qR 7 [.lend (.var 4) 25] [
 qN 25 (qm 4),
 qV 3 (T 25)])
 .ret))))
theorem c38:ze_ Try.prog 38 F38=some (3,zh_ a38,[.v 3])/\z9_ a38=true:=⟨by kernel_rfl,by kernel_rfl⟩
def F39:Fr:=⟨26,[0,1,4,5],[]⟩
def a39:ACode :=
 (.seq (qP 0 [
 qV 2 (.c (.bool false))])
 (.seq (.seq (qP 1 [
 qN 6 (qm 0),
 qN 7 (.len (T 6)),
 qN 8 (qm 1),
 qN 9 (.len (T 8)),
 qN 10 (qb .neq 7 9)])
 (.cond (T 10)
 (.seq (qP 2 [
 qV 2 (.c (.bool false))])
 .ret)
 .skip))
 (.seq (.seq (qP 3 [
 qV 3 (qI 0)])
 (.block 0
 (.loop
 (.seq (.seq (qP 4 [
 qN 11 (qm 3),
 qN 12 (qm 0),
 qN 13 (.len (T 12)),
 qN 14 (qb .lss 11 13)])
 (.cond (T 14)
 .skip
 (.exit 0)))
 (.seq (.block 1
 (.seq (.reg 6 [] [
 qN 17 (qm 0),
 qN 18 (qm 3),
 qN 19 (.ia 2 (T 17) (T 18)),
 qN 20 (qL 2 19),
 qN 21 (qm 1),
 qN 22 (qm 3),
 qN 23 (.ia 2 (T 21) (T 22)),
 qN 24 (qL 2 23),
 qN 25 (.ex (.eqA true [.int,.int]) (T 20) (T 24))] (some [[],[],[0,1],[2],[],[],[4,5],[6],[3,7]]) ⟨[],[],[],[]⟩)
 (.cond (T 25)
 (.seq (qP 7 [
 qV 2 (.c (.bool false))])
 .ret)
 .skip)))
 (qP 5 [
 qN 15 (qm 3),
 qN 16 (qi .add 15 1),
 qV 3 (T 16)]))))))
 (.seq (qP 8 [
 qV 2 (.c (.bool true))])
 .ret))))
theorem c39:ze_ Try.prog 39 F39=some (2,zh_ a39,[.v 2])/\z9_ a39=true:=⟨by kernel_rfl,by kernel_rfl⟩
def F40:Fr:=⟨71,[0,2,3,4,6],[]⟩
def a40:ACode :=
 (.seq (qP 0 [
 qN 1 (.box 2 (.v 0)),
 qV 1 (.c (.bool false))])
 (.seq (.seq (qP 1 [
 qN 7 (qf 0 1),
 qN 8 (ql 1 7),
 qN 9 (.call 62 [(T 8)]),
 qN 10 (.un .not (T 9)),
 qN 11 (qt 10),
 qG 12 11 false (qf 1 1),
 qG 13 11 false (ql 1 12),
 qG 14 11 false (.len (T 13)),
 qG 15 11 false (qi .lss 14 1),
 qN 16 (qo 11 15),
 qN 17 (qt 16),
 qG 18 17 false (qf 1 1),
 qG 19 17 false (ql 1 18),
 qG 20 17 false (.len (T 19)),
 qG 21 17 false (qi .gtr 20 64),
 qN 22 (qo 17 21)])
 (.cond (T 22)
 (.seq (qP 2 [
 qV 1 (.c (.bool false))])
 .ret)
 .skip))
 (.seq (.seq (qP 3 [
 qN 23 (qf 1 1),
 qN 24 (ql 1 23),
 qN 25 (.len (T 24)),
 qN 26 (.mv (qI 0))])
 (.block 0
 (.loop
 (.seq (qP 4 [
 qN 27 (qb .lss 26 25)])
 (.seq (.cond (T 27)
 .skip
 (.exit 0))
 (.seq (.block 1
 (.seq (qP 5 [
 qN 28 (qt 26),
 qN 29 (.ia 1 (T 24) (T 26)),
 qN 30 (ql 1 29),
 qV 2 (T 28),
 qV 3 (T 30)])
 (.seq (qP 6 [
 qN 31 (qm 3),
 qN 32 (qf 0 1),
 qN 33 (ql 1 32),
 qN 34 (.call 63 [(T 31),(T 33)]),
 qN 35 (.un .not (T 34)),
 qN 36 (qt 35),
 qG 37 36 false (qm 2),
 qG 38 36 false (qi .gtr 37 0),
 qG 39 36 false (qt 38),
 qG 40 39 true (qm 3),
 qG 41 39 true (qf 1 1),
 qG 42 39 true (ql 1 41),
 qG 43 39 true (qm 2),
 qG 44 39 true (qi .sub 43 1),
 qG 45 39 true (.ia 1 (T 42) (T 44)),
 qG 46 39 true (ql 1 45),
 qG 47 39 true (qb .leq 40 46),
 qG 48 36 false (qa 39 47),
 qN 49 (qo 36 48)])
 (.cond (T 49)
 (.seq (qP 7 [
 qV 1 (.c (.bool false))])
 .ret)
 .skip))))
 (qP 8 [
 qN 50 (qi .add 26 1),
 qN 26 (qt 50)])))))))
 (.seq (.seq (qP 9 [
 qN 51 (qf 1 1),
 qN 52 (ql 1 51),
 qN 53 (.len (T 52)),
 qN 54 (.mv (qI 0))])
 (.block 2
 (.loop
 (.seq (qP 10 [
 qN 55 (qb .lss 54 53)])
 (.seq (.cond (T 55)
 .skip
 (.exit 2))
 (.seq (.block 3
 (.seq (qP 11 [
 qN 56 (.ia 1 (T 52) (T 54)),
 qN 57 (ql 1 56),
 qV 4 (T 57)])
 (.seq (qP 12 [
 qN 58 (qm 4),
 qN 59 (qf 1 1),
 qN 60 (ql 1 59),
 qN 61 (.call 64 [(T 58),(T 60)]),
 qN 62 (.un .not (T 61)),
 qN 63 (qt 62),
 qG 64 63 false (qm 4),
 qG 65 63 false (qf 1 1),
 qG 66 63 false (ql 1 65),
 qG 67 63 false (.call 65 [(T 64),(T 66)]),
 qG 68 63 false (.un .not (T 67)),
 qN 69 (qo 63 68)])
 (.cond (T 69)
 (.seq (qP 13 [
 qV 1 (.c (.bool false))])
 .ret)
 .skip))))
 (qP 14 [
 qN 70 (qi .add 54 1),
 qN 54 (qt 70)])))))))
 (.seq (qP 15 [
 qV 1 (.c (.bool true))])
 .ret)))))
theorem c40:ze_ Try.prog 40 F40=some (1,zh_ a40,[.v 1])/\z9_ a40=true:=⟨by kernel_rfl,by kernel_rfl⟩
def F41:Fr:=⟨13,[0,1,4],[]⟩
def a41:ACode :=
 (.seq (qP 0 [
 qN 2 (.box 2 (.v 0)),
 qV 2 (.c (.bool false))])
 (.seq (qP 1 [
 qN 5 (qm 1),
 qN 6 (qi .geq 5 0),
 qN 7 (qt 6),
 qG 8 7 true (qm 1),
 qG 9 7 true (qf 0 2),
 qG 10 7 true (ql 1 9),
 qG 11 7 true (qb .lss 8 10),
 qN 12 (qa 7 11),
 qV 2 (T 12)])
 .ret))
theorem c41:ze_ Try.prog 41 F41=some (2,zh_ a41,[.v 2])/\z9_ a41=true:=⟨by kernel_rfl,by kernel_rfl⟩
def F42:Fr:=⟨91,[0,1,2,6],[]⟩
def a42:ACode :=
 (.seq (qP 0 [
 qN 3 (.box 11 (.v 0)),
 qN 4 (.box 2 (.v 1)),
 qV 3 (.c (.bool false))])
 (.seq (.seq (qP 1 [
 qN 7 (qf 1 3),
 qN 8 (ql 1 7),
 qN 9 (qi .neq 8 0),
 qN 10 (qt 9),
 qG 11 10 true (qf 1 4),
 qG 12 10 true (ql 1 11),
 qG 13 10 true (qf 1 3),
 qG 14 10 true (ql 1 13),
 qG 15 10 true (.call 33 [(T 12),(T 14)]),
 qG 16 10 true (.un .not (T 15)),
 qN 17 (qa 10 16)])
 (.cond (T 17)
 (.seq (qP 2 [
 qV 3 (.c (.bool false))])
 .ret)
 .skip))
 (.seq (.seq (qP 3 [
 qN 18 (qf 2 3),
 qN 19 (ql 1 18),
 qN 20 (qf 3 3),
 qN 21 (ql 1 20),
 qN 22 (qb .or 19 21),
 qN 23 (qf 4 3),
 qN 24 (ql 1 23),
 qN 25 (qb .or 22 24),
 qN 26 (qf 1 3),
 qN 27 (ql 1 26),
 qN 28 (qb .andNot 25 27),
 qN 29 (qi .neq 28 0)])
 (.cond (T 29)
 (.seq (qP 4 [
 qV 3 (.c (.bool false))])
 .ret)
 .skip))
 (.seq (.seq (qP 5 [
 qN 30 (qf 3 3),
 qN 31 (ql 1 30),
 qN 32 (qf 2 3),
 qN 33 (ql 1 32),
 qN 34 (qb .and 31 33),
 qN 35 (qi .neq 34 0),
 qN 36 (qt 35),
 qG 37 36 false (qf 4 3),
 qG 38 36 false (ql 1 37),
 qG 39 36 false (qf 2 3),
 qG 40 36 false (ql 1 39),
 qG 41 36 false (qb .andNot 38 40),
 qG 42 36 false (qi .neq 41 0),
 qN 43 (qo 36 42)])
 (.cond (T 43)
 (.seq (qP 6 [
 qV 3 (.c (.bool false))])
 .ret)
 .skip))
 (.seq (.seq (qP 7 [
 qN 44 (qf 1 3),
 qN 45 (ql 1 44),
 qN 46 (qi .eql 45 0)])
 (.cond (T 46)
 (.seq (qP 8 [
 qN 47 (qf 5 3),
 qN 48 (qL 2 47),
 qN 49 (.bld [(.int .i64 0),(.int .i64 0)] []),
 qN 50 (.ex (.eqA false [.int,.int]) (T 48) (T 49)),
 qN 51 (qt 50),
 qG 52 51 true (qf 7 3),
 qG 53 51 true (ql 1 52),
 qG 54 51 true (.un .not (T 53)),
 qN 55 (qa 51 54),
 qV 3 (T 55)])
 .ret)
 .skip))
 (.seq (.seq (qP 9 [
 qN 56 (qf 5 3),
 qN 57 (qf 1 56),
 qN 58 (ql 1 57),
 qN 59 (qm 2),
 qN 60 (qb .neq 58 59),
 qN 61 (qt 60),
 qG 62 61 false (qf 5 3),
 qG 63 61 false (qf 0 62),
 qG 64 61 false (ql 1 63),
 qG 65 61 false (qi .lss 64 1),
 qN 66 (qo 61 65),
 qN 67 (qt 66),
 qG 68 67 false (qf 5 3),
 qG 69 67 false (qf 0 68),
 qG 70 67 false (ql 1 69),
 qG 71 67 false (qf 0 3),
 qG 72 67 false (ql 1 71),
 qG 73 67 false (qb .gtr 70 72),
 qN 74 (qo 67 73)])
 (.cond (T 74)
 (.seq (qP 10 [
 qV 3 (.c (.bool false))])
 .ret)
 .skip))
 (.seq (.seq (qP 11 [
 qN 75 (qf 7 3),
 qN 76 (ql 1 75),
 qN 77 (qf 2 3),
 qN 78 (ql 1 77),
 qN 79 (qf 1 3),
 qN 80 (ql 1 79),
 qN 81 (qb .eql 78 80),
 qN 82 (.bib .neq (T 76) (T 81))])
 (.cond (T 82)
 (.seq (qP 12 [
 qV 3 (.c (.bool false))])
 .ret)
 .skip))
 (.seq (qP 13 [
 qN 83 (qf 7 3),
 qN 84 (ql 1 83),
 qN 85 (.un .not (T 84)),
 qN 86 (qt 85),
 qG 87 86 false (qf 4 3),
 qG 88 86 false (ql 1 87),
 qG 89 86 false (qi .eql 88 0),
 qN 90 (qo 86 89),
 qV 3 (T 90)])
 .ret))))))))
theorem c42:ze_ Try.prog 42 F42=some (3,zh_ a42,[.v 3])/\z9_ a42=true:=⟨by kernel_rfl,by kernel_rfl⟩
def F43:Fr:=⟨90,[0,1,4,5,7,10],[]⟩
def F44:Fr:=⟨27,[0,2],[]⟩
def a44:ACode :=
 (.seq (qP 0 [
 qN 1 (.box 2 (.v 0)),
 qV 1 (.c (.bool false))])
 (.seq (qP 1 [
 qN 3 (qf 0 1),
 qN 4 (ql 1 3),
 qN 5 (qi .geq 4 1),
 qN 6 (qt 5),
 qG 7 6 true (qf 0 1),
 qG 8 6 true (ql 1 7),
 qG 9 6 true (qi .leq 8 9),
 qN 10 (qa 6 9),
 qN 11 (qt 10),
 qG 12 11 true (qf 1 1),
 qG 13 11 true (ql 1 12),
 qG 14 11 true (.len (T 13)),
 qG 15 11 true (qi .geq 14 1),
 qN 16 (qa 11 15),
 qN 17 (qt 16),
 qG 18 17 true (qf 1 1),
 qG 19 17 true (ql 1 18),
 qG 20 17 true (.len (T 19)),
 qG 21 17 true (qi .leq 20 64),
 qN 22 (qa 17 21),
 qN 23 (qt 22),
 qG 24 23 true (qL 2 1),
 qG 25 23 true (.call 67 [(T 24)]),
 qN 26 (qa 23 25),
 qV 1 (T 26)])
 .ret))
theorem c44:ze_ Try.prog 44 F44=some (1,zh_ a44,[.v 1])/\z9_ a44=true:=⟨by kernel_rfl,by kernel_rfl⟩
def F45:Fr:=⟨13,[0,1,4],[]⟩
def a45:ACode :=
 (.seq (qP 0 [
 qN 2 (.box 2 (.v 0)),
 qV 2 (.c (.bool false))])
 (.seq (qP 1 [
 qN 5 (qm 1),
 qN 6 (qi .geq 5 0),
 qN 7 (qt 6),
 qG 8 7 true (qm 1),
 qG 9 7 true (qf 0 2),
 qG 10 7 true (ql 1 9),
 qG 11 7 true (qb .lss 8 10),
 qN 12 (qa 7 11),
 qV 2 (T 12)])
 .ret))
theorem c45:ze_ Try.prog 45 F45=some (2,zh_ a45,[.v 2])/\z9_ a45=true:=⟨by kernel_rfl,by kernel_rfl⟩
def F46:Fr:=⟨19,[0,1,4],[]⟩
def a46:ACode :=
 (.seq (qP 0 [
 qN 2 (.box 2 (.v 0)),
 qN 3 (.box 2 (.v 1)),
 qV 2 (.c (.bool false))])
 (.seq (qP 1 [
 qN 5 (qf 0 3),
 qN 6 (ql 1 5),
 qN 7 (qi .geq 6 0),
 qN 8 (qt 7),
 qG 9 8 true (qf 0 3),
 qG 10 8 true (ql 1 9),
 qG 11 8 true (qi .leq 10 1073741824),
 qN 12 (qa 8 11),
 qN 13 (qt 12),
 qG 14 13 true (qL 2 2),
 qG 15 13 true (qf 1 3),
 qG 16 13 true (ql 1 15),
 qG 17 13 true (.call 45 [(T 14),(T 16)]),
 qN 18 (qa 13 17),
 qV 2 (T 18)])
 .ret))
theorem c46:ze_ Try.prog 46 F46=some (2,zh_ a46,[.v 2])/\z9_ a46=true:=⟨by kernel_rfl,by kernel_rfl⟩
def F47:Fr:=⟨19,[0,1,4,5],[]⟩
def a47:ACode :=
 (.seq (qP 0 [
 qN 2 (.box 2 (.v 0)),
 qN 3 (.box 2 (.v 1)),
 qV 2 (qI 0)])
 (.seq (.seq (qP 1 [
 qN 6 (qf 0 2),
 qN 7 (ql 1 6),
 qN 8 (qf 0 3),
 qN 9 (ql 1 8),
 qN 10 (.call 68 [(T 7),(T 9)]),
 qV 3 (T 10)])
 (.seq (qP 2 [
 qN 11 (qm 3),
 qN 12 (qi .neq 11 0)])
 (.cond (T 12)
 (.seq (qP 3 [
 qN 13 (qm 3),
 qV 2 (T 13)])
 .ret)
 .skip)))
 (.seq (qP 4 [
 qN 14 (qf 1 2),
 qN 15 (ql 1 14),
 qN 16 (qf 1 3),
 qN 17 (ql 1 16),
 qN 18 (.call 68 [(T 15),(T 17)]),
 qV 2 (T 18)])
 .ret)))
theorem c47:ze_ Try.prog 47 F47=some (2,zh_ a47,[.v 2])/\z9_ a47=true:=⟨by kernel_rfl,by kernel_rfl⟩
def F48:Fr:=⟨18,[0,1,2],[]⟩
def a48:ACode :=
 (qR 0 [.lend (.cell 0 11) 15] [
 qN 6 (qm 0),
 qN 7 (qm 0),
 qN 8 (.nilck (T 7)),
 qN 9 (qf 11 8),
 qN 10 (ql 1 9),
 qN 11 (qm 1),
 qN 12 (qm 2),
 qN 13 (.bld [(.int .i64 0),(.int .i64 0),(.int .i64 0),(.int .i64 0)] [(0,1,(T 11)),(1,1,(T 12))]),
 qN 14 (.bls 46 4 (.agg #[(.int .i64 0),(.int .i64 0),(.int .i64 0),(.int .i64 0)]) 1 [(0,(T 13))]),
 qN 15 (.app 46 4 32 (T 10) (T 14)),
 qN 16 (.nilck (T 6)),
 qN 17 (qf 11 16),
 qS 1 (T 17) (T 15)])
theorem c48:ze_ Try.prog 48 F48=some (3,zh_ a48,[])/\z9_ a48=true:=⟨by kernel_rfl,by kernel_rfl⟩
def F49:Fr:=⟨19,[0,1,4],[]⟩
def a49:ACode :=
 (.seq (qP 0 [
 qN 2 (.box 2 (.v 0)),
 qN 3 (.box 2 (.v 1)),
 qV 2 (.c (.bool false))])
 (.seq (qP 1 [
 qN 5 (qf 0 3),
 qN 6 (ql 1 5),
 qN 7 (qi .geq 6 0),
 qN 8 (qt 7),
 qG 9 8 true (qf 0 3),
 qG 10 8 true (ql 1 9),
 qG 11 8 true (qi .leq 10 1073741824),
 qN 12 (qa 8 11),
 qN 13 (qt 12),
 qG 14 13 true (qL 2 2),
 qG 15 13 true (qf 1 3),
 qG 16 13 true (ql 1 15),
 qG 17 13 true (.call 41 [(T 14),(T 16)]),
 qN 18 (qa 13 17),
 qV 2 (T 18)])
 .ret))
theorem c49:ze_ Try.prog 49 F49=some (2,zh_ a49,[.v 2])/\z9_ a49=true:=⟨by kernel_rfl,by kernel_rfl⟩
def F50:Fr:=⟨137,[0,1,4,5,7],[]⟩
def a50:ACode :=
 (.seq (qP 0 [
 qN 3 (.box 2 (.v 1)),
 qV 2 (qI 0)])
 (.seq (qP 1 [
 qN 8 (.mkf 69 (T 3)),
 qV 3 (T 8)])
 (.seq (.seq (qP 2 [
 qN 9 (qm 0),
 qN 10 (.nilck (T 9)),
 qN 11 (qf 0 10),
 qN 12 (qf 8 11),
 qN 13 (ql 1 12),
 qN 14 (qm 3),
 qN 15 (.call 70 [(T 13),(T 14)]),
 qN 16 (qt 15),
 qG 17 16 false (qm 0),
 qG 18 16 false (.nilck (T 17)),
 qG 19 16 false (qf 0 18),
 qG 20 16 false (qf 9 19),
 qG 21 16 false (ql 1 20),
 qG 22 16 false (qm 3),
 qG 23 16 false (.call 70 [(T 21),(T 22)]),
 qN 24 (qo 16 23)])
 (.cond (T 24)
 (.seq (qP 3 [
 qV 2 (qI 11)])
 .ret)
 .skip))
 (.seq (.reg 4 [] [
 qN 25 (qm 0),
 qN 26 (qm 0),
 qN 27 (.nilck (T 26)),
 qN 28 (qf 0 27),
 qN 29 (qf 0 28),
 qN 30 (ql 1 29),
 qN 31 (qf 0 3),
 qN 32 (ql 1 31),
 qN 33 (.mnx true (T 30) (T 32)),
 qN 34 (.nilck (T 25)),
 qN 35 (qf 0 34),
 qN 36 (qf 0 35),
 qS 1 (T 36) (T 33)] (some [[],[],[1],[2],[3],[4],[],[6],[5,7],[0,0,1,2,3,4,5,6,7,8],[9,0,1,2,3,4,5,6,7,8],[10,0,1,2,3,4,5,6,7,8],[11,8,0,1,2,3,4,5,6,7,8]]) ⟨[],[],[],[]⟩)
 (.seq (.seq (qP 5 [
 qN 37 (qm 0),
 qN 38 (.nilck (T 37)),
 qN 39 (qf 0 38),
 qN 40 (qf 8 39),
 qN 41 (ql 1 40),
 qN 42 (.len (T 41)),
 qN 43 (qi .eql 42 0)])
 (.cond (T 43)
 (.seq (qP 6 [
 qN 44 (qm 0),
 qN 45 (qL 2 3),
 qN 46 (.bls 36 2 (.agg #[(.int .i64 0),(.int .i64 0)]) 1 [(0,(T 45))]),
 qN 47 (.nilck (T 44)),
 qN 48 (qf 0 47),
 qN 49 (qf 8 48),
 qS 1 (T 49) (T 46)])
 (.seq (qP 7 [
 qN 50 (qm 0),
 qN 51 (qf 1 3),
 qN 52 (ql 1 51),
 qN 53 (.call 48 [(T 50),(qI 2),(T 52)])])
 (.seq (qP 8 [
 qV 2 (qI 0)])
 .ret)))
 .skip))
 (.seq (qP 9 [
 qN 54 (qm 0),
 qN 55 (.nilck (T 54)),
 qN 56 (qf 0 55),
 qN 57 (qf 8 56),
 qN 58 (ql 1 57),
 qN 59 (.ia 2 (T 58) (qI 0)),
 qN 60 (qL 2 59),
 qN 6 (.allo [(.int .i64 0),(.int .i64 0)]),
 qS 2 (T 6) (T 60)])
 (.seq (.reg 10 [] [
 qN 61 (qm 0),
 qN 62 (.nilck (T 61)),
 qN 63 (qf 0 62),
 qN 64 (qf 9 63),
 qN 65 (ql 1 64),
 qN 66 (.len (T 65)),
 qN 67 (qi .eql 66 0),
 qN 68 (qt 67),
 qG 69 68 false (qL 2 3),
 qG 70 68 false (qm 0),
 qG 71 68 false (.nilck (T 70)),
 qG 72 68 false (qf 0 71),
 qG 73 68 false (qf 9 72),
 qG 74 68 false (ql 1 73),
 qG 75 68 false (.ia 2 (T 74) (qI 0)),
 qG 76 68 false (qL 2 75),
 qG 77 68 false (.call 66 [(T 69),(T 76)]),
 qG 78 68 false (qi .lss 77 0),
 qN 79 (qo 68 78),
 qV 4 (T 79)] (some [[],[0],[1],[2],[3],[4],[5],[6],[7],[7],[9,7],[10,7],[11,7],[12,7],[13,7],[14,7],[8,15,7,7],[16,7],[7,17],[18,16,0,1,2,3,4,5,6,7,8,9,10,11,12,13,14,15,16,17,18]]) ⟨[68],[],[],[]⟩)
 (.seq (.seq (qP 11 [
 qN 80 (qm 4),
 qN 81 (qt 80),
 qG 82 81 true (qL 2 3),
 qG 83 81 true (qL 2 6),
 qG 84 81 true (.call 66 [(T 82),(T 83)]),
 qG 85 81 true (qi .lss 84 0),
 qN 86 (qa 81 85)])
 (.cond (T 86)
 (.seq (.seq (.reg 12 [] [
 qN 87 (qm 0),
 qN 88 (.nilck (T 87)),
 qN 89 (qf 0 88),
 qN 90 (qf 9 89),
 qN 91 (ql 1 90),
 qN 92 (.len (T 91)),
 qN 93 (qi .gtr 92 0),
 qN 94 (qt 93),
 qG 95 94 true (qm 0),
 qG 96 94 true (.nilck (T 95)),
 qG 97 94 true (qf 0 96),
 qG 98 94 true (qf 9 97),
 qG 99 94 true (ql 1 98),
 qG 100 94 true (.ia 2 (T 99) (qI 0)),
 qG 101 94 true (qL 2 100),
 qG 102 94 true (qL 2 6),
 qG 103 94 true (.call 66 [(T 101),(T 102)]),
 qG 104 94 true (qi .lss 103 0),
 qN 105 (qa 94 104)] (some [[],[0],[1],[2],[3],[4],[5],[6],[7],[8,7],[9,7],[10,7],[11,7],[12,7],[13,7],[7],[14,15,7,7],[16,7],[7,17]]) ⟨[94],[],[],[]⟩)
 (.cond (T 105)
 (qP 13 [
 qN 106 (qm 0),
 qN 107 (qm 0),
 qN 108 (.nilck (T 107)),
 qN 109 (qf 0 108),
 qN 110 (qf 9 109),
 qN 111 (ql 1 110),
 qN 112 (.ia 2 (T 111) (qI 0)),
 qN 113 (qf 1 112),
 qN 114 (ql 1 113),
 qN 115 (.call 48 [(T 106),(qI 3),(T 114)])])
 .skip))
 (.seq (qP 14 [
 qN 116 (qm 0),
 qN 117 (.nilck (T 116)),
 qN 118 (qf 0 117),
 qN 119 (qf 10 118),
 qN 120 (ql 1 119),
 qN 121 (.un .not (T 120))])
 (.cond (T 121)
 (.seq (qP 15 [
 qN 122 (qm 0),
 qN 123 (.nilck (T 122)),
 qN 124 (qf 0 123),
 qN 125 (qf 10 124),
 ⟨.none,.st 1 (T 125) (.c (.bool true)),none⟩])
 (qP 16 [
 qN 126 (qm 0),
 qN 127 (qf 1 6),
 qN 128 (ql 1 127),
 qN 129 (.call 48 [(T 126),(qI 4),(T 128)])]))
 .skip)))
 (qP 17 [
 qN 130 (qm 0),
 qN 131 (qf 1 3),
 qN 132 (ql 1 131),
 qN 133 (.call 48 [(T 130),(qI 3),(T 132)])])))
 (.seq (qP 18 [
 qN 134 (qm 0),
 qN 135 (qL 2 3),
 qN 136 (.call 71 [(T 134),(T 135)])])
 (.seq (qP 19 [
 qV 2 (qI 0)])
 .ret))))))))))
theorem c50:ze_ Try.prog 50 F50=some (2,zh_ a50,[.v 2])/\z9_ a50=true:=⟨by kernel_rfl,by kernel_rfl⟩
def F51:Fr:=⟨83,[0,1,2,6],[]⟩
def F53:Fr:=⟨9,[0,2],[]⟩
def a53:ACode :=
 (.seq (qP 0 [
 qV 1 (.c (.bool false))])
 (.seq (qP 1 [
 qN 3 (qm 0),
 qN 4 (qi .geq 3 1),
 qN 5 (qt 4),
 qG 6 5 true (qm 0),
 qG 7 5 true (qi .leq 6 6),
 qN 8 (qa 5 7),
 qV 1 (T 8)])
 .ret))
theorem c53:ze_ Try.prog 53 F53=some (1,zh_ a53,[.v 1])/\z9_ a53=true:=⟨by kernel_rfl,by kernel_rfl⟩
def F54:Fr:=⟨94,[0,1,5,6],[]⟩
def F55:Fr:=⟨25,[0,1,5],[]⟩
def F56:Fr:=⟨34,[0,1,4,5,6],[]⟩
def a56:ACode :=
 (.seq (qP 0 [
 qN 3 (.box 2 (.v 1)),
 qV 2 (.c (.slice none 0 0))])
 (.seq (qP 1 [
 qV 3 (qI 0)])
 (.seq (.block 0
 (.loop
 (.seq (.seq (.reg 2 [] [
 qN 7 (qm 3),
 qN 8 (qm 0),
 qN 9 (.len (T 8)),
 qN 10 (qb .lss 7 9),
 qN 11 (qt 10),
 qG 12 11 true (qm 0),
 qG 13 11 true (qm 3),
 qG 14 11 true (.ia 2 (T 12) (T 13)),
 qG 15 11 true (qL 2 14),
 qG 16 11 true (qL 2 3),
 qG 17 11 true (.call 47 [(T 15),(T 16)]),
 qG 18 11 true (qi .lss 17 0),
 qN 19 (qa 11 18)] (some [[],[],[1],[0,2],[3],[4],[4],[5,6,4],[7,4],[4],[8,9,4,4],[10,4],[4,11]]) ⟨[11],[],[],[]⟩)
 (.cond (T 19)
 .skip
 (.exit 0)))
 (.block 1
 (qP 3 [
 qN 20 (qm 3),
 qN 21 (qi .add 20 1),
 qV 3 (T 21)])))))
 (.seq (qP 4 [
 qN 22 (qm 0),
 qN 23 (qm 3),
 qN 24 (.sl 36 2 (T 22) none (some (T 23)) none),
 qN 25 (.app 36 2 16 (.c (.slice none 0 0)) (T 24)),
 qV 4 (T 25)])
 (.seq (.reg 5 [.lend (.var 4) 29] [
 qN 26 (qm 4),
 qN 27 (qL 2 3),
 qN 28 (.bls 36 2 (.agg #[(.int .i64 0),(.int .i64 0)]) 1 [(0,(T 27))]),
 qN 29 (.app 36 2 16 (T 26) (T 28)),
 qN 30 (qm 0),
 qN 31 (qm 3),
 qN 32 (.sl 36 2 (T 30) (some (T 31)) none none),
 qN 33 (.app 36 2 16 (T 29) (T 32)),
 qV 2 (T 33)] (some [[],[],[1],[0,2],[],[],[4,5],[3,6,3],[7,7,0,1,2,3,4,5,6,7]]) ⟨[],[],[],[]⟩)
 .ret)))))
theorem c56:ze_ Try.prog 56 F56=some (2,zh_ a56,[.v 2])/\z9_ a56=true:=⟨by kernel_rfl,by kernel_rfl⟩
def F57:Fr:=⟨39,[0,3,5],[]⟩
def a57:ACode :=
 (.seq (qP 0 [
 qN 2 (.allo [(.int .i64 0),(.slice none 0 0)]),
 qV 1 (qI 0)])
 (.seq (.seq (qP 1 [
 qN 6 (qm 0),
 qN 7 (qi .lss 6 1),
 qN 8 (qt 7),
 qG 9 8 false (qm 0),
 qG 10 8 false (qi .gtr 9 9),
 qN 11 (qo 8 10)])
 (.cond (T 11)
 (.seq (qP 2 [
 qN 12 (.bld [(.int .i64 0),(.slice none 0 0)] []),
 qS 2 (T 2) (T 12),
 qV 1 (qI 1)])
 .ret)
 .skip))
 (.seq (qP 3 [
 qN 13 (qm 0),
 qN 14 (.bld [(.int .i64 0),(.slice none 0 0)] [(0,1,(T 13))]),
 qN 4 (.allo [(.int .i64 0),(.slice none 0 0)]),
 qS 2 (T 4) (T 14)])
 (.seq (.seq (qR 4 [.own (.cell 1 1) 3 1] [
 qV 2 (qI 1)])
 (.block 0
 (.loop
 (.seq (.seq (qP 5 [
 qN 15 (qm 2),
 qN 16 (qm 0),
 qN 17 (.bin .shl (qI 1) (T 16)),
 qN 18 (qb .lss 15 17)])
 (.cond (T 18)
 .skip
 (.exit 0)))
 (.seq (.block 1
 (.seq (qP 7 [
 qN 21 (qm 2),
 qN 22 (.call 74 [(T 21)]),
 qN 23 (qm 0),
 qN 24 (qi .quo 23 2),
 qN 25 (qi .add 24 1),
 qN 26 (qb .eql 22 25)])
 (.cond (T 26)
 (qR 8 [.lend (.cell 1 1) 31] [
 qN 27 (qf 1 4),
 qN 28 (ql 1 27),
 qN 29 (qm 2),
 qN 30 (.bls 3 1 (.int .i64 0) 1 [(0,(T 29))]),
 qN 31 (.app 3 1 8 (T 28) (T 30)),
 qN 32 (qf 1 4),
 qS 1 (T 32) (T 31)])
 .skip)))
 (qP 6 [
 qN 19 (qm 2),
 qN 20 (qi .add 19 1),
 qV 2 (T 20)]))))))
 (.seq (.seq (qR 9 [.freeze (.cell 1 1)] [
 qN 33 (qf 1 4),
 qN 34 (ql 1 33),
 qN 35 (.len (T 34)),
 qN 36 (qi .gtr 35 64)])
 (.cond (T 36)
 (.seq (qP 10 [
 qN 37 (.bld [(.int .i64 0),(.slice none 0 0)] []),
 qS 2 (T 2) (T 37),
 qV 1 (qI 4)])
 .ret)
 .skip))
 (.seq (qP 11 [
 qN 38 (qL 2 4),
 qS 2 (T 2) (T 38),
 qV 1 (qI 0)])
 .ret))))))
theorem c57:ze_ Try.prog 57 F57=some (1,zh_ a57,[.c 2 2 true,.v 1])/\z9_ a57=true:=⟨by kernel_rfl,by kernel_rfl⟩
def F58:Fr:=⟨80,[0,1,5,6,7,8,9,10,11],[]⟩
def a58:ACode :=
 (.seq (qP 0 [
 qN 4 (.allo [(.int .i64 0),(.slice none 0 0)]),
 qV 2 (qI 0)])
 (.seq (.seq (qP 1 [
 qN 12 (qm 0),
 qN 13 (qi .lss 12 1),
 qN 14 (qt 13),
 qG 15 14 false (qm 1),
 qG 16 14 false (qi .lss 15 1),
 qN 17 (qo 14 16),
 qN 18 (qt 17),
 qG 19 18 false (qm 0),
 qG 20 18 false (qi .gtr 19 9),
 qN 21 (qo 18 20),
 qN 22 (qt 21),
 qG 23 22 false (qm 1),
 qG 24 22 false (qi .gtr 23 9),
 qN 25 (qo 22 24),
 qN 26 (qt 25),
 qG 27 26 false (qm 0),
 qG 28 26 false (qm 1),
 qG 29 26 false (qb .mul 27 28),
 qG 30 26 false (qi .gtr 29 9),
 qN 31 (qo 26 30)])
 (.cond (T 31)
 (.seq (qP 2 [
 qN 32 (.bld [(.int .i64 0),(.slice none 0 0)] []),
 qS 2 (T 4) (T 32),
 qV 2 (qI 1)])
 .ret)
 .skip))
 (.seq (qP 3 [
 qV 3 (.c (.slice none 0 0))])
 (.seq (.seq (qR 4 [.own (.var 3) 3 1] [
 qV 4 (qI 0)])
 (.block 0
 (.loop
 (.seq (.seq (qP 5 [
 qN 33 (qm 4),
 qN 34 (qm 0),
 qN 35 (qb .lss 33 34)])
 (.cond (T 35)
 .skip
 (.exit 0)))
 (.seq (.block 1
 (.seq (qP 7 [
 qV 5 (qI 0)])
 (.block 2
 (.loop
 (.seq (.seq (qP 8 [
 qN 38 (qm 5),
 qN 39 (qm 1),
 qN 40 (qb .lss 38 39)])
 (.cond (T 40)
 .skip
 (.exit 2)))
 (.seq (.block 3
 (.seq (qP 10 [
 qV 6 (qI 0)])
 (.seq (.seq (qP 11 [
 qV 7 (qI 0)])
 (.block 4
 (.loop
 (.seq (.seq (qP 12 [
 qN 43 (qm 7),
 qN 44 (qm 1),
 qN 45 (qb .lss 43 44)])
 (.cond (T 45)
 .skip
 (.exit 4)))
 (.seq (.block 5
 (qP 14 [
 qN 48 (qm 6),
 qN 49 (qm 4),
 qN 50 (qm 1),
 qN 51 (qb .mul 49 50),
 qN 52 (qm 7),
 qN 53 (qb .add 51 52),
 qN 54 (.bin .shl (qI 1) (T 53)),
 qN 55 (qb .or 48 54),
 qV 6 (T 55)]))
 (qP 13 [
 qN 46 (qm 7),
 qN 47 (qi .add 46 1),
 qV 7 (T 47)]))))))
 (.seq (.seq (qP 15 [
 qV 8 (qI 0)])
 (.block 6
 (.loop
 (.seq (.seq (qP 16 [
 qN 56 (qm 8),
 qN 57 (qm 0),
 qN 58 (qb .lss 56 57)])
 (.cond (T 58)
 .skip
 (.exit 6)))
 (.seq (.block 7
 (qP 18 [
 qN 61 (qm 6),
 qN 62 (qm 8),
 qN 63 (qm 1),
 qN 64 (qb .mul 62 63),
 qN 65 (qm 5),
 qN 66 (qb .add 64 65),
 qN 67 (.bin .shl (qI 1) (T 66)),
 qN 68 (qb .or 61 67),
 qV 6 (T 68)]))
 (qP 17 [
 qN 59 (qm 8),
 qN 60 (qi .add 59 1),
 qV 8 (T 60)]))))))
 (qR 19 [.lend (.var 3) 72] [
 qN 69 (qm 3),
 qN 70 (qm 6),
 qN 71 (.bls 3 1 (.int .i64 0) 1 [(0,(T 70))]),
 qN 72 (.app 3 1 8 (T 69) (T 71)),
 qV 3 (T 72)])))))
 (qP 9 [
 qN 41 (qm 5),
 qN 42 (qi .add 41 1),
 qV 5 (T 42)])))))))
 (qP 6 [
 qN 36 (qm 4),
 qN 37 (qi .add 36 1),
 qV 4 (T 37)]))))))
 (.seq (qR 20 [.freeze (.var 3)] [
 qN 73 (qm 0),
 qN 74 (qm 1),
 qN 75 (qb .mul 73 74),
 qN 76 (qm 3),
 qN 77 (.call 75 [(T 75),(T 76)]),
 qN 78 (.ext 77 0),
 qN 79 (.ext 77 1),
 qS 2 (T 4) (T 78),
 qV 2 (T 79)])
 .ret)))))
theorem c58:ze_ Try.prog 58 F58=some (2,zh_ a58,[.c 4 2 true,.v 2])/\z9_ a58=true:=⟨by kernel_rfl,by kernel_rfl⟩
def F59:Fr:=⟨21,[0,3,4],[]⟩
def a59:ACode :=
 (.seq (qP 0 [
 qN 2 (.allo [(.int .i64 0),(.slice none 0 0)]),
 qV 1 (qI 0)])
 (.seq (.seq (qP 1 [
 qN 5 (qm 0),
 qN 6 (qi .lss 5 1),
 qN 7 (qt 6),
 qG 8 7 false (qm 0),
 qG 9 7 false (qi .gtr 8 3),
 qN 10 (qo 7 9)])
 (.cond (T 10)
 (.seq (qP 2 [
 qN 11 (.bld [(.int .i64 0),(.slice none 0 0)] []),
 qS 2 (T 2) (T 11),
 qV 1 (qI 1)])
 .ret)
 .skip))
 (.seq (qP 3 [
 qN 12 (qm 0),
 qN 13 (.bin .shl (qI 1) (T 12)),
 qN 14 (qi .sub 13 1),
 qV 2 (T 14)])
 (.seq (qP 4 [
 qN 15 (qm 2),
 qN 16 (qm 2),
 qN 17 (.call 76 [(qI 0),(T 16)]),
 qN 18 (.call 75 [(T 15),(T 17)]),
 qN 19 (.ext 18 0),
 qN 20 (.ext 18 1),
 qS 2 (T 2) (T 19),
 qV 1 (T 20)])
 .ret))))
theorem c59:ze_ Try.prog 59 F59=some (1,zh_ a59,[.c 2 2 true,.v 1])/\z9_ a59=true:=⟨by kernel_rfl,by kernel_rfl⟩
def F60:Fr:=⟨19,[0,1,4,5],[]⟩
def a60:ACode :=
 (.seq (qP 0 [
 qV 2 (qI 0)])
 (.seq (.seq (qP 1 [
 qN 6 (qm 0),
 qN 7 (.len (T 6)),
 qN 8 (.mv (qI 0))])
 (.block 0
 (.loop
 (.seq (qP 2 [
 qN 9 (qb .lss 8 7)])
 (.seq (.cond (T 9)
 .skip
 (.exit 0))
 (.seq (.block 1
 (.seq (qP 3 [
 qN 10 (qt 8),
 qV 3 (T 10)])
 (.seq (qP 4 [
 qN 11 (qm 1),
 qN 12 (qm 0),
 qN 13 (qm 3),
 qN 14 (.ia 1 (T 12) (T 13)),
 qN 15 (ql 1 14),
 qN 16 (qb .eql 11 15)])
 (.cond (T 16)
 (.seq (qP 5 [
 qN 17 (qm 3),
 qV 2 (T 17)])
 .ret)
 .skip))))
 (qP 6 [
 qN 18 (qi .add 8 1),
 qN 8 (qt 18)])))))))
 (.seq (qP 7 [
 ⟨(.v 2),.asg (.c (.int .i64 (-1))),none⟩])
 .ret)))
theorem c60:ze_ Try.prog 60 F60=some (2,zh_ a60,[.v 2])/\z9_ a60=true:=⟨by kernel_rfl,by kernel_rfl⟩
def F61:Fr:=⟨8,[0,2],[]⟩
def a61:ACode :=
 (.seq (qP 0 [
 qV 1 (.c (.slice none 0 0))])
 (.seq (.seq (qP 1 [
 qN 3 (qm 0),
 qN 4 (.isn false (T 3))])
 (.cond (T 4)
 (.seq (qP 2 [
 qV 1 (.c (.slice none 0 0))])
 .ret)
 .skip))
 (.seq (qP 3 [
 qN 5 (.bls 36 2 (.agg #[(.int .i64 0),(.int .i64 0)]) 0 []),
 qN 6 (qm 0),
 qN 7 (.app 36 2 16 (T 5) (T 6)),
 qV 1 (T 7)])
 .ret)))
theorem c61:ze_ Try.prog 61 F61=some (1,zh_ a61,[.v 1])/\z9_ a61=true:=⟨by kernel_rfl,by kernel_rfl⟩
def F62:Fr:=⟨9,[0,2],[]⟩
def a62:ACode :=
 (.seq (qP 0 [
 qV 1 (.c (.bool false))])
 (.seq (qP 1 [
 qN 3 (qm 0),
 qN 4 (qi .geq 3 1),
 qN 5 (qt 4),
 qG 6 5 true (qm 0),
 qG 7 5 true (qi .leq 6 9),
 qN 8 (qa 5 7),
 qV 1 (T 8)])
 .ret))
theorem c62:ze_ Try.prog 62 F62=some (1,zh_ a62,[.v 1])/\z9_ a62=true:=⟨by kernel_rfl,by kernel_rfl⟩
def F63:Fr:=⟨13,[0,1,4],[]⟩
def a63:ACode :=
 (.seq (qP 0 [
 qV 2 (.c (.bool false))])
 (.seq (qP 1 [
 qN 5 (qm 0),
 qN 6 (qi .geq 5 1),
 qN 7 (qt 6),
 qG 8 7 true (qm 0),
 qG 9 7 true (qm 1),
 qG 10 7 true (.bin .shl (qI 1) (T 9)),
 qG 11 7 true (qb .lss 8 10),
 qN 12 (qa 7 11),
 qV 2 (T 12)])
 .ret))
theorem c63:ze_ Try.prog 63 F63=some (2,zh_ a63,[.v 2])/\z9_ a63=true:=⟨by kernel_rfl,by kernel_rfl⟩
def F64:Fr:=⟨18,[0,1,4,6],[]⟩
def a64:ACode :=
 (.seq (qP 0 [
 qV 2 (.c (.bool false))])
 (.seq (.seq (qP 1 [
 qN 7 (qm 1),
 qN 8 (.len (T 7)),
 qN 9 (.mv (qI 0))])
 (.block 0
 (.loop
 (.seq (qP 2 [
 qN 10 (qb .lss 9 8)])
 (.seq (.cond (T 10)
 .skip
 (.exit 0))
 (.seq (.block 1
 (.seq (qP 3 [
 qN 11 (.ia 1 (T 7) (T 9)),
 qN 12 (ql 1 11),
 qV 3 (T 12)])
 (.seq (qP 4 [
 qN 13 (qm 0),
 qN 14 (qm 3),
 qN 15 (qb .and 13 14),
 qN 16 (qi .eql 15 0)])
 (.cond (T 16)
 (.seq (qP 5 [
 qV 2 (.c (.bool false))])
 .ret)
 .skip))))
 (qP 6 [
 qN 17 (qi .add 9 1),
 qN 9 (qt 17)])))))))
 (.seq (qP 7 [
 qV 2 (.c (.bool true))])
 .ret)))
theorem c64:ze_ Try.prog 64 F64=some (2,zh_ a64,[.v 2])/\z9_ a64=true:=⟨by kernel_rfl,by kernel_rfl⟩
def F65:Fr:=⟨24,[0,1,4,6],[]⟩
def a65:ACode :=
 (.seq (qP 0 [
 qV 2 (.c (.bool false))])
 (.seq (.seq (qP 1 [
 qN 7 (qm 1),
 qN 8 (.len (T 7)),
 qN 9 (.mv (qI 0))])
 (.block 0
 (.loop
 (.seq (qP 2 [
 qN 10 (qb .lss 9 8)])
 (.seq (.cond (T 10)
 .skip
 (.exit 0))
 (.seq (.block 1
 (.seq (qP 3 [
 qN 11 (.ia 1 (T 7) (T 9)),
 qN 12 (ql 1 11),
 qV 3 (T 12)])
 (.seq (qP 4 [
 qN 13 (qm 3),
 qN 14 (qm 0),
 qN 15 (qb .neq 13 14),
 qN 16 (qt 15),
 qG 17 16 true (qm 0),
 qG 18 16 true (qm 3),
 qG 19 16 true (qb .and 17 18),
 qG 20 16 true (qm 3),
 qG 21 16 true (qb .eql 19 20),
 qN 22 (qa 16 21)])
 (.cond (T 22)
 (.seq (qP 5 [
 qV 2 (.c (.bool false))])
 .ret)
 .skip))))
 (qP 6 [
 qN 23 (qi .add 9 1),
 qN 9 (qt 23)])))))))
 (.seq (qP 7 [
 qV 2 (.c (.bool true))])
 .ret)))
theorem c65:ze_ Try.prog 65 F65=some (2,zh_ a65,[.v 2])/\z9_ a65=true:=⟨by kernel_rfl,by kernel_rfl⟩
def F66:Fr:=⟨16,[0,1,4],[]⟩
def a66:ACode :=
 (.seq (qP 0 [
 qN 2 (.box 2 (.v 0)),
 qN 3 (.box 2 (.v 1)),
 qV 2 (qI 0)])
 (.seq (qP 1 [
 qN 5 (qf 0 2),
 qN 6 (ql 1 5),
 qN 7 (qf 1 2),
 qN 8 (ql 1 7),
 qN 9 (.bld [(.int .i64 0),(.int .i64 0),(.int .i64 0)] [(0,1,(T 6)),(1,1,(T 8))]),
 qN 10 (qf 0 3),
 qN 11 (ql 1 10),
 qN 12 (qf 1 3),
 qN 13 (ql 1 12),
 qN 14 (.bld [(.int .i64 0),(.int .i64 0),(.int .i64 0)] [(0,1,(T 11)),(1,1,(T 13))]),
 qN 15 (.call 77 [(T 9),(T 14)]),
 qV 2 (T 15)])
 .ret))
theorem c66:ze_ Try.prog 66 F66=some (2,zh_ a66,[.v 2])/\z9_ a66=true:=⟨by kernel_rfl,by kernel_rfl⟩
def F67:Fr:=⟨63,[0,2,3,4,6],[]⟩
def a67:ACode :=
 (.seq (qP 0 [
 qN 1 (.box 2 (.v 0)),
 qV 1 (.c (.bool false))])
 (.seq (.seq (qP 1 [
 qN 7 (qf 1 1),
 qN 8 (ql 1 7),
 qN 9 (.len (T 8)),
 qN 10 (.mv (qI 0))])
 (.block 0
 (.loop
 (.seq (qP 2 [
 qN 11 (qb .lss 10 9)])
 (.seq (.cond (T 11)
 .skip
 (.exit 0))
 (.seq (.block 1
 (.seq (qP 3 [
 qN 12 (qt 10),
 qN 13 (.ia 1 (T 8) (T 10)),
 qN 14 (ql 1 13),
 qV 2 (T 12),
 qV 3 (T 14)])
 (.seq (.seq (qP 4 [
 qN 15 (qm 3),
 qN 16 (qi .lss 15 1),
 qN 17 (qt 16),
 qG 18 17 false (qm 3),
 qG 19 17 false (qf 0 1),
 qG 20 17 false (ql 1 19),
 qG 21 17 false (.bin .shl (qI 1) (T 20)),
 qG 22 17 false (qb .geq 18 21),
 qN 23 (qo 17 22),
 qN 24 (qt 23),
 qG 25 24 false (qm 2),
 qG 26 24 false (qi .gtr 25 0),
 qG 27 24 false (qt 26),
 qG 28 27 true (qm 3),
 qG 29 27 true (qf 1 1),
 qG 30 27 true (ql 1 29),
 qG 31 27 true (qm 2),
 qG 32 27 true (qi .sub 31 1),
 qG 33 27 true (.ia 1 (T 30) (T 32)),
 qG 34 27 true (ql 1 33),
 qG 35 27 true (qb .leq 28 34),
 qG 36 24 false (qa 27 35),
 qN 37 (qo 24 36)])
 (.cond (T 37)
 (.seq (qP 5 [
 qV 1 (.c (.bool false))])
 .ret)
 .skip))
 (.seq (qP 6 [
 qN 38 (qf 1 1),
 qN 39 (ql 1 38),
 qN 40 (qm 2),
 qN 41 (.sl 3 1 (T 39) none (some (T 40)) none),
 qN 42 (.len (T 41)),
 qN 43 (.mv (qI 0))])
 (.block 2
 (.loop
 (.seq (qP 7 [
 qN 44 (qb .lss 43 42)])
 (.seq (.cond (T 44)
 .skip
 (.exit 2))
 (.seq (.block 3
 (.seq (qP 8 [
 qN 45 (.ia 1 (T 41) (T 43)),
 qN 46 (ql 1 45),
 qV 4 (T 46)])
 (.seq (qP 9 [
 qN 47 (qm 4),
 qN 48 (qm 3),
 qN 49 (qb .and 47 48),
 qN 50 (qi .eql 49 0),
 qN 51 (qt 50),
 qG 52 51 false (qm 4),
 qG 53 51 false (qm 3),
 qG 54 51 false (.call 78 [(T 52),(T 53)]),
 qN 55 (qo 51 54),
 qN 56 (qt 55),
 qG 57 56 false (qm 3),
 qG 58 56 false (qm 4),
 qG 59 56 false (.call 78 [(T 57),(T 58)]),
 qN 60 (qo 56 59)])
 (.cond (T 60)
 (.seq (qP 10 [
 qV 1 (.c (.bool false))])
 .ret)
 .skip))))
 (qP 11 [
 qN 61 (qi .add 43 1),
 qN 43 (qt 61)]))))))))))
 (qP 12 [
 qN 62 (qi .add 10 1),
 qN 10 (qt 62)])))))))
 (.seq (qP 13 [
 qV 1 (.c (.bool true))])
 .ret)))
theorem c67:ze_ Try.prog 67 F67=some (1,zh_ a67,[.v 1])/\z9_ a67=true:=⟨by kernel_rfl,by kernel_rfl⟩
def F68:Fr:=⟨11,[0,1,4],[]⟩
def a68:ACode :=
 (.seq (qP 0 [
 qV 2 (qI 0)])
 (.seq (.seq (qP 1 [
 qN 5 (qm 0),
 qN 6 (qm 1),
 qN 7 (qb .lss 5 6)])
 (.cond (T 7)
 (.seq (qP 2 [
 ⟨(.v 2),.asg (.c (.int .i64 (-1))),none⟩])
 .ret)
 .skip))
 (.seq (.seq (qP 3 [
 qN 8 (qm 0),
 qN 9 (qm 1),
 qN 10 (qb .gtr 8 9)])
 (.cond (T 10)
 (.seq (qP 4 [
 qV 2 (qI 1)])
 .ret)
 .skip))
 (.seq (qP 5 [
 qV 2 (qI 0)])
 .ret))))
theorem c68:ze_ Try.prog 68 F68=some (2,zh_ a68,[.v 2])/\z9_ a68=true:=⟨by kernel_rfl,by kernel_rfl⟩
def F71:Fr:=⟨41,[0,1,4],[]⟩
def F73:Fr:=⟨45,[0,1,3],[]⟩
def a73:ACode :=
 (.seq (.seq (qP 0 [
 qN 4 (.ld 1 false (.v 0)),
 qN 5 (.call 35 [(T 4)]),
 qN 6 (.len (T 5)),
 qN 7 (.mv (qI 0))])
 (.block 0
 (.loop
 (.seq (qP 1 [
 qN 8 (qb .lss 7 6)])
 (.seq (.cond (T 8)
 .skip
 (.exit 0))
 (.seq (.block 1
 (.seq (qP 2 [
 qN 9 (.ia 1 (T 5) (T 7)),
 qN 10 (ql 1 9),
 qV 2 (T 10)])
 (qP 3 [
 qN 11 (.ld 1 false (.v 1)),
 qN 12 (qm 2),
 qN 13 (.call 48 [(T 11),(qI 5),(T 12)])])))
 (qP 4 [
 qN 14 (qi .add 7 1),
 qN 7 (qt 14)])))))))
 (.seq (.reg 5 [] [
 qN 15 (.ld 1 false (.v 1)),
 qN 16 (.nilck (T 15)),
 qN 17 (qf 0 16),
 qN 18 (qf 2 17),
 qN 19 (ql 1 18),
 qN 20 (.ld 1 false (.v 0)),
 qN 21 (qb .andNot 19 20),
 qN 22 (.nilck (T 15)),
 qN 23 (qf 0 22),
 qN 24 (qf 2 23),
 qS 1 (T 24) (T 21)] (some [[],[0],[1],[2],[3],[],[4,5],[0,0,1,2,3,4,5,6],[7,0,1,2,3,4,5,6],[8,0,1,2,3,4,5,6],[9,6,0,1,2,3,4,5,6]]) ⟨[],[],[],[]⟩)
 (.seq (.reg 6 [] [
 qN 25 (.ld 1 false (.v 1)),
 qN 26 (.nilck (T 25)),
 qN 27 (qf 0 26),
 qN 28 (qf 3 27),
 qN 29 (ql 1 28),
 qN 30 (.ld 1 false (.v 0)),
 qN 31 (qb .or 29 30),
 qN 32 (.nilck (T 25)),
 qN 33 (qf 0 32),
 qN 34 (qf 3 33),
 qS 1 (T 34) (T 31)] (some [[],[0],[1],[2],[3],[],[4,5],[0,0,1,2,3,4,5,6],[7,0,1,2,3,4,5,6],[8,0,1,2,3,4,5,6],[9,6,0,1,2,3,4,5,6]]) ⟨[],[],[],[]⟩)
 (.reg 7 [] [
 qN 35 (.ld 1 false (.v 1)),
 qN 36 (.nilck (T 35)),
 qN 37 (qf 0 36),
 qN 38 (qf 4 37),
 qN 39 (ql 1 38),
 qN 40 (.ld 1 false (.v 0)),
 qN 41 (qb .andNot 39 40),
 qN 42 (.nilck (T 35)),
 qN 43 (qf 0 42),
 qN 44 (qf 4 43),
 qS 1 (T 44) (T 41)] (some [[],[0],[1],[2],[3],[],[4,5],[0,0,1,2,3,4,5,6],[7,0,1,2,3,4,5,6],[8,0,1,2,3,4,5,6],[9,6,0,1,2,3,4,5,6]]) ⟨[],[],[],[]⟩))))
theorem c73:ze_ Try.prog 73 F73=some (2,zh_ a73,[])/\z9_ a73=true:=⟨by kernel_rfl,by kernel_rfl⟩
def F74:Fr:=⟨13,[0,2,3],[]⟩
def a74:ACode :=
 (.seq (qP 0 [
 qV 1 (qI 0)])
 (.seq (qP 1 [
 qV 2 (qI 0)])
 (.seq (.block 0
 (.loop
 (.seq (.seq (qP 2 [
 qN 4 (qm 0),
 qN 5 (qi .gtr 4 0)])
 (.cond (T 5)
 .skip
 (.exit 0)))
 (.seq (.block 1
 (qP 4 [
 qN 8 (qm 2),
 qN 9 (qm 0),
 qN 10 (qi .and 9 1),
 qN 11 (qb .add 8 10),
 qV 2 (T 11)]))
 (qP 3 [
 qN 6 (qm 0),
 qN 7 (.bin .shr (T 6) (.c (.int .u64 1))),
 qV 0 (T 7)])))))
 (.seq (qP 5 [
 qN 12 (qm 2),
 qV 1 (T 12)])
 .ret))))
theorem c74:ze_ Try.prog 74 F74=some (1,zh_ a74,[.v 1])/\z9_ a74=true:=⟨by kernel_rfl,by kernel_rfl⟩
def F75:Fr:=⟨71,[0,1,5,7,9,11],[]⟩
def a75:ACode :=
 (.seq (qP 0 [
 qN 4 (.allo [(.int .i64 0),(.slice none 0 0)]),
 qV 2 (qI 0)])
 (.seq (.seq (qP 1 [
 qN 13 (qm 0),
 qN 14 (qi .lss 13 1),
 qN 15 (qt 14),
 qG 16 15 false (qm 0),
 qG 17 15 false (qi .gtr 16 9),
 qN 18 (qo 15 17),
 qN 19 (qt 18),
 qG 20 19 false (qm 1),
 qG 21 19 false (.len (T 20)),
 qG 22 19 false (qi .eql 21 0),
 qN 23 (qo 19 22)])
 (.cond (T 23)
 (.seq (qP 2 [
 qN 24 (.bld [(.int .i64 0),(.slice none 0 0)] []),
 qS 2 (T 4) (T 24),
 qV 2 (qI 1)])
 .ret)
 .skip))
 (.seq (.seq (qP 3 [
 qN 25 (qm 1),
 qN 26 (.len (T 25)),
 qN 27 (.mv (qI 0))])
 (.block 0
 (.loop
 (.seq (qP 4 [
 qN 28 (qb .lss 27 26)])
 (.seq (.cond (T 28)
 .skip
 (.exit 0))
 (.seq (.block 1
 (.seq (qP 5 [
 qN 29 (.ia 1 (T 25) (T 27)),
 qN 30 (ql 1 29),
 qV 3 (T 30)])
 (.seq (qP 6 [
 qN 31 (qm 3),
 qN 32 (qi .lss 31 1),
 qN 33 (qt 32),
 qG 34 33 false (qm 3),
 qG 35 33 false (qm 0),
 qG 36 33 false (.bin .shl (qI 1) (T 35)),
 qG 37 33 false (qb .geq 34 36),
 qN 38 (qo 33 37)])
 (.cond (T 38)
 (.seq (qP 7 [
 qN 39 (.bld [(.int .i64 0),(.slice none 0 0)] []),
 qS 2 (T 4) (T 39),
 qV 2 (qI 1)])
 .ret)
 .skip))))
 (qP 8 [
 qN 40 (qi .add 27 1),
 qN 27 (qt 40)])))))))
 (.seq (.seq (qP 9 [
 qN 41 (qm 1),
 qN 42 (.len (T 41)),
 qN 43 (.mv (qI 0))])
 (.block 2
 (.loop
 (.seq (qP 10 [
 qN 44 (qb .lss 43 42)])
 (.seq (.cond (T 44)
 .skip
 (.exit 2))
 (.seq (.block 3
 (.seq (qP 11 [
 qN 45 (.ia 1 (T 41) (T 43)),
 qN 46 (ql 1 45),
 qV 4 (T 46)])
 (.seq (qP 12 [
 qN 47 (qm 1),
 qN 48 (.len (T 47)),
 qN 49 (.mv (qI 0))])
 (.block 4
 (.loop
 (.seq (qP 13 [
 qN 50 (qb .lss 49 48)])
 (.seq (.cond (T 50)
 .skip
 (.exit 4))
 (.seq (.block 5
 (.seq (qP 14 [
 qN 51 (.ia 1 (T 47) (T 49)),
 qN 52 (ql 1 51),
 qV 5 (T 52)])
 (.seq (qP 15 [
 qN 53 (qm 4),
 qN 54 (qm 5),
 qN 55 (qb .and 53 54),
 qN 56 (qi .eql 55 0)])
 (.cond (T 56)
 (.seq (qP 16 [
 qN 57 (.bld [(.int .i64 0),(.slice none 0 0)] []),
 qS 2 (T 4) (T 57),
 qV 2 (qI 13)])
 .ret)
 .skip))))
 (qP 17 [
 qN 58 (qi .add 49 1),
 qN 49 (qt 58)])))))))))
 (qP 18 [
 qN 59 (qi .add 43 1),
 qN 43 (qt 59)])))))))
 (.seq (qP 19 [
 qN 60 (qm 0),
 qN 61 (qm 0),
 qN 62 (qm 1),
 qN 63 (.call 81 [(T 61),(T 62)]),
 qN 64 (.bld [(.int .i64 0),(.slice none 0 0)] [(0,1,(T 60)),(1,1,(T 63))]),
 qN 12 (.allo [(.int .i64 0),(.slice none 0 0)]),
 qS 2 (T 12) (T 64)])
 (.seq (.seq (qP 20 [
 qN 65 (qf 1 12),
 qN 66 (ql 1 65),
 qN 67 (.len (T 66)),
 qN 68 (qi .gtr 67 64)])
 (.cond (T 68)
 (.seq (qP 21 [
 qN 69 (.bld [(.int .i64 0),(.slice none 0 0)] []),
 qS 2 (T 4) (T 69),
 qV 2 (qI 4)])
 .ret)
 .skip))
 (.seq (qP 22 [
 qN 70 (qL 2 12),
 qS 2 (T 4) (T 70),
 qV 2 (qI 0)])
 .ret)))))))
theorem c75:ze_ Try.prog 75 F75=some (2,zh_ a75,[.c 4 2 true,.v 2])/\z9_ a75=true:=⟨by kernel_rfl,by kernel_rfl⟩
def F76:Fr:=⟨70,[0,1,4,5,6,7,9,11,13],[]⟩
def a76:ACode :=
 (.seq (qP 0 [
 qV 2 (.c (.slice none 0 0))])
 (.seq (.seq (qP 1 [
 qN 14 (qm 0),
 qN 15 (.bin .mul (qI 2) (T 14)),
 qN 16 (qi .add 15 2),
 qN 17 (qm 1),
 qN 18 (qb .geq 16 17)])
 (.cond (T 18)
 (.seq (qP 2 [
 qN 19 (qm 0),
 qN 20 (.bin .shl (qI 1) (T 19)),
 qN 21 (.bls 3 1 (.int .i64 0) 1 [(0,(T 20))]),
 qV 2 (T 21)])
 .ret)
 .skip))
 (.seq (qP 3 [
 qN 22 (qm 0),
 qN 23 (.bin .mul (qI 2) (T 22)),
 qN 24 (qi .add 23 1),
 qN 25 (qm 1),
 qN 26 (.call 76 [(T 24),(T 25)]),
 qN 27 (qm 0),
 qN 28 (.bin .mul (qI 2) (T 27)),
 qN 29 (qi .add 28 2),
 qN 30 (qm 1),
 qN 31 (.call 76 [(T 29),(T 30)]),
 qV 3 (T 26),
 qV 4 (T 31)])
 (.seq (qP 4 [
 qV 5 (.c (.slice none 0 0))])
 (.seq (.seq (qR 5 [.own (.var 5) 3 1] [
 qN 32 (qm 3),
 qN 33 (.app 3 1 8 (.c (.slice none 0 0)) (T 32)),
 qN 34 (qm 4),
 qN 35 (.app 3 1 8 (T 33) (T 34)),
 qN 36 (.len (T 35)),
 qN 37 (.mv (qI 0))])
 (.block 0
 (.loop
 (.seq (qP 6 [
 qN 38 (qb .lss 37 36)])
 (.seq (.cond (T 38)
 .skip
 (.exit 0))
 (.seq (.block 1
 (.seq (qP 7 [
 qN 39 (.ia 1 (T 35) (T 37)),
 qN 40 (ql 1 39),
 qV 6 (T 40)])
 (qR 8 [.lend (.var 5) 47] [
 qN 41 (qm 5),
 qN 42 (qm 6),
 qN 43 (qm 0),
 qN 44 (.bin .shl (qI 1) (T 43)),
 qN 45 (qb .or 42 44),
 qN 46 (.bls 3 1 (.int .i64 0) 1 [(0,(T 45))]),
 qN 47 (.app 3 1 8 (T 41) (T 46)),
 qV 5 (T 47)])))
 (qP 9 [
 qN 48 (qi .add 37 1),
 qN 37 (qt 48)])))))))
 (.seq (.seq (qP 10 [
 qN 49 (qm 3),
 qN 50 (.len (T 49)),
 qN 51 (.mv (qI 0))])
 (.block 2
 (.loop
 (.seq (qP 11 [
 qN 52 (qb .lss 51 50)])
 (.seq (.cond (T 52)
 .skip
 (.exit 2))
 (.seq (.block 3
 (.seq (qP 12 [
 qN 53 (.ia 1 (T 49) (T 51)),
 qN 54 (ql 1 53),
 qV 7 (T 54)])
 (.seq (qP 13 [
 qN 55 (qm 4),
 qN 56 (.len (T 55)),
 qN 57 (.mv (qI 0))])
 (.block 4
 (.loop
 (.seq (qP 14 [
 qN 58 (qb .lss 57 56)])
 (.seq (.cond (T 58)
 .skip
 (.exit 4))
 (.seq (.block 5
 (.seq (qP 15 [
 qN 59 (.ia 1 (T 55) (T 57)),
 qN 60 (ql 1 59),
 qV 8 (T 60)])
 (qR 16 [.lend (.var 5) 66] [
 qN 61 (qm 5),
 qN 62 (qm 7),
 qN 63 (qm 8),
 qN 64 (qb .or 62 63),
 qN 65 (.bls 3 1 (.int .i64 0) 1 [(0,(T 64))]),
 qN 66 (.app 3 1 8 (T 61) (T 65)),
 qV 5 (T 66)])))
 (qP 17 [
 qN 67 (qi .add 57 1),
 qN 57 (qt 67)])))))))))
 (qP 18 [
 qN 68 (qi .add 51 1),
 qN 51 (qt 68)])))))))
 (.seq (qR 19 [.lend (.var 5) 69] [
 qN 69 (qm 5),
 qV 2 (T 69)])
 .ret)))))))
theorem c76:ze_ Try.prog 76 F76=some (2,zh_ a76,[.v 2])/\z9_ a76=true:=⟨by kernel_rfl,by kernel_rfl⟩
def F77:Fr:=⟨23,[0,1,4,5,6],[]⟩
def a77:ACode :=
 (.seq (qP 0 [
 qN 2 (.box 3 (.v 0)),
 qN 3 (.box 3 (.v 1)),
 qV 2 (qI 0)])
 (.seq (.seq (qP 1 [
 qN 7 (qL 3 2),
 qN 8 (.mv (qI 0))])
 (.block 0
 (.loop
 (.seq (qP 2 [
 qN 9 (qi .lss 8 3)])
 (.seq (.cond (T 9)
 .skip
 (.exit 0))
 (.seq (.block 1
 (.seq (qP 3 [
 qN 10 (qt 8),
 qN 11 (.ex (.idx 3 1 false) (T 7) (T 8)),
 qV 3 (T 10),
 qV 4 (T 11)])
 (.seq (.seq (qP 4 [
 qN 12 (qm 4),
 qN 13 (qm 3),
 qN 14 (.iaa 1 3 (T 3) (T 13)),
 qN 15 (ql 1 14),
 qN 16 (qb .lss 12 15)])
 (.cond (T 16)
 (.seq (qP 5 [
 ⟨(.v 2),.asg (.c (.int .i64 (-1))),none⟩])
 .ret)
 .skip))
 (.seq (qP 6 [
 qN 17 (qm 4),
 qN 18 (qm 3),
 qN 19 (.iaa 1 3 (T 3) (T 18)),
 qN 20 (ql 1 19),
 qN 21 (qb .gtr 17 20)])
 (.cond (T 21)
 (.seq (qP 7 [
 qV 2 (qI 1)])
 .ret)
 .skip)))))
 (qP 8 [
 qN 22 (qi .add 8 1),
 qN 8 (qt 22)])))))))
 (.seq (qP 9 [
 qV 2 (qI 0)])
 .ret)))
theorem c77:ze_ Try.prog 77 F77=some (2,zh_ a77,[.v 2])/\z9_ a77=true:=⟨by kernel_rfl,by kernel_rfl⟩
def F78:Fr:=⟨10,[0,1,4],[]⟩
def a78:ACode :=
 (.seq (qP 0 [
 qV 2 (.c (.bool false))])
 (.seq (qP 1 [
 qN 5 (qm 0),
 qN 6 (qm 1),
 qN 7 (qb .and 5 6),
 qN 8 (qm 0),
 qN 9 (qb .eql 7 8),
 qV 2 (T 9)])
 .ret))
theorem c78:ze_ Try.prog 78 F78=some (2,zh_ a78,[.v 2])/\z9_ a78=true:=⟨by kernel_rfl,by kernel_rfl⟩
def F81:Fr:=⟨51,[0,1,4,5,6,7,8,10],[]⟩
def a81:ACode :=
 (.seq (qP 0 [
 qV 2 (.c (.slice none 0 0))])
 (.seq (qP 1 [
 qV 3 (.c (.slice none 0 0))])
 (.seq (.seq (qR 2 [.own (.var 3) 3 1] [
 qV 4 (qI 0)])
 (.block 0
 (.loop
 (.seq (.seq (qP 3 [
 qN 11 (qm 4),
 qN 12 (qm 0),
 qN 13 (.bin .shl (qI 1) (T 12)),
 qN 14 (qb .lss 11 13)])
 (.cond (T 14)
 .skip
 (.exit 0)))
 (.seq (.block 1
 (.seq (qP 5 [
 qV 5 (.c (.bool false)),
 qV 6 (.c (.bool true))])
 (.seq (.seq (qP 6 [
 qN 17 (qm 1),
 qN 18 (.len (T 17)),
 qN 19 (.mv (qI 0))])
 (.block 2
 (.loop
 (.seq (qP 7 [
 qN 20 (qb .lss 19 18)])
 (.seq (.cond (T 20)
 .skip
 (.exit 2))
 (.seq (.block 3
 (.seq (qP 8 [
 qN 21 (.ia 1 (T 17) (T 19)),
 qN 22 (ql 1 21),
 qV 7 (T 22)])
 (.seq (qP 9 [
 qN 23 (qm 5),
 qN 24 (qt 23),
 qG 25 24 false (qm 7),
 qG 26 24 false (qm 4),
 qG 27 24 false (qb .eql 25 26),
 qN 28 (qo 24 27),
 qV 5 (T 28)])
 (qP 10 [
 qN 29 (qm 6),
 qN 30 (qt 29),
 qG 31 30 true (qm 7),
 qG 32 30 true (qm 4),
 qG 33 30 true (qb .eql 31 32),
 qG 34 30 true (qt 33),
 qG 35 34 false (qm 7),
 qG 36 34 false (qm 4),
 qG 37 34 false (.call 78 [(T 35),(T 36)]),
 qG 38 34 false (.un .not (T 37)),
 qG 39 30 true (qo 34 38),
 qN 40 (qa 30 39),
 qV 6 (T 40)]))))
 (qP 11 [
 qN 41 (qi .add 19 1),
 qN 19 (qt 41)])))))))
 (.seq (qP 12 [
 qN 42 (qm 5),
 qN 43 (qt 42),
 qG 44 43 true (qm 6),
 qN 45 (qa 43 44)])
 (.cond (T 45)
 (qR 13 [.lend (.var 3) 49] [
 qN 46 (qm 3),
 qN 47 (qm 4),
 qN 48 (.bls 3 1 (.int .i64 0) 1 [(0,(T 47))]),
 qN 49 (.app 3 1 8 (T 46) (T 48)),
 qV 3 (T 49)])
 .skip)))))
 (qP 4 [
 qN 15 (qm 4),
 qN 16 (qi .add 15 1),
 qV 4 (T 16)]))))))
 (.seq (qR 14 [.lend (.var 3) 50] [
 qN 50 (qm 3),
 qV 2 (T 50)])
 .ret))))
theorem c81:ze_ Try.prog 81 F81=some (2,zh_ a81,[.v 2])/\z9_ a81=true:=⟨by kernel_rfl,by kernel_rfl⟩
theorem zp_:Try.prog.follows .mixedOrders=true:=by kernel_rfl
theorem li_{P:Program}{f:Nat}{args:List V}{z:Nat}{xs:List V}(h:PC P f args fun r=>(∃e,r=.own true e z xs)\/(xs=[]/\r=.s (.slice none 0 0))):PC P f args fun r=>r=.list z xs:=by
 intro g w vals hb
 refine(h g w vals hb).mono ?_
 rintro e w' ⟨v,r,bs',g',h1,⟨rfl,hq⟩,hok,hbd,hx⟩
 rcases hq with ⟨e,rfl⟩|⟨rfl,rfl⟩
 .obtain⟨g2,k1,k2,k3,k4⟩:=tm_ (e':=0) (l:=.var 0) hbd (by decide) (S':=Stn [.own false 0 z xs] []) rfl
  have hv:z7_ (Frn 1) g2 w' ⟨#[v],[]⟩ (.var 0)=some v:=by simp[z7_,Frn,Act.tv]
  have hr:=k1.rep (.l (.var 0)) (.own false 0 z xs) v ⟨rfl,hv⟩
  obtain⟨q1,q2⟩:=uP_ (g:=g2) (w:=w') (args:=[.list z xs]) (vals:=#[v]) rfl (by simp[immA,immC]) (fun i y u hy hu=>by
   cases i with
   |zero=>simp at hy hu;subst hy;subst hu;cases hr with|ownf h h0=>exact h
   |succ i=>simp at hy) k1.Ilt
  refine⟨v,.list z xs,[],g2,h1,⟨rfl,rfl⟩,rfl,q1,hx.os,hx.tape,hx.output,hx.size,fun k hk hn=>?_,fun k hk=>absurd hk (q2 k),fun b hb=>by simp at hb⟩
  obtain⟨p1,p2⟩:=hx.same k hk hn
  refine⟨p1,((k2.same k (zzk_ hk hx.size) (fun ho=>?_)).2).trans p2⟩
  rcases hx.owned k ho with p|p
  .exact hn p
  .omega
 .have hv:z7_ (Frn 1) g' w' ⟨#[v],[]⟩ (.var 0)=some v:=by simp[z7_,Frn,Act.tv]
  have hr:=hbd.rep (.l (.var 0)) (.s (.slice none 0 0)) v ⟨rfl,hv⟩
  obtain⟨q1,q2⟩:=uP_ (g:=g') (w:=w') (args:=[.list z []]) (vals:=#[v]) rfl (by simp[immA,immC]) (fun i y u hy hu=>by
   cases i with
   |zero=>simp at hy hu;subst hy;subst hu;exact qb_ (.inr ⟨rfl,z,rfl⟩) hr
   |succ i=>simp at hy) hbd.Ilt
  exact⟨v,.list z [],[],g',h1,⟨rfl,rfl⟩,rfl,q1,hx.os,hx.tape,hx.output,hx.size,fun k hk hn=>hx.same k hk hn,fun k hk=>absurd hk (q2 k),fun b hb=>by simp at hb⟩
end Go.Proofs.Ytpfjlnmnolbiaaa
