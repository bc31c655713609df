/- Parts of the proof of a law of chapter 30, put behind one another. -/
import Derived.WalkKit
import Derived.ArgAppend
import Derived.Lib.AppendStr
import Derived.Laws.BytesArg
import Derived.Laws.StructEq
import Derived.Laws.Cells
import Derived.Deep.Upon
import Derived.Laws.Tables
import Derived.Great.BuildSlice
set_option linter.unusedVariables false
set_option linter.unusedSimpArgs false
namespace Go.Proofs.Ytnbppaolinopeaa
open Go.RowKit Go.Proofs
section
theorem yya_:type_of% @Option.some.injEq:=@Option.some.injEq
theorem yyb_:type_of% @World.cell?_of_block:=@World.cell?_of_block
theorem yyc_:type_of% @Prod.mk.injEq:=@Prod.mk.injEq
theorem yyd_:type_of% @Nat.le_trans:=@Nat.le_trans
theorem yye_:type_of% @IntKind.wrap_i64:=@IntKind.wrap_i64
theorem yyg_:type_of% @Nat.mul_le_mul_right:=@Nat.mul_le_mul_right
theorem yyh_:type_of% @Bool.not_eq_true':=@Bool.not_eq_true'
theorem yyi_:type_of% @Bool.false_eq_true:=@Bool.false_eq_true
theorem yyj_:type_of% @List.eq_nil_of_length_eq_zero:=@List.eq_nil_of_length_eq_zero
theorem yyk_:type_of% @List.getD_eq_getElem?_getD:=@List.getD_eq_getElem?_getD
theorem yyl_:type_of% @List.mem_of_mem_drop:=@List.mem_of_mem_drop
theorem yym_:type_of% @Nat.lt_or_ge:=@Nat.lt_or_ge
theorem yyn_:type_of% @Nat.add_mul:=@Nat.add_mul
theorem yyo_:type_of% @Nat.eq_zero_or_pos:=@Nat.eq_zero_or_pos
theorem yyp_:type_of% @List.getElem_mem:=@List.getElem_mem
theorem yyq_:type_of% @Nat.eq_of_beq_eq_true:=@Nat.eq_of_beq_eq_true
theorem yys_:type_of% @Int.toNat_natCast:=@Int.toNat_natCast
theorem yyu_:type_of% @Array.getElem?_modify:=@Array.getElem?_modify
theorem zza_ : type_of% @Option.bind_eq_some_iff := @Option.bind_eq_some_iff
theorem zzb_ : type_of% @Option.map_eq_some_iff := @Option.map_eq_some_iff
theorem zzc_ : type_of% @List.getElem?_eq_some_iff := @List.getElem?_eq_some_iff
theorem zzd_ : type_of% @List.mem_of_getElem? := @List.mem_of_getElem?
theorem zze_ : type_of% @List.setIfInBounds_toArray := @List.setIfInBounds_toArray
theorem zzf_ : type_of% @List.getElem?_eq_getElem := @List.getElem?_eq_getElem
theorem zzg_ : type_of% @Bool.and_eq_true := @Bool.and_eq_true
theorem zzh_ : type_of% @List.all_eq_true := @List.all_eq_true
theorem zzi_ : type_of% @List.set_cons_zero := @List.set_cons_zero
theorem zzj_ : type_of% @List.set_cons_succ := @List.set_cons_succ
theorem zzk_ : type_of% @Nat.lt_of_lt_of_le := @Nat.lt_of_lt_of_le
theorem zzl_ : type_of% @Nat.le_refl := @Nat.le_refl
theorem zzm_ : type_of% @Array.getElem?_eq_some_iff := @Array.getElem?_eq_some_iff
theorem zzn_ : type_of% @Nat.zero_le := @Nat.zero_le
theorem zzo_ : type_of% @List.getElem?_append_left := @List.getElem?_append_left
theorem zzp_ : type_of% @decide_eq_true_eq := @decide_eq_true_eq
theorem zzq_ : type_of% @List.append_assoc := @List.append_assoc
theorem zzr_ : type_of% @List.length_append := @List.length_append
theorem zzs_ : type_of% @List.getElem?_map := @List.getElem?_map
theorem zzt_ : type_of% @Option.bind_some := @Option.bind_some
theorem zzu_ : type_of% @List.getElem?_take := @List.getElem?_take
theorem zzv_ : type_of% @List.getElem?_append_right := @List.getElem?_append_right
theorem zzw_ : type_of% @List.mem_append := @List.mem_append
theorem zzx_ : type_of% @List.take_of_length_le := @List.take_of_length_le
theorem zzy_ : type_of% @Bool.or_eq_true := @Bool.or_eq_true
theorem zzz_ : type_of% @Option.map_some := @Option.map_some
theorem zzA_ : type_of% @List.getElem?_drop := @List.getElem?_drop
def nT_(b:UInt8):Value:=.int .u8 b.toNat
def tN_(l:List UInt8):List Value:=l.map nT_
theorem ug_(l:List UInt8)(k:Nat)(h:k<l.length):(tN_ l)[k]?=some (.int .u8 l[k].toNat):=by simp[tN_,nT_,zzf_ h]
def At(w:World)(A:Option Addr)(xs:List Value):Prop :=
 ∀j u,xs[j]?=some u->∃b o,A=some ⟨b,o,none⟩/\b<w.heap.size/\w.cell? ⟨b,o+j,none⟩=some u
theorem At.nil(w:World)(A:Option Addr):At w A []:=fun j u h=>by simp at h
theorem At.below{w w':World}{A:Option Addr}{xs:List Value}{B:Nat}(h:At w A xs)(hb:Below B w w')(hB:w.heap.size<=B):At w' A xs:=fun j u hj=>by
 obtain⟨b,o,e,hlt,hc⟩:=h j u hj
 refine⟨b,o,e,zzk_ hlt hb.size,?_⟩
 rw[<-hc]
 exact hb.cell (p:=⟨b,o+j,none⟩) (show b<B by omega)
theorem At.alloc{w:World}{A:Option Addr}{xs:List Value}(h:At w A xs)(o:Obj):At (w.alloc o) A xs :=
 h.below ((Below.refl w.heap.size w).alloc (zzl_ _) o) (zzl_ _)
theorem At.drew{w:World}{A:Option Addr}{xs:List Value}(h:At w A xs):At w.drew A xs:=h
theorem zJ_(b o j:Nat):(⟨b,o,none⟩:Addr).add j=⟨b,o+j,none⟩:=by
 unfold Addr.add
 split
 .next h=>subst h;rfl
 .rfl
theorem At.cells{w:World}{ad:Addr}{xs:List Value}(h:At w (some ad) xs):∀j u,xs[j]?=some u->w.cell? (ad.add j)=some u:=fun j u hj=>by
 obtain⟨b,o,e,_,hc⟩:=h j u hj
 injection e with e
 subst e
 rw[zJ_]
 exact hc
theorem At.none_nil{w:World}{xs:List Value}(h:At w none xs):xs=[]:=by
 cases xs with
 |nil=>rfl
 |cons x r=>obtain⟨b,o,e,_⟩:=h 0 x rfl;cases e
theorem At.take{w:World}{A:Option Addr}{xs:List Value}(h:At w A xs)(k:Nat):At w A (xs.take k):=fun j u hj=>by
 rw[zzu_]at hj
 split at hj
 .exact h j u hj
 .cases hj
theorem At.drop{w:World}{A:Option Addr}{xs:List Value}(h:At w A xs)(k:Nat):At w (A.map (·.add k)) (xs.drop k):=fun j u hj=>by
 rw[zzA_]at hj
 obtain⟨b,o,e,hlt,hc⟩:=h (k+j) u hj
 subst e
 exact⟨b,o+k,by rw[zzz_,zJ_],hlt,by rw[Nat.add_assoc];exact hc⟩
def Gr(w:World)(B:Nat)(e:TypeId)(size:Nat)(v:Value)(n:Nat)(xs:List Value):Prop :=
 w.ownsRow B e size v n xs\/(∃A,v=.slice A n n/\(A=none->n=0)/\xs.length=n*size/\At w A xs)
theorem o0_{w:World}{B B':Nat}{e:TypeId}{size:Nat}{v:Value}{n:Nat}{xs:List Value}(h:w.ownsRow B e size v n xs)(hB:B'<=B):w.ownsRow B' e size v n xs:=by
 refine⟨h.1,?_⟩
 rcases h.2 with h2|⟨g,cap,cur,hv,hb,r⟩
 .exact .inl h2
 .exact .inr ⟨g,cap,cur,hv,yyd_ hB hb,r⟩
theorem qG_{w w':World}{B B':Nat}{e:TypeId}{size:Nat}{v:Value}{n:Nat}{xs:List Value}(h:w.ownsRow B e size v n xs)(hb:Below B' w w')(hB:w.heap.size<=B'):w'.ownsRow B e size v n xs:=by
 refine⟨h.1,?_⟩
 rcases h.2 with h2|⟨g,cap,cur,hv,hg,hh,r⟩
 .exact .inl h2
 .refine .inr ⟨g,cap,cur,hv,hg,?_,r⟩
  rw[hb.block g (zzk_ (zzm_.1 hh).1 hB)]
  exact hh
theorem Gr.below{w w':World}{B B':Nat}{e:TypeId}{size:Nat}{v:Value}{n:Nat}{xs:List Value}(h:Gr w B e size v n xs)(hb:Below B' w w')(hB:w.heap.size<=B'):Gr w' B e size v n xs:=by
 rcases h with h|⟨A,h1,h2,h3,h4⟩
 .exact .inl (qG_ h hb hB)
 .exact .inr ⟨A,h1,h2,h3,h4.below hb hB⟩
theorem Gr.alloc{w:World}{B:Nat}{e:TypeId}{size:Nat}{v:Value}{n:Nat}{xs:List Value}(h:Gr w B e size v n xs)(o:Obj):Gr (w.alloc o) B e size v n xs :=
 h.below ((Below.refl w.heap.size w).alloc (zzl_ _) o) (zzl_ _)
theorem At.new(w:World)(cs:List Value)(e:TypeId):At (w.alloc (.cells cs.toArray e)) (some ⟨w.heap.size,0,none⟩) cs:=fun j u hj=>by
 refine⟨w.heap.size,0,rfl,by simp,?_⟩
 rw[cell_of_row (w.alloc (.cells cs.toArray e)) w.heap.size (0+j) cs.toArray e (0,0) (heap_alloc_new w _)]
 simpa using hj
theorem tx_(newLen:Nat):∀(r c:Nat),c<=newLen+(newLen+768)/4->Builtin.growBy newLen r c<=newLen+(newLen+768)/4
 |0,_,h=>h
 | r + 1, c, h => by
   rw[Builtin.growBy]
   split
   .exact h
   .exact tx_ newLen r _ (by omega)
theorem nx_{need old:Nat}(h:old<need):Builtin.nextslicecap need old<=need+(need+768)/4+512:=by
 unfold Builtin.nextslicecap
 split
 .omega
 .split
  .omega
  .have:=tx_ need 4 old (by omega)
   omega
theorem wo_{need old bytes:Nat}(h:old<need)(h16:bytes<=65536)(hb:need*bytes<=140806207832064):Builtin.nextslicecap need old*bytes<=281474976710656:=by
 have h1:Builtin.nextslicecap need old*bytes<=(need+(need+768)/4+512)*bytes:=yyg_ _ (nx_ h)
 have h2:(need+(need+768)/4+512)*bytes<=need*bytes+(need*bytes)/4+705*bytes:=by
  have e:(need+(need+768)/4+512)*bytes=need*bytes+((need+768)/4)*bytes+512*bytes:=by rw[yyn_,yyn_]
  have h3:((need+768)/4)*bytes<=(need*bytes)/4+193*bytes:=by
   have h4:4*(((need+768)/4)*bytes)<=need*bytes+768*bytes:=by
    rw[<-Nat.mul_assoc,<-Nat.add_mul]
    exact yyg_ _ (by omega)
   omega
  omega
 omega
section
variable{P:Program}(w:World)
theorem s5_(base:Nat)(t ty e:TypeId)(i:TypeInfo)(z:Value)(size bytes:Nat)(ht:P.underlying t=some (.slice e))(hi:P.info? e=some i)(hz:i.zero=some z)
 (hsize:i.size=size) (hby:i.bytes=bytes) (hzs:z.cells.size=size) (h16:bytes<=65536)
 (v:Value) (n:Nat) (xs:List Value) (hown:w.ownsRow base e size v n xs)
 (a:Addr) (m c:Nat) (news:List Value) (hl:news.length=m*size) (hnews:∀j u,news[j]?=some u->w.cell? (a.add j)=some u) (h1:∀u∈news,u.oneCell'=true)
 (h63:n+m<=maxLen) (hbytes:(n+m)*bytes<=140806207832064) (hbase:base<=w.heap.size) :
 ∃v' w',(Builtin.append_ #[t,t] ty #[v,.slice (some a) m c]).run P w=.ok v' w'/\w'.ownsRow base e size v' (n+m) (xs++news)/\w.grownBy w' v.ownBlock/\(∀k,v'.ownBlock=some k->v.ownBlock=some k\/w.heap.size<=k):=by
 subst hsize
 subst hby
 have hlen:(xs++news).length=(n+m)*i.size:=by rw[zzr_,hown.1,hl,yyn_]
 have h63':((n+m:Nat):Int)<=9223372036854775807:=by simp only[maxLen]at h63;omega
 have made:∀(old:Nat),old<n+m ->
  (w.drew.alloc (.cells (xs.toArray++news.toArray++Builtin.zeroCells z.cells (grownCap w (n+m) old e-(n+m))) e)).ownsRow base e i.size
   (.slice (some ⟨w.heap.size,0,none⟩) (n+m) (grownCap w (n+m) old e)) (n+m) (xs++news):=by
  intro old _
  refine⟨hlen,.inr ⟨w.heap.size,_,_,rfl,hbase,heap_alloc_new w.drew _,grownCap_ge w (n+m) old e,grownCap_le_maxLen w (n+m) old e h63,?_,?_⟩⟩
  .have hge:=grownCap_ge w (n+m) old e
   simp only[Array.size_append,List.size_toArray,size_zeroCells,hzs]
   rw[hown.1,hl,<-Nat.add_mul,<-Nat.add_mul]
   congr 1
   omega
  .rw[<-hlen]
   simp only[Array.toList_append,zzq_]
   rw[<-List.append_assoc]
   exact List.take_left
 have grew:∀(o:Obj) (row:Option Nat),w.grownBy (w.drew.alloc o) row:=fun o row=>⟨rfl,rfl,rfl,by simp,fun k hk _=>Below.heap_alloc w.drew _ k hk⟩
 rcases hown.2 with ⟨rfl,rfl⟩|⟨g,cap,cur,rfl,hbg,hg,hnc,hcm,hcs,htake⟩
 .have hx:xs=[]:=yyj_ (by simpa using hown.1)
  subst hx
  rcases yyo_ m with hm|hm
  .subst hm
   have hn:news=[]:=yyj_ (by simpa using hl)
   subst hn
   refine⟨.slice none 0 0,w,?_,World.ownsRow_nil w base e i.size,⟨rfl,rfl,rfl,zzl_ _,fun _ _ _=>rfl⟩,fun k hk=>.inl hk⟩
   simp[Builtin.append_,run_underlying ht,sizeOf,typeInfo,hi,Builtin.lenOf,Builtin.firstCells,loadCells,loadCellsFrom]
  .have hr:=run_append_nil (P:=P) w t ty e i z ht hi hz a m c news hl hnews hm (by omega) (by have:=hbytes;simp only[Nat.zero_add]at this;omega)
   have hm':=made 0 (by omega)
   simp only[Nat.zero_add,List.nil_append,Array.empty_append]at hm' ⊢
   exact⟨_,_,hr,hm',grew _ _,fun k hk=>.inr (by simp[Value.ownBlock]at hk;omega)⟩
 .by_cases hroom:n+m<=cap
  .have hfit:n*i.size+news.length<=cur.size:=by rw[hl,hcs,<-Nat.add_mul];exact yyg_ _ hroom
   have hr:=run_append_room (P:=P) w t ty e i ht hi g n cap cur hg a m c news hl hnews h1 hroom hfit
   refine⟨_,_,hr,⟨hlen,.inr ⟨g,cap,_,rfl,hbg,setRow_heap w g cur _ e _ hg,hroom,hcm,?_,?_⟩⟩,⟨rfl,rfl,rfl,by simp,fun k _ hk=>setRow_other w g k _ (fun e=>hk (by simp[Value.ownBlock,e]))⟩,fun k hk=>.inl hk⟩
   .simp only[List.size_toArray,zzr_,List.length_take,List.length_drop,Array.length_toList]
    omega
   .rw[htake,<-hlen]
    exact List.take_left
  .have hr:=run_append_grow (P:=P) w t ty e i z ht hi hz ⟨g,0,none⟩ n cap xs hown.1 (hown.cells (g:=g) rfl) a m c news hl hnews (by omega) h63' (wo_ (by omega) h16 hbytes)
   exact⟨_,_,hr,made cap (by omega),grew _ _,fun k hk=>.inr (by simp[Value.ownBlock]at hk;omega)⟩
theorem t6_(t ty e:TypeId)(i:TypeInfo)(z:Value)(size bytes:Nat)(ht:P.underlying t=some (.slice e))(hi:P.info? e=some i)(hz:i.zero=some z)
 (hsize:i.size=size) (hby:i.bytes=bytes) (hzs:z.cells.size=size) (h16:bytes<=65536)
 (b:Addr) (n cap:Nat) (olds:List Value) (hlo:olds.length=n*size) (holds:∀j u,olds[j]?=some u->w.cell? (b.add j)=some u)
 (a:Addr) (m c:Nat) (news:List Value) (hl:news.length=m*size) (hnews:∀j u,news[j]?=some u->w.cell? (a.add j)=some u)
 (hg:cap<n+m) (h63:n+m<=maxLen) (hbytes:(n+m)*bytes<=140806207832064) :
 ∃v' w',(Builtin.append_ #[t,t] ty #[.slice (some b) n cap,.slice (some a) m c]).run P w=.ok v' w'/\w'.ownsRow w.heap.size e size v' (n+m) (olds++news)/\w.grownBy w' none:=by
 subst hsize
 subst hby
 have hlen:(olds++news).length=(n+m)*i.size:=by rw[zzr_,hlo,hl,yyn_]
 have hr:=run_append_grow (P:=P) w t ty e i z ht hi hz b n cap olds hlo holds a m c news hl hnews hg (by simp only[maxLen]at h63;omega) (wo_ hg h16 hbytes)
 have hge:=grownCap_ge w (n+m) cap e
 refine⟨_,_,hr,⟨hlen,.inr ⟨w.heap.size,_,_,rfl,zzl_ _,heap_alloc_new w.drew _,hge,grownCap_le_maxLen w (n+m) cap e h63,?_,?_⟩⟩,⟨rfl,rfl,rfl,by simp,fun k hk _=>Below.heap_alloc w.drew _ k hk⟩⟩
 .simp only[Array.size_append,List.size_toArray,size_zeroCells,hzs]
  rw[hlo,hl,<-Nat.add_mul,<-Nat.add_mul]
  congr 1
  omega
 .rw[<-hlen]
  simp only[Array.toList_append,zzq_]
  rw[<-List.append_assoc]
  exact List.take_left
theorem t5_(base:Nat)(t ty e:TypeId)(i:TypeInfo)(size:Nat)(ht:P.underlying t=some (.slice e))(hi:P.info? e=some i)
 (v:Value) (n:Nat) (xs:List Value) (hown:w.ownsRow base e size v n xs) (c:Nat):(Builtin.append_ #[t,t] ty #[v,.slice none 0 c]).run P w=.ok v w:=by
 rcases hown.2 with ⟨rfl,rfl⟩|⟨g,cap,cur,rfl,_,_,hnc,_⟩
 .simp[Builtin.append_,run_underlying ht,sizeOf,typeInfo,hi,Builtin.lenOf,Builtin.firstCells]
 .simp[Builtin.append_,run_underlying ht,sizeOf,typeInfo,hi,Builtin.lenOf,Builtin.firstCells,hnc,storeCells]
theorem t3_(t ty e:TypeId)(i:TypeInfo)(ht:P.underlying t=some (.slice e))(hi:P.info? e=some i)
 (A A':Option Addr) (n c:Nat):(Builtin.append_ #[t,t] ty #[.slice A n n,.slice A' 0 c]).run P w=.ok (.slice A n n) w:=by
 cases A<;>cases A'<;>simp[Builtin.append_,run_underlying ht,sizeOf,typeInfo,hi,Builtin.lenOf,Builtin.firstCells,loadCells,loadCellsFrom,storeCells]
theorem nk_(src e dst:TypeId)(hs:P.underlying src=some (.slice e))(he:P.underlying e=some (.int .u8))(hd:P.underlying dst=some .string)(A:Option Addr)(n c:Nat)(l:List UInt8)(hn:l.length=n)(h:At w A (tN_ l)) :
 (convert src dst (.slice A n c)).run P w=.ok (.string ⟨l.toArray⟩) w:=by
 cases l with
 | nil =>
   simp at hn
   subst hn
   cases A with
   |none=>exact run_convert_bytes_nil w src e hs he 0 c dst hd
   | some ad =>
     rw[run_convert_bytes_string w src dst e _ 0 c hs he hd]
     simp[Conv.bytesToString,loadCells,loadCellsFrom]
     rfl
 | cons x r =>
   obtain⟨b,o,rfl,_,_⟩:=h 0 (nT_ x) rfl
   have hc:∀i,i<n->w.cell? ⟨b,o+i,none⟩=some (.int .u8 (((x::r).map fun y:UInt8=>(y.toNat:Int)).getD i 0)):=by
    intro i hi
    have hi':i<(x::r).length:=by omega
    obtain⟨b',o',e',_,hc'⟩:=h i _ (ug_ _ i hi')
    injection e' with e'
    injection e' with e1 e2
    subst e1
    subst e2
    rw[hc']
    congr 2
    rw[List.getD,zzs_,zzf_ hi']
    rfl
   have:=run_convert_bytes_arg (P:=P) w src e hs he b o n c ((x::r).map fun y:UInt8=>(y.toNat:Int)) (by simpa using hn) hc dst hd
   rw[this]
   congr 2
   simp[strOfNums]
   apply List.ext_getElem?
   intro i
   rw[zzs_]
   cases r[i]?<;>simp
end
end
inductive Loc where
 |var (i:Nat)
 |cell (b o:Nat)
deriving DecidableEq
inductive V where
 |s (v:Value)
 |list (z:Nat) (xs:List V)
 |own (m:Bool) (e z:Nat) (xs:List V)
 |lent (d ep e z:Nat) (xs:List V)
 |agg (cs:List V)
 |tup (vs:List V)
 |ptr (b o:Nat)
 |ip (cs:List V)
 |view (l:Loc) (ep:Nat)
 |sview (l:Loc) (ep lo n:Nat)
 |vp (l:Loc) (ep i q:Nat)
 |no
 |gone
def FULL:Nat:=1000000007
def FRZ:Nat:=1000000006
def ptrV(k o:Nat):Value:=if o<1000000000 then .pointer (some ⟨k,o,none⟩) else .func (.func (o-1000000000)) #[] #[.pointer (some ⟨k,0,none⟩)]
theorem vn_{k o:Nat}(h:o<1000000000):ptrV k o=.pointer (some ⟨k,o,none⟩):=by simp[ptrV,h]
theorem pY_{k o:Nat}:(ptrV k o).oneCell'=true:=by
 unfold ptrV
 split<;>rfl
theorem qv_{k f:Nat}:ptrV k (1000000000+f)=.func (.func f) #[] #[.pointer (some ⟨k,0,none⟩)]:=by
 unfold ptrV
 rw[if_neg (by omega),Nat.add_sub_cancel_left]
structure St where
 tm:Nat->V
 vs:List V
 bx:List (List V)
 ep:Nat
def cellsOf:V->List V
 |.agg cs=>cs
 |x=>[x]
def flat:List V->List V
 |[]=>[]
 |x::r=>cellsOf x++flat r
def immC:V->Bool
 |.s _|.list _ _=>true
 |_=>false
def locky:V->Bool
 |.own _ _ _ _|.lent _ _ _ _ _|.gone=>true
 |_=>false
def St.at(S:St):Loc->Option V
 |.var i=>S.vs[i]?
 |.cell b o=>(S.bx[b]?).bind (·[o]?)
def upd(f:Nat->V)(d:Nat)(x:V):Nat->V:=fun t=>if t=d then x else f t
theorem zm_(f:Nat->V)(d:Nat)(x:V):upd f d x d=x:=by simp[upd]
theorem y9_(f:Nat->V){d t:Nat}(x:V)(h:t≠d):upd f d x t=f t:=by simp[upd,h]
def St.row(S:St)(l:Loc):Option (Nat×List V) :=
 match S.at l with
 |some (.own _ _ z xs)=>some (z,xs)
 |some (.lent _ e0 _ z xs)=>if e0=S.ep then some (z,xs) else none
 |_=>none
def cont(S:St):V->Option (Nat×List V)
 |.list z xs=>some (z,xs)
 |.own _ _ z xs=>some (z,xs)
 |.s (.slice none 0 0)=>some (0,[])
 |.view l e=>if e=S.ep then S.row l else none
 |.sview l e lo n=>if e=S.ep then (S.row l).bind fun r=>if lo+n<=r.2.length then some (r.1,(r.2.drop lo).take n) else none else none
 |_=>none
def yh_(S:St):V->Option V
 |.s v=>some (.s v)
 |.list z xs=>some (.list z xs)
 |.own true e z xs=>some (.own true e z xs)
 |.own false e z xs=>if e=FULL then some (.own false e z xs) else some (.list z xs)
 |.ptr b o=>some (.ptr b o)
 |.ip cs=>some (.ip cs)
 |.view l e=>if e=S.ep then (match S.at l with|some (.own false _ z xs)=>some (.list z xs)|_=>none) else none
 |.sview l e lo n=>if e=S.ep then (match S.at l with|some (.own false _ z xs)=>(if lo+n<=xs.length then some (.list z ((xs.drop lo).take n)) else none)|_=>none) else none
 |_=>none
def yR_(S:St):List V->Option (List V)
 |[]=>some []
 |x::r=>(yh_ S x).bind fun y=>(yR_ S r).bind fun q=>some (y::q)
def give(S:St):V->Option V
 |.agg cs=>(yR_ S cs).bind fun q=>some (.agg q)
 |x=>yh_ S x
def spentL:V->V
 |.own true _ _ _=>.gone
 |x=>x
def spent:V->V
 |.agg cs=>.agg (cs.map spentL)
 |.tup _=>.gone
 |x=>spentL x
def immL:V->V
 |.own _ _ z xs=>.list z xs
 |x=>x
def toImm:V->V
 |.agg cs=>.agg (cs.map immL)
 |x=>immL x
inductive Opd where
 |c (v:Value)
 |t (t:Nat)
 |v (i:Nat)
inductive Dst where
 |none
 |t (t:Nat)
 |v (i:Nat)
def ofC:Value->V
 |.agg cs=>.agg (cs.toList.map .s)
 |v=>.s v
def y6_(l:Loc)(ep:Nat):V->V
 |.own true _ _ _=>.view l ep
 |.own false e z xs=>if e=FULL\/e=FRZ then .own false e z xs else .list z xs
 |.lent _ _ _ _ _=>.view l ep
 |x=>x
inductive LK where
 |int
 |bool
 |str
deriving DecidableEq
inductive Ex where
 |eqA (ne:Bool) (ks:List LK)
 |prt (off n:Nat) (ag:Bool)
 |idx (len z:Nat) (ag:Bool)
 |sidx
inductive AOp where
 |ex (k:Ex) (x y:Opd)
 |isn (ne:Bool) (x:Opd)
 |mv (x:Opd)
 |asg (x:Opd)
 |pick (c a b:Opd)
 |bin (op:BinOp) (x y:Opd)
 |bib (op:BinOp) (x y:Opd)
 |un (op:UnOp) (x:Opd)
 |conv (k:IntKind) (x:Opd)
 |b2s (x:Opd)
 |nilck (x:Opd)
 |ext (t i:Nat)
 |bld (zs:List Value) (parts:List (Nat×Nat×Opd))
 |bls (e z:Nat) (zero:Value) (n:Nat) (parts:List (Nat×Opd))
 |allo (zs:List Value)
 |box (n:Nat) (x:Opd)
 |ld (n:Nat) (ag:Bool) (p:Opd)
 |st (n:Nat) (p x:Opd)
 |fa (off:Nat) (p:Opd)
 |ia (z:Nat) (x i:Opd)
 |iaa (z len:Nat) (x i:Opd)
 |sl (e z:Nat) (x:Opd) (lo hi mx:Option Opd)
 |ssl (x:Opd) (lo hi:Option Opd)
 |app (e z bytes:Nat) (x y:Opd)
 |len (x:Opd)
 |slen (x:Opd)
 |mk (e z bytes:Nat) (zero:Value) (n c:Opd)
 |mnx (mx:Bool) (x y:Opd)
 |cvb (x:Opd)
 |mkf (f:Nat) (x:Opd)
 |call (f:Nat) (args:List Opd)
 |callv (t:Nat) (args:List Opd)
structure AOper where
 dst:Dst
 op:AOp
 guard:Option (Nat×Bool)
def binS(op:BinOp):Value->Value->Option Value
 | .int k a, .int k' b =>
   match op with
   |.shl=>if b<0 then none else some (.int k (k.wrap (a*2^(min b.toNat k.bits))))
   |.shr=>if b<0 then none else some (.int k (a.fdiv (2^(min b.toNat k.bits))))
   |.add=>if k=k' then some (.int k (k.wrap (a+b))) else none
   |.sub=>if k=k' then some (.int k (k.wrap (a-b))) else none
   |.mul=>if k=k' then some (.int k (k.wrap (a*b))) else none
   |.quo=>if k=k' then (if b=0 then none else some (.int k (k.wrap (a.tdiv b)))) else none
   |.rem=>if k=k' then (if b=0 then none else some (.int k (a.tmod b))) else none
   |.and=>if k=k' then some (.int k (k.wrap (BitVec.ofInt k.bits a&&&BitVec.ofInt k.bits b).toNat)) else none
   |.or=>if k=k' then some (.int k (k.wrap (BitVec.ofInt k.bits a|||BitVec.ofInt k.bits b).toNat)) else none
   |.xor=>if k=k' then some (.int k (k.wrap (BitVec.ofInt k.bits a^^^BitVec.ofInt k.bits b).toNat)) else none
   |.andNot=>if k=k' then some (.int k (k.wrap (BitVec.ofInt k.bits a&&&~~~ BitVec.ofInt k.bits b).toNat)) else none
   |.eql=>if k=k' then some (.bool (a==b)) else none
   |.neq=>if k=k' then some (.bool (a != b)) else none
   |.lss=>if k=k' then some (.bool (decide (a<b))) else none
   |.leq=>if k=k' then some (.bool (decide (a<=b))) else none
   |.gtr=>if k=k' then some (.bool (decide (a>b))) else none
   |.geq=>if k=k' then some (.bool (decide (a>=b))) else none
 | .string a, .string b =>
   match op with
   |.eql=>some (.bool (a.toList==b.toList))
   |.neq=>some (.bool !(a.toList==b.toList))
   |.lss=>some (.bool (Op.bytesLess a.toList b.toList))
   |.leq=>some (.bool (Op.bytesLess a.toList b.toList||a.toList==b.toList))
   |.gtr=>some (.bool !(Op.bytesLess a.toList b.toList||a.toList==b.toList))
   |.geq=>some (.bool !Op.bytesLess a.toList b.toList)
   |_=>none
 |_,_=>none
def binB(op:BinOp):Value->Value->Option Value
 | .bool a, .bool b =>
   match op with
   |.eql=>some (.bool (a==b))
   |.neq=>some (.bool !(a==b))
   |_=>none
 |_,_=>none
def unS(op:UnOp):Value->Option Value
 |.bool b=>match op with|.not=>some (.bool !b)|_=>none
 | .int k n => match op with
   |.neg=>some (.int k (k.wrap (0-n)))
   |.xor=>some (.int k (k.wrap (BitVec.ofInt k.bits (if k.signed then -1 else k.max)^^^BitVec.ofInt k.bits n).toNat))
   |_=>none
 |_=>none
def y2_:V->Bool
 |.own true _ _ _=>true
 |_=>false
def zE_(tm:Nat->V):Opd->(Nat->V)
 | .t t =>
   match tm t with
   |.own true _ _ _=>upd tm t .gone
   |.agg cs=>if cs.any y2_ then upd tm t (.agg (cs.map spentL)) else tm
   |_=>tm
 |_=>tm
def y7_:V->Bool
 |.own _ _ _ _|.lent _ _ _ _ _|.tup _=>false
 |.agg cs=>cs.all immC
 |_=>true
def wJ_(S:St)(tm:Nat->V):Opd->Option V
 |.c v=>some (ofC v)
 |.t t=>some (tm t)
 |.v i=>match S.vs[i]? with|some x=>(if y7_ x then some x else none)|none=>none
def ym_(S:St)(tm:Nat->V)(x:Opd):Option (V×(Nat->V)) :=
 (wJ_ S tm x).bind fun y=>(give S y).bind fun q=>some (q,zE_ tm x)
def takes(S:St):(Nat->V)->List Opd->Option (List V×(Nat->V))
 |tm,[]=>some ([],tm)
 |tm,x::r=>(ym_ S tm x).bind fun q=>(takes S q.2 r).bind fun q'=>some (q.1::q'.1,q'.2)
def yI_:V->Option Int
 |.s (.int _ n)=>some n
 |_=>none
def z7_(S:St):Opd->V
 |.c v=>ofC v
 |.t t=>S.tm t
 |.v i=>match S.vs[i]? with|some x=>(if y7_ x then x else .no)|none=>.no
def x3_(cs:List V)(off:Nat)(new:List V):List V:=cs.take off++new++cs.drop (off+new.length)
def vA_:List V->List (Nat×Nat)->List V->Option (List V)
 |cs,[],[]=>some cs
 |cs,(off,n)::ps,y::ys=>if (cellsOf y).length=n/\off+n<=cs.length then vA_ (x3_ cs off (cellsOf y)) ps ys else none
 |_,_,_=>none
def sets:List V->List Nat->List V->Nat->Option (List V)
 |xs,[],[],_=>some xs
 |xs,i::is,y::ys,z=>if i<xs.length/\(cellsOf y).length=z then sets (xs.set i y) is ys z else none
 |_,_,_,_=>none
def wW_(v:Value):V:=ofC v
def seens(b ep:Nat):Nat->List V->List V
 |_,[]=>[]
 |o,x::r=>y6_ (.cell b o) ep x::seens b ep (o+1) r
def y1_:V->Bool
 |.no|.gone=>false
 |_=>true
def ya_(S:St)(n:Nat):V->Option (List V)
 | .ptr b o => if o < 1000000000 then (match S.bx[b]? with
   |some cs=>(if o+n<=cs.length/\((cs.drop o).take n).all y1_ then some (seens b S.ep o ((cs.drop o).take n)) else none)
   |none=>none) else none
 |.ip cs=>if n<=cs.length then some (cs.take n) else none
 | .vp l e i q =>
   if e=S.ep then
    match S.row l with
    |some (_,xs)=>(match xs[i]? with|some x=>(if q+n<=(cellsOf x).length then some (((cellsOf x).drop q).take n) else none)|none=>none)
    |none=>none
   else none
 |_=>none
def x4_(ag:Bool):List V->Option V
 |cs=>if ag then some (.agg cs) else (match cs with|[x]=>some x|_=>none)
def ze_:V->Bool
 |.s _|.list _ _|.own true _ _ _|.ptr _ _=>true
 |.own false e _ _=>decide (e=FULL)
 |_=>false
def St.place(S:St):Loc->V->Option St
 | .var i, y => match S.vs[i]? with
   |some old=>if ze_ y=false then none else some { S with vs:=S.vs.set i y,ep:=(if locky old then S.ep+1 else S.ep) }
   |none=>none
 | .cell b o, y => match S.bx[b]? with
   | some cs => (match cs[o]? with
     |some old=>if ze_ y=false then none else some { S with bx:=S.bx.set b (cs.set o y),ep:=(if locky old then S.ep+1 else S.ep) }
     |none=>none)
   |none=>none
def St.places(S:St)(b:Nat):Nat->List V->Option St
 |_,[]=>some S
 |o,y::r=>(S.place (.cell b o) y).bind fun S'=>S'.places b (o+1) r
def p0_:V->Bool
 |.tup _=>true
 |_=>false
def yb_:V->Bool
 |.own true _ _ _=>true
 |.agg cs=>cs.any y2_
 |_=>false
def oZ_:V->Option UInt8
 |.s (.int .u8 n)=>if 0<=n/\n<256 then some (UInt8.ofNat n.toNat) else none
 |_=>none
def wa_:List V->Option (List UInt8)
 |[]=>some []
 |x::r=>(oZ_ x).bind fun b=>(wa_ r).bind fun q=>some (b::q)
def yJ_(S:St)(off:Nat):V->Option V
 |.ptr b o=>if o+off<1000000000 then some (.ptr b (o+off)) else none
 |.ip cs=>if off<=cs.length then some (.ip (cs.drop off)) else none
 |.vp l e i q=>if e=S.ep/\(S.row l).isSome then some (.vp l e i (q+off)) else none
 |_=>none
def y4_:Nat:=140806207832064
def mvV(S:St):Opd->Option (V×(Nat->V))
 |.c v=>some (ofC v,S.tm)
 | .v i => match S.vs[i]? with
   |some (.own m e z xs)=>some (y6_ (.var i) S.ep (.own m e z xs),S.tm)
   |some (.lent d ep e z xs)=>some (y6_ (.var i) S.ep (.lent d ep e z xs),S.tm)
   |some x=>if y7_ x&&y1_ x then some (x,S.tm) else none
   |none=>none
 | .t t => match S.tm t with
   |.own true _ z xs=>some (.list z xs,upd S.tm t .gone)
   |.tup vs=>some (.tup vs,upd S.tm t .gone)
   |.agg cs=>some (.agg cs,zE_ S.tm (.t t))
   |x=>if y1_ x then some (x,S.tm) else none
def iaV(S:St)(z:Nat)(x i:Opd):Option (V×(Nat->V)) :=
 match yI_ (z7_ S i) with
 |none=>none
 | some n =>
   if n<0\/z=0 then none else
   match z7_ S x with
   |.list z' xs=>if z'=z then (xs[n.toNat]?).bind fun y=>some (.ip (cellsOf y),S.tm) else none
   | .own true _ z' xs => (match x with
     |.t t=>if z'=z then (xs[n.toNat]?).bind fun y=>some (.ip (cellsOf y),upd S.tm t (.list z' xs)) else none
     |_=>none)
   |.view l e=>if e=S.ep then (match S.row l with
    |some (z',xs)=>if z'=z/\n.toNat<xs.length then some (.vp l e n.toNat 0,S.tm) else none
    |none=>none) else none
   |.sview l e lo m=>if e=S.ep then (match S.row l with
    |some (z',xs)=>if z'=z/\n.toNat<m/\lo+m<=xs.length then some (.vp l e (lo+n.toNat) 0,S.tm) else none
    |none=>none) else none
   |_=>none
def iaaV(S:St)(z len:Nat)(x i:Opd):Option V :=
 match yI_ (z7_ S i) with
 |none=>none
 |some n=>if 0<=n/\n<len then yJ_ S (n.toNat*z) (z7_ S x) else none
def zo_(S:St)(dflt:Nat):Option Opd->Option Nat
 |none=>some dflt
 | some x => match yI_ (z7_ S x) with
   |some n=>if n<0 then none else some n.toNat
   |none=>none
def slV(S:St)(e z:Nat)(x:Opd)(lo hi mx:Option Opd):Option (V×(Nat->V)) :=
 if z=0 then none else
 match z7_ S x with
 |.s (.slice none 0 0)=>(zo_ S 0 lo).bind fun l=>(zo_ S 0 hi).bind fun h=>(zo_ S 0 mx).bind fun m=>if l=0/\h=0/\m=0 then some (.s (.slice none 0 0),S.tm) else none
 |.list z' xs=>(zo_ S 0 lo).bind fun l=>(zo_ S xs.length hi).bind fun h=>(zo_ S xs.length mx).bind fun m =>
  if z'=z/\l<=h/\h<=m/\m<=xs.length then (if mx.isSome/\l=m then some (.own true e z [],S.tm) else some (.list z ((xs.drop l).take (h-l)),S.tm)) else none
 | .own true _ z' xs => (match x with
   | .t t => (zo_ S 0 lo).bind fun l => (zo_ S xs.length hi).bind fun h =>
     if z'=z/\l<=h/\h<=xs.length/\mx.isNone then some (.list z ((xs.drop l).take (h-l)),upd S.tm t (.list z' xs)) else none
   |_=>none)
 | .own false e' z' xs => if e' = FULL \/ e' = FRZ then (zo_ S 0 lo).bind fun l => (zo_ S xs.length hi).bind fun h => (zo_ S xs.length mx).bind fun m =>
  if z'=z/\l<=h/\h<=m/\m<=xs.length then (if mx.isSome/\l=m then some (.own true e z [],S.tm) else if mx.isSome/\h=m/\l=0 then some (.own false FULL z (xs.take h),S.tm) else some (.list z ((xs.drop l).take (h-l)),S.tm)) else none
   else none
 | .view v e1 => if e1 = S.ep then (match S.row v with
   | some (z', xs) => (zo_ S 0 lo).bind fun l => (zo_ S xs.length hi).bind fun h => (zo_ S xs.length mx).bind fun m =>
     if z'=z/\l<=h/\h<=m/\m<=xs.length then (if mx.isSome/\l=m then some (.own true e z [],S.tm) else some (.sview v e1 l (h-l),S.tm)) else none
   |none=>none) else none
 | .sview v e1 lo0 n => if e1 = S.ep then (match S.row v with
   | some (z', xs) => (zo_ S 0 lo).bind fun l => (zo_ S n hi).bind fun h =>
     if z'=z/\l<=h/\h<=n/\lo0+n<=xs.length/\mx.isNone then some (.sview v e1 (lo0+l) (h-l),S.tm) else none
   |none=>none) else none
 |_=>none
def sslV(S:St)(x:Opd)(lo hi:Option Opd):Option V :=
 match z7_ S x with
 |.s (.string s)=>(zo_ S 0 lo).bind fun l=>(zo_ S s.size hi).bind fun h=>if l<=h/\h<=s.size then some (.s (.string (s.extract l h))) else none
 |_=>none
def uJ_(S:St)(d e z:Nat)(x:Opd):Option (List V×(Nat->V)) :=
 match z7_ S x with
 |.s (.slice none 0 0)=>some ([],S.tm)
 | .own true e' z' xs => (match x with
   |.t t=>if e'=e/\z'=z then some (xs,upd S.tm t .gone) else none
   |_=>none)
 |.own false e' z' xs=>if e'=FULL/\z'=z then some (xs,S.tm) else none
 | .view l e1 => if e1 = S.ep then (match S.at l with
   |some (.lent d' e0 e' z' xs)=>if d'=d/\e0=S.ep/\e'=e/\z'=z then (match S.tm d with|.no=>some (xs,S.tm)|_=>none) else none
   |_=>none) else none
 |_=>none
def appR(x:V)(e z:Nat)(xs ys:List V):V :=
 match x with
 |.own false _ _ _=>if ys=[] then .own false FULL z xs else .own true e z (xs++ys)
 |_=>.own true e z (xs++ys)
def appV(S:St)(d e z bytes:Nat)(x y:Opd):Option (V×(Nat->V)) :=
 (uJ_ S d e z x).bind fun q=>(cont S (z7_ S y)).bind fun r =>
  if (r.1=z\/r.2=[])/\0<z/\bytes<=65536/\q.1.length+r.2.length<=maxLen/\(q.1.length+r.2.length)*bytes<=y4_ then some (appR (z7_ S x) e z q.1 r.2,q.2) else none
def mkV(S:St)(e z bytes:Nat)(zero:Value)(n c:Opd):Option V :=
 match yI_ (z7_ S n),yI_ (z7_ S c) with
 |some a,some b=>if a<=b/\0<=a/\0<z/\b.toNat<=maxLen/\b.toNat*bytes<=140737488355328 then some (.own true e z (List.replicate a.toNat (wW_ zero))) else none
 |_,_=>none
def mvD(S:St)(d:Nat)(x:Opd):Option (V×(Nat->V)) :=
 match x with
 | .v i => (match S.vs[i]? with
   |some (.lent d' e0 e z xs)=>if d'=d/\e0=S.ep then (match S.tm d with|.no=>some (.own true e z xs,S.tm)|_=>none) else mvV S (.v i)
   |_=>mvV S (.v i))
 |x=>mvV S x
def p1_:V->Bool
 |.lent _ _ _ _ _=>true
 |_=>false
def vO_(d ep:Nat):V->Option V
 |.lent d' e0 e z xs=>if d'=d/\e0=ep then some (.own true e z xs) else none
 |.s v=>some (.s v)
 |.list z xs=>some (.list z xs)
 |.ptr b o=>some (.ptr b o)
 |_=>none
def wx_(d ep:Nat):List V->Option (List V)
 |[]=>some []
 |x::r=>(vO_ d ep x).bind fun y=>(wx_ d ep r).bind fun q=>some (y::q)
def ldA(S:St)(d n b o:Nat):Option (List V) :=
 match S.tm d with
 |.no=>(S.bx[b]?).bind fun cs=>if o+n<=cs.length/\((cs.drop o).take n).any p1_=true then wx_ d S.ep ((cs.drop o).take n) else none
 |_=>none
def ldD(S:St)(d n:Nat)(ag:Bool)(p:Opd):Option (V×(Nat->V)) :=
 match z7_ S p with
 | .ptr b o => if o < 1000000000 then match (if ag then ldA S d n b o else none) with
   |some cs=>some (.agg cs,S.tm)
   |none=>(match S.at (.cell b o) with
   |some (.lent d' e0 e z xs)=>if d'=d/\e0=S.ep/\n=1/\ag=false then (match S.tm d with|.no=>some (.own true e z xs,S.tm)|_=>none) else (ya_ S n (.ptr b o)).bind fun cs=>(x4_ ag cs).map fun y=>(y,S.tm)
   |_=>(ya_ S n (.ptr b o)).bind fun cs=>(x4_ ag cs).map fun y=>(y,S.tm)) else none
 |p=>(ya_ S n p).bind fun cs=>(x4_ ag cs).map fun y=>(y,S.tm)
def yG_:V->Bool
 |.lent _ _ _ _ _=>false
 |_=>true
def zF_(S:St):Bool:=S.vs.all yG_&&S.bx.all (·.all yG_)
def cvbV(S:St)(x:Opd):Option (V×(Nat->V)) :=
 match x with
 | .t t => (match S.tm t with
   |.own true _ z xs=>if 0<z/\xs≠[]/\zF_ S=true then some (.list z xs,upd S.tm t .gone) else none
   |_=>none)
 |_=>none
def eqC:LK->V->V->Option Bool
 |.int,.s (.int k a),.s (.int k' b)=>if k=k' then some (a==b) else none
 |.bool,.s (.bool a),.s (.bool b)=>some (a==b)
 |.str,.s (.string a),.s (.string b)=>some (a==b)
 |_,_,_=>none
def eqCs:List LK->List V->List V->Option Bool
 |[],[],[]=>some true
 |k::ks,x::xs,y::ys=>(eqC k x y).bind fun a=>(eqCs ks xs ys).map fun b=>a&&b
 |_,_,_=>none
def qD_(off n:Nat)(ag:Bool)(cs:List V):Option V:=if off+n<=cs.length/\((cs.drop off).take n).all immC=true then x4_ ag ((cs.drop off).take n) else none
def exV:Ex->V->V->Option V
 |.eqA ne ks,.agg xs,.agg ys=>(eqCs ks xs ys).map fun b=>.s (.bool (b != ne))
 |.prt off n ag,.agg cs,_=>qD_ off n ag cs
 | .idx len z ag, .agg cs, i => match yI_ i with
   |some m=>if 0<=m/\m<len then qD_ (m.toNat*z) z ag cs else none
   |none=>none
 | .sidx, .s (.string s), i => match yI_ i with
   |some m=>if 0<=m then (s[m.toNat]?).map fun b=>.s (.int .u8 b.toNat) else none
   |none=>none
 |_,_,_=>none
def rD_:Opd->Bool
 |.c (.int _ _)|.c (.string _)|.c (.bool _)=>true
 |_=>false
def cps(parts:List (Nat×Opd)):Bool:=(parts.all fun p=>rD_ p.2)&&decide (1<parts.length)
def lenT(S:St):Opd->(Nat->V)
 | .t t => match S.tm t with
   |.own true _ z xs=>upd S.tm t (.list z xs)
   |_=>S.tm
 |_=>S.tm
def za_(S:St)(d:Nat):AOp->Option (V×(Nat->V))
 |.ex k x y=>(exV k (z7_ S x) (z7_ S y)).map fun r=>(r,S.tm)
 |.cvb x=>cvbV S x
 | .mkf f x => match z7_ S x with
   |.ptr b 0=>some (.ptr b (1000000000+f),S.tm)
   |_=>none
 |.mv x=>mvD S d x
 | .pick c a b => match z7_ S c with
   |.s (.bool cb)=>(match (if cb then z7_ S a else z7_ S b) with|.s v=>some (.s v,S.tm)|_=>none)
   |_=>none
 | .bin op x y => match z7_ S x, z7_ S y with
   |.s a,.s b=>(binS op a b).map fun r=>(.s r,S.tm)
   |_,_=>none
 | .bib op x y => match z7_ S x, z7_ S y with
   |.s a,.s b=>(binB op a b).map fun r=>(.s r,S.tm)
   |_,_=>none
 | .un op x => match z7_ S x with
   |.s a=>(unS op a).map fun r=>(.s r,S.tm)
   |_=>none
 | .conv k x => match z7_ S x with
   |.s (.int _ n)=>some (.s (.int k (k.wrap n)),S.tm)
   |_=>none
 |.b2s x=>(cont S (z7_ S x)).bind fun r=>(wa_ r.2).map fun l=>(.s (.string ⟨l.toArray⟩),S.tm)
 |.nilck x=>(yJ_ S 0 (z7_ S x)).map fun y=>(y,S.tm)
 | .ext t i => match S.tm t with
   |.tup vs=>(vs[i]?).bind fun y=>if y1_ y&&!p0_ y then some (y,if yb_ y then upd S.tm t (.tup (vs.set i (spent y))) else S.tm) else none
   |_=>none
 |.bld zs parts=>(takes S S.tm (parts.map (·.2.2))).bind fun q=>(vA_ (zs.map .s) (parts.map fun p=>(p.1,p.2.1)) q.1).map fun cs=>(.agg cs,q.2)
 |.bls e z zero n parts=>(takes S S.tm (parts.map (·.2))).bind fun q=>(sets (List.replicate n (wW_ zero)) (parts.map (·.1)) (q.1.map toImm) z).bind fun xs =>
  if 0<z/\n*z<=16777216/\(flat xs).all immC then some (if cps parts then .list z xs else .own true e z xs,q.2) else none
 |.ld n ag p=>ldD S d n ag p
 |.fa off p=>(yJ_ S off (z7_ S p)).map fun y=>(y,S.tm)
 |.ia z x i=>iaV S z x i
 |.iaa z len x i=>(iaaV S z len x i).map fun y=>(y,S.tm)
 |.sl e z x lo hi mx=>slV S e z x lo hi mx
 |.ssl x lo hi=>(sslV S x lo hi).map fun y=>(y,S.tm)
 |.app e z bytes x y=>appV S d e z bytes x y
 |.len x=>(cont S (z7_ S x)).map fun r=>(.s (.int .i64 r.2.length),lenT S x)
 | .slen x => match z7_ S x with
   |.s (.string s)=>some (.s (.int .i64 s.size),S.tm)
   |_=>none
 |.mk e z bytes zero n c=>(mkV S e z bytes zero n c).map fun y=>(y,S.tm)
 | .mnx mx x y => match z7_ S x, z7_ S y with
   |.s (.int k a),.s (.int _ b)=>some (.s (.int k (if mx then (if b>a then b else a) else (if b<a then b else a))),S.tm)
   |_,_=>none
 |_=>none
def qA_(old:V)(q:Nat)(new:List V):Option V :=
 if q+new.length<=(cellsOf old).length then
  (match old with
  |.agg cs=>some (.agg (x3_ cs q new))
  |_=>(match x3_ [old] q new with|[y]=>some y|_=>none))
 else none
def reep(S S':St):St:=if zF_ S=true then { S' with ep:=S.ep } else S'
def stV(S:St)(n:Nat)(p x:Opd):Option St :=
 (ym_ S S.tm x).bind fun r =>
  if (cellsOf r.1).length=n then
   match z7_ S p with
   |.ptr b o=>if o<1000000000 then ({ S with tm:=r.2 }:St).places b o (cellsOf r.1) else none
   | .vp l e i q => if e = S.ep then (match S.at l with
     | some (.own true e' z xs) => (match xs[i]? with
       |some old=>if ((cellsOf r.1).map immL).all immC=false then none else (qA_ old q ((cellsOf r.1).map immL)).bind fun y=>(({ S with tm:=r.2 }:St).place l (.own true e' z (xs.set i y))).map (reep S)
       |none=>none)
     |_=>none) else none
   |_=>none
  else none
def step(S:St)(d:Dst):AOp->Option St
 | .asg x => match d with
   |.v i=>(ym_ S S.tm x).bind fun r=>({ S with tm:=r.2 }:St).place (.var i) r.1
   |_=>none
 |.st n p x=>stV S n p x
 | .allo zs => match d with
   |.t d=>some { S with tm:=upd S.tm d (.ptr S.bx.length 0),bx:=S.bx++[zs.map .s] }
   |_=>none
 | .box n x => match d with
   |.t d=>(ym_ S S.tm x).bind fun r=>if (cellsOf r.1).length=n/\(cellsOf r.1).all ze_ then some { S with tm:=upd r.2 d (.ptr S.bx.length 0),bx:=S.bx++[cellsOf r.1] } else none
   |_=>none
 |.call _ _=>none
 |.callv _ _=>none
 | o => match d with
   |.t d=>(za_ S d o).map fun r=>{ S with tm:=upd r.2 d r.1 }
   |_=>none
structure Gh where
 I:Nat->Nat
 φ:Nat->Nat
def rb:Value->Option Nat
 |.slice (some a) _ c=>if c=0 then none else some a.block
 |_=>none
inductive Rep(g:Gh)(w:World):V->Value->Prop
 |s {v:Value} (h:v.oneCell'=true):Rep g w (.s v) v
 |list {z:Nat} {xs:List V} {A:Option Addr} {c:Nat} (vals:Nat->Value) (hc:xs.length<=c) (hm:c<=maxLen) (hA:A=none->c=0)
  (hz:∀x∈xs,(cellsOf x).length=z) (hi:∀u∈flat xs,immC u=true)
  (hcell:∀(j:Nat),j<(flat xs).length->∃b q,A=some ⟨b,q,none⟩/\q+j<g.I b/\w.cell? ⟨b,q+j,none⟩=some (vals j))
  (hrep:∀(j:Nat) (u:V),(flat xs)[j]?=some u->Rep g w u (vals j)):Rep g w (.list z xs) (.slice A xs.length c)
 |own {e z:Nat} {xs:List V} {k cap:Nat} {cur:Array Value} (vals:Nat->Value) (h0:0<cap) (hc:xs.length<=cap) (hm:cap<=maxLen)
  (hh:w.heap[k]?=some (.cells cur e (0,0))) (hs:cur.size=cap*z)
  (hz:∀x∈xs,(cellsOf x).length=z) (hi:∀u∈flat xs,immC u=true)
  (hcell:∀(j:Nat),j<(flat xs).length->cur[j]?=some (vals j))
  (hrep:∀(j:Nat) (u:V),(flat xs)[j]?=some u->Rep g w u (vals j)):Rep g w (.own true e z xs) (.slice (some ⟨k,0,none⟩) xs.length cap)
 |own0 {e z:Nat} {A:Option Addr}:Rep g w (.own true e z []) (.slice A 0 0)
 |ownf {e z:Nat} {xs:List V} {v:Value} (h:Rep g w (.list z xs) v) (h0:∀b q N c,v=.slice (some ⟨b,q,none⟩) N c->xs≠[]->q=0) (hf:e=FULL->∀A N c,v=.slice A N c->c=N):Rep g w (.own false e z xs) v
 |agg {cs:List V} {vs:Array Value} (hl:cs.length=vs.size) (h1:∀c∈vs.toList,c.oneCell'=true)
  (h:∀(j:Nat) (u:V) (c:Value),cs[j]?=some u->vs[j]?=some c->Rep g w u c):Rep g w (.agg cs) (.agg vs)
 |tup {cs:List V} {vs:Array Value} (hl:cs.length=vs.size)
  (h:∀(j:Nat) (u:V) (c:Value),cs[j]?=some u->vs[j]?=some c->Rep g w u c):Rep g w (.tup cs) (.tuple vs)
 |ptr {b o:Nat}:Rep g w (.ptr b o) (ptrV (g.φ b) o)
 |ip {cs:List V} {b q:Nat} (vals:Nat->Value) (hi:∀u∈cs,immC u=true)
  (hcell:∀(j:Nat),j<cs.length->q+j<g.I b/\w.cell? ⟨b,q+j,none⟩=some (vals j))
  (hrep:∀(j:Nat) (u:V),cs[j]?=some u->Rep g w u (vals j)):Rep g w (.ip cs) (.pointer (some ⟨b,q,none⟩))
 |view {l:Loc} {e:Nat} {v:Value}:Rep g w (.view l e) v
 |sview {l:Loc} {e lo n:Nat} {v:Value}:Rep g w (.sview l e lo n) v
 |vp {l:Loc} {e i q:Nat} {v:Value}:Rep g w (.vp l e i q) v
 |lent {d ep e z:Nat} {xs:List V} {v:Value}:Rep g w (.lent d ep e z xs) v
 |no {v:Value}:Rep g w .no v
 |gone {v:Value}:Rep g w .gone v
theorem Rep.ptrv{g:Gh}{w:World}{b o:Nat}{v:Value}(h:Rep g w (.ptr b o) v)(hlt:o<1000000000):v=.pointer (some ⟨g.φ b,o,none⟩):=by
 cases h
 exact vn_ hlt
theorem yT_(xs ys:List V):flat (xs++ys)=flat xs++flat ys:=by
 induction xs with
 |nil=>rfl
 |cons x r ih=>simp[flat,ih]
theorem zd_{xs:List V}{z:Nat}(h:∀x∈xs,(cellsOf x).length=z):(flat xs).length=xs.length*z:=by
 induction xs with
 |nil=>simp[flat]
 | cons x r ih =>
   have h1:=h x (by simp)
   have h2:=ih (fun y hy=>h y (by simp[hy]))
   simp only[flat,zzr_,List.length_cons,h1,h2,yyn_,Nat.one_mul]
   omega
theorem xL_{xs:List V}{z:Nat}(h:∀x∈xs,(cellsOf x).length=z)(i:Nat):(flat xs).drop (i*z)=flat (xs.drop i):=by
 induction xs generalizing i with
 |nil=>simp[flat]
 | cons x r ih =>
   cases i with
   |zero=>simp
   | succ i =>
     have h1:=h x (by simp)
     have h2:=ih (fun y hy=>h y (by simp[hy])) i
     rw[List.drop_succ_cons,<-h2]
     simp only[flat]
     rw[List.drop_append,h1,yyn_,Nat.one_mul]
     have:List.drop (i*z+z) (cellsOf x)=[]:=List.drop_eq_nil_of_le (by omega)
     rw[this,List.nil_append]
     congr 1
     omega
theorem wr_{xs:List V}{z:Nat}(h:∀x∈xs,(cellsOf x).length=z)(i:Nat):(flat xs).take (i*z)=flat (xs.take i):=by
 induction xs generalizing i with
 |nil=>simp[flat]
 | cons x r ih =>
   cases i with
   |zero=>simp[flat]
   | succ i =>
     have h1:=h x (by simp)
     have h2:=ih (fun y hy=>h y (by simp[hy])) i
     rw[List.take_succ_cons]
     simp only[flat]
     rw[<-h2,List.take_append,h1,yyn_,Nat.one_mul,zzx_ (by omega)]
     congr 2
     omega
theorem xU_{xs:List V}{z i o:Nat}{x:V}(h:∀x∈xs,(cellsOf x).length=z)(hx:xs[i]?=some x)(ho:o<z):(flat xs)[i*z+o]?=(cellsOf x)[o]?:=by
 have hd:=xL_ h i
 have hi:i<xs.length:=(zzc_.1 hx).1
 have hxe:xs[i]=x:=(zzc_.1 hx).2
 have e1:(flat xs)[i*z+o]?=((flat xs).drop (i*z))[o]?:=by rw[zzA_]
 rw[e1,hd,List.drop_eq_getElem_cons hi,hxe]
 simp only[flat]
 rw[zzo_ (by rw[h x (hxe ▸ yyp_ hi)];exact ho)]
theorem sj_{xs:List V}{x u:V}(hx:x∈xs)(hu:u∈cellsOf x):u∈flat xs:=by
 induction xs with
 |nil=>cases hx
 | cons y r ih =>
   simp only[flat,zzw_]
   rcases List.mem_cons.1 hx with rfl|h
   .exact .inl hu
   .exact .inr (ih h)
theorem Rep.one{g:Gh}{w:World}{x:V}{v:Value}(h:Rep g w x v)(hi:immC x=true):v.oneCell'=true:=by
 cases h<;>first|assumption|rfl|(simp[immC]at hi)
def V.sub:List Nat->V->Option V
 |[],x=>some x
 |i::p,.agg cs=>(cs[i]?).bind (V.sub p)
 |i::p,.tup cs=>(cs[i]?).bind (V.sub p)
 |_::_,_=>none
def vsub:List Nat->Value->Option Value
 |[],x=>some x
 |i::p,.agg cs=>(cs[i]?).bind (vsub p)
 |i::p,.tuple cs=>(cs[i]?).bind (vsub p)
 |_::_,_=>none
def zD_(x:V)(v:Value)(p:List Nat)(k:Nat):Prop:=∃e z xs u,x.sub p=some (.own true e z xs)/\vsub p v=some u/\rb u=some k
theorem Rep.keep{g g':Gh}{w w':World}{x:V}{v:Value}(h:Rep g w x v)(hI:∀b o,o<g.I b->o<g'.I b/\w'.cell? ⟨b,o,none⟩=w.cell? ⟨b,o,none⟩) :
 (∀p k,zD_ x v p k->w'.heap[k]?=w.heap[k]?)->(∀p b o,x.sub p=some (.ptr b o)->g'.φ b=g.φ b)->Rep g' w' x v:=by
 have im:∀ {u:V} {v:Value},immC u=true->∀p k,zD_ u v p k->w'.heap[k]?=w.heap[k]?:=by
  intro u v hu p k ⟨e,z,xs,_,h1,_⟩
  cases p with
  |nil=>simp[V.sub]at h1;subst h1;simp[immC]at hu
  |cons i p=>cases u<;>simp[V.sub]at h1<;>simp[immC]at hu
 have ip:∀ {u:V},immC u=true->∀p b o,u.sub p=some (.ptr b o)->g'.φ b=g.φ b:=by
  intro u hu p b o h1
  cases p with
  |nil=>simp[V.sub]at h1;subst h1;simp[immC]at hu
  |cons i p=>cases u<;>simp[V.sub]at h1<;>simp[immC]at hu
 induction h with
 |s h=>exact fun _ _=>.s h
 | list vals hc hm hA hz hi hcell hrep ih =>
   intro _ _
   refine .list vals hc hm hA hz hi (fun j hj=>?_) (fun j u hu=>ih j u hu (im (hi u (zzd_ hu))) (ip (hi u (zzd_ hu))))
   obtain⟨b,q,e,h1,h2⟩:=hcell j hj
   exact⟨b,q,e,(hI b _ h1).1,(hI b _ h1).2.trans h2⟩
 | own vals h0 hc hm hh hs hz hi hcell hrep ih =>
   rename_i e z xs k cap cur
   intro hk _
   have hb:=hk [] k ⟨e,z,xs,_,rfl,rfl,by simp[rb];omega⟩
   exact .own vals h0 hc hm (hb.trans hh) hs hz hi hcell (fun j u hu=>ih j u hu (im (hi u (zzd_ hu))) (ip (hi u (zzd_ hu))))
 |own0=>exact fun _ _=>.own0
 | ownf h h0 hf ih =>
   intro _ _
   refine .ownf (ih ?_ ?_) h0 hf
   .intro p k ⟨e,z,xs,_,h1,_⟩
    cases p<;>simp[V.sub]at h1
   .intro p b o h1
    cases p<;>simp[V.sub]at h1
 | agg hl h1 h ih =>
   intro hk hp
   refine .agg hl h1 (fun j u c hu hc=>ih j u c hu hc ?_ (fun p b o q=>hp (j::p) b o (by simp[V.sub,hu,q])))
   intro p k ⟨e,z,xs,y,q1,q2,q3⟩
   exact hk (j::p) k ⟨e,z,xs,y,by simp[V.sub,hu,q1],by simp[vsub,hc,q2],q3⟩
 | tup hl h ih =>
   intro hk hp
   refine .tup hl (fun j u c hu hc=>ih j u c hu hc ?_ (fun p b o q=>hp (j::p) b o (by simp[V.sub,hu,q])))
   intro p k ⟨e,z,xs,y,q1,q2,q3⟩
   exact hk (j::p) k ⟨e,z,xs,y,by simp[V.sub,hu,q1],by simp[vsub,hc,q2],q3⟩
 |ptr=>intro _ hp;rw[<-hp [] _ _ rfl];exact .ptr
 | ip vals hi hcell hrep ih =>
   intro _ _
   refine .ip vals hi (fun j hj=>?_) (fun j u hu=>ih j u hu (im (hi u (zzd_ hu))) (ip (hi u (zzd_ hu))))
   obtain⟨h1,h2⟩:=hcell j hj
   exact⟨(hI _ _ h1).1,(hI _ _ h1).2.trans h2⟩
 |view=>exact fun _ _=>.view
 |sview=>exact fun _ _=>.sview
 |vp=>exact fun _ _=>.vp
 |lent=>exact fun _ _=>.lent
 |no=>exact fun _ _=>.no
 |gone=>exact fun _ _=>.gone
structure Fr where
 N:Nat
 sv:List Nat
 df:List Deferred
structure Fr.ok(F:Fr):Prop where
 inj:∀(i j t:Nat),F.sv[i]?=some t->F.sv[j]?=some t->i=j
 lt:∀t∈F.sv,t<F.N
def Act.tv(a:Act)(t:Nat):Value:=a.tmps.getD t undef
def z8_(F:Fr)(g:Gh)(w:World)(a:Act):Loc->Option Value
 |.var i=>(F.sv[i]?).map (Act.tv a)
 |.cell b o=>w.cell? ⟨g.φ b,o,none⟩
inductive Root where
 |t (t:Nat)
 |l (l:Loc)
def Has(F:Fr)(g:Gh)(w:World)(S:St)(a:Act):Root->V->Value->Prop
 |.t t,x,v=>x=S.tm t/\v=Act.tv a t
 |.l l,x,v=>S.at l=some x/\z8_ F g w a l=some v
def zi_(S:St):V->Bool
 |.lent d e0 _ _ _=>decide (e0=S.ep)&&(match S.tm d with|.no=>true|_=>false)
 |_=>false
def Own(F:Fr)(g:Gh)(w:World)(S:St)(a:Act)(r:Root)(p:List Nat)(k:Nat):Prop :=
 ∃x v,Has F g w S a r x v/\(zD_ x v p k\/(p=[]/\zi_ S x=true/\rb v=some k))
def wQ_(x:V)(v:Value)(p:List Nat)(k m:Nat):Prop:=∃e z xs u,x.sub p=some (.own true e z xs)/\vsub p v=some u/\rb u=some k/\m=xs.length*z
def OwnX(F:Fr)(g:Gh)(w:World)(S:St)(a:Act)(r:Root)(p:List Nat)(k m:Nat):Prop :=
 ∃x v,Has F g w S a r x v/\(wQ_ x v p k m\/(p=[]/\∃d e z xs,x=.lent d S.ep e z xs/\S.tm d=.no/\rb v=some k/\m=xs.length*z))
def rf_(z lo n:Nat)(vl v:Value):Prop :=
 ∃A c,v=.slice A n c/\n<=c/\c<=maxLen/\(A=none->c=0)/\(0<n->∃b q N cap,vl=.slice (some ⟨b,q,none⟩) N cap/\A=some ⟨b,q+lo*z,none⟩)
def St.locky(S:St)(l:Loc):Prop:=∃x,S.at l=some x/\Go.Proofs.Ytnbppaolinopeaa.locky x=true
def Link(F:Fr)(g:Gh)(w:World)(S:St)(a:Act):V->Value->Prop
 |.view l e,v=>e=S.ep->S.locky l/\∀z xs,S.row l=some (z,xs)->z8_ F g w a l=some v
 |.sview l e lo n,v=>e=S.ep->S.locky l/\∀z xs,S.row l=some (z,xs)->∃vl,z8_ F g w a l=some vl/\rf_ z lo n vl v
 |.vp l e i q,v=>e=S.ep->S.locky l/\∀z xs,S.row l=some (z,xs)->∃b N cap x,z8_ F g w a l=some (.slice (some ⟨b,0,none⟩) N cap)/\xs[i]?=some x/\v=.pointer (some ⟨b,i*z+q,none⟩)
 |_,_=>True
def epOf:V->Nat
 |.view _ e|.sview _ e _ _|.vp _ e _ _|.lent _ e _ _ _=>e
 |_=>0
structure Rel(F:Fr)(g:Gh)(w:World)(S:St)(a:Act):Prop where
 sz:a.tmps.size=F.N
 dfr:a.defers=F.df
 rep:∀r x v,Has F g w S a r x v->Rep g w x v
 lookv:∀l x,S.at l=some x->∃v,z8_ F g w a l=some v/\((∃b o,l=.cell b o)->v.oneCell'=true)
 lentr:∀l d e z xs v,S.at l=some (.lent d S.ep e z xs)->z8_ F g w a l=some v->Rep g w (.own true e z xs) v/\∀k,rb v=some k->∀b,b<S.bx.length->g.φ b≠k
 box:∀b cs,S.bx[b]?=some cs->∃vs ty,w.heap[g.φ b]?=some (.cells vs ty (0,0))/\vs.size=cs.length/\g.I (g.φ b)=0
 inj:∀b b',b<S.bx.length->b'<S.bx.length->g.φ b=g.φ b'->b=b'
 ptr:∀r x v p b o,Has F g w S a r x v->x.sub p=some (.ptr b o)->b<S.bx.length
 ownI:∀r p k,Own F g w S a r p k->g.I k=0/\k<w.heap.size/\∀b,b<S.bx.length->g.φ b≠k
 uniq:∀r p r' p' k,Own F g w S a r p k->Own F g w S a r' p' k->r=r'/\p=p'
 link:∀t p x v,(S.tm t).sub p=some x->vsub p (Act.tv a t)=some v->Link F g w S a x v
 novw:∀l x,S.at l=some x->∀p,(∀l' e,x.sub p≠some (.view l' e))/\(∀l' e lo n,x.sub p≠some (.sview l' e lo n))/\(∀l' e i q,x.sub p≠some (.vp l' e i q))/\(∀cs,x.sub p≠some (.ip cs))
 notl:∀t p d e0 e z xs,(S.tm t).sub p≠some (.lent d e0 e z xs)
 Ilt:∀k,0<g.I k->k<w.heap.size
 tmv:∀t∈F.sv,S.tm t=.no
 ept:∀t p x,(S.tm t).sub p=some x->epOf x<=S.ep
 epl:∀l x,S.at l=some x->epOf x<=S.ep
 lentl:∀l d e z xs v k,S.at l=some (.lent d S.ep e z xs)->z8_ F g w a l=some v->rb v=some k->∀r p m,OwnX F g w S a r p k m->xs.length*z<=m
section
section
variable{F:Fr}{g g':Gh}{w w':World}{S:St}{a:Act}
theorem y3_{l:Loc}{x:V}(hl:S.at l=some x)(hφ:∀b,b<S.bx.length->g'.φ b=g.φ b)(hbox:∀b,b<S.bx.length->w'.heap[g.φ b]?=w.heap[g.φ b]?):z8_ F g' w' a l=z8_ F g w a l:=by
 cases l with
 |var i=>rfl
 | cell b o =>
   simp only[St.at,zza_]at hl
   obtain⟨cs,hcs,ho⟩:=hl
   have hb:b<S.bx.length:=(zzc_.1 hcs).1
   simp only[z8_]
   rw[hφ b hb]
   exact yyb_ (a:=⟨g.φ b,o,none⟩) (hbox b hb)
theorem z4_{x:V}(h:zi_ S x=true):∃d e z xs,x=.lent d S.ep e z xs/\S.tm d=.no:=by
 cases x<;>simp[zi_]at h
 rename_i d e0 e z xs
 obtain⟨h1,h2⟩:=h
 subst h1
 refine⟨d,e,z,xs,rfl,?_⟩
 revert h2
 cases S.tm d<;>simp
theorem Rel.grow(h:Rel F g w S a)(hI:∀b o,o<g.I b->o<g'.I b/\w'.cell? ⟨b,o,none⟩=w.cell? ⟨b,o,none⟩)
 (hφ:∀b,b<S.bx.length->g'.φ b=g.φ b) (hbox:∀b,b<S.bx.length->w'.heap[g.φ b]?=w.heap[g.φ b]?/\g'.I (g.φ b)=0)
 (hown:∀r p k,Own F g w S a r p k->w'.heap[k]?=w.heap[k]?/\g'.I k=0)
 (hlent:∀l d e z xs v,S.at l=some (.lent d S.ep e z xs)->z8_ F g w a l=some v->Rep g' w' (.own true e z xs) v)
 (hsz:w.heap.size<=w'.heap.size) (hlt:∀k,0<g'.I k->k<w'.heap.size):Rel F g' w' S a:=by
 have hv:∀l x,S.at l=some x->z8_ F g' w' a l=z8_ F g w a l:=fun l x hl=>y3_ hl hφ (fun b hb=>(hbox b hb).1)
 have hhas:∀r x v,Has F g' w' S a r x v->Has F g w S a r x v:=by
  intro r x v hh
  cases r with
  |t t=>exact hh
  |l l=>exact⟨hh.1,(hv l x hh.1) ▸ hh.2⟩
 have hown':∀r p k,Own F g' w' S a r p k->Own F g w S a r p k:=fun r p k ⟨x,v,q1,q2⟩=>⟨x,v,hhas r x v q1,q2⟩
 have hrow:∀l z xs,S.row l=some (z,xs)->∃x,S.at l=some x:=by
  intro l z xs hr
  unfold St.row at hr
  cases hl:S.at l with
  |none=>rw[hl]at hr;cases hr
  |some x=>exact⟨x,rfl⟩
 refine⟨h.sz,h.dfr,?_,?_,?_,?_,?_,?_,?_,?_,?_,h.novw,h.notl,hlt,h.tmv,h.ept,h.epl,?_⟩
 .intro r x v hh
  have h0:=hhas r x v hh
  exact(h.rep r x v h0).keep hI (fun p k ho=>(hown r p k ⟨x,v,h0,.inl ho⟩).1) (fun p b o hp=>hφ b (h.ptr r x v p b o h0 hp))
 .intro l x hl
  rw[hv l x hl]
  exact h.lookv l x hl
 .intro l d e z xs v hl hvl
  rw[hv l _ hl]at hvl
  exact⟨hlent l d e z xs v hl hvl,fun k hk b hb=>by rw[hφ b hb];exact(h.lentr l d e z xs v hl hvl).2 k hk b hb⟩
 .intro b cs hb
  have hlt:=(zzc_.1 hb).1
  obtain⟨vs,ty,h1,h2,h3⟩:=h.box b cs hb
  rw[hφ b hlt]
  exact⟨vs,ty,(hbox b hlt).1.trans h1,h2,(hbox b hlt).2⟩
 .intro b b' hb hb' he
  rw[hφ b hb,hφ b' hb']at he
  exact h.inj b b' hb hb' he
 .exact fun r x v p b o hh=>h.ptr r x v p b o (hhas r x v hh)
 .intro r p k ho
  have h0:=hown' r p k ho
  obtain⟨_,h2,h3⟩:=h.ownI r p k h0
  exact⟨(hown r p k h0).2,zzk_ h2 hsz,fun b hb=>by rw[hφ b hb];exact h3 b hb⟩
 .exact fun r p r' p' k h1 h2=>h.uniq r p r' p' k (hown' r p k h1) (hown' r' p' k h2)
 .intro t p x v hx hvx
  have h0:=h.link t p x v hx hvx
  cases x<;>simp only[Link]at h0 ⊢
  .intro he
   refine⟨(h0 he).1,fun z xs hr=>?_⟩
   obtain⟨y,hy⟩:=hrow _ z xs hr
   rw[hv _ y hy]
   exact(h0 he).2 z xs hr
  .intro he
   refine⟨(h0 he).1,fun z xs hr=>?_⟩
   obtain⟨y,hy⟩:=hrow _ z xs hr
   rw[hv _ y hy]
   exact(h0 he).2 z xs hr
  .intro he
   refine⟨(h0 he).1,fun z xs hr=>?_⟩
   obtain⟨y,hy⟩:=hrow _ z xs hr
   rw[hv _ y hy]
   exact(h0 he).2 z xs hr
 .intro l d e z xs v k hl hvl hk r p m ⟨x,u,q1,q2⟩
  rw[hv l _ hl]at hvl
  exact h.lentl l d e z xs v k hl hvl hk r p m ⟨x,u,hhas r x u q1,q2⟩
end
def leaf:V->Bool
 |.agg _|.tup _=>false
 |_=>true
structure Less(x' x:V):Prop where
 rep:∀g w v,Rep g w x v->Rep g w x' v
 sub:∀p y,x'.sub p=some y->leaf y=true->y=.gone\/x.sub p=some y
 no:x'=.no->x=.no
theorem Less.refl(x:V):Less x x:=⟨fun _ _ _ h=>h,fun _ _ h _=>.inr h,fun h=>h⟩
theorem Less.gone(x:V):Less .gone x:=⟨fun _ _ _ _=>.gone,fun p y h _=>by
 cases p with
 |nil=>simp[V.sub]at h;exact .inl h.symm
 |cons i p=>simp[V.sub]at h,fun h=>by cases h⟩
theorem rl_{g:Gh}{w:World}{x:V}{v:Value}(h:Rep g w x v):Rep g w (spentL x) v:=by
 cases x<;>simp only[spentL]<;>first|exact h|skip
 rename_i m e z xs
 cases m
 .exact h
 .exact .gone
theorem ve_{x:V}:spentL x=.gone\/spentL x=x:=by
 cases x<;>simp[spentL]
 rename_i m e z xs
 cases m<;>simp
theorem rm_{x:V}{e z:Nat}{xs:List V}:spentL x≠.own true e z xs:=by
 cases x<;>simp[spentL]
 rename_i m e z xs
 cases m<;>simp
theorem Less.spentL(x:V):Less (spentL x) x:=by
 rcases ve_ (x:=x) with h|h
 .rw[h];exact Less.gone x
 .rw[h];exact Less.refl x
theorem Less.spent(x:V):Less (spent x) x:=by
 cases x with
 | agg cs =>
   refine⟨fun g w v h=>?_,fun p y h hl=>?_,fun h=>by cases h⟩
   .cases h with
    | agg hl h1 h =>
      refine .agg (by simpa using hl) h1 (fun j u c hu hc=>?_)
      rw[zzs_]at hu
      cases hj:cs[j]? with
      |none=>rw[hj]at hu;cases hu
      | some u0 =>
        rw[hj]at hu
        simp at hu
        subst hu
        exact rl_ (h j u0 c hj hc)
   .cases p with
    |nil=>simp[V.sub,Go.Proofs.Ytnbppaolinopeaa.spent]at h;subst h;simp[leaf]at hl
    | cons i p =>
      simp only[V.sub,Go.Proofs.Ytnbppaolinopeaa.spent,zzs_]at h ⊢
      cases hj:cs[i]? with
      |none=>rw[hj]at h;cases h
      | some u0 =>
        rw[hj]at h
        simp only[zzz_,zzt_]at h ⊢
        exact(Less.spentL u0).sub p y h hl
 |tup vs=>exact Less.gone _
 |own m e z xs=>exact Less.spentL (.own m e z xs)
 |_=>exact Less.refl _
theorem Less.sub_of{x' x y:V}{p:List Nat}(h:Less x' x)(hs:x'.sub p=some y)(hl:leaf y=true)(hg:y≠.gone):x.sub p=some y:=(h.sub p y hs hl).resolve_left hg
theorem Less.ep{x':V}{n:Nat}{tm:Nat->V}{t:Nat}{p:List Nat}{y:V}(h:Less x' (tm t))(he:∀t p x,(tm t).sub p=some x->epOf x<=n)(hs:x'.sub p=some y):epOf y<=n:=by
 by_cases hl:leaf y=true
 .rcases h.sub p y hs hl with rfl|hy
  .exact zzn_ _
  .exact he t p y hy
 .cases y<;>simp[leaf]at hl<;>exact zzn_ _
theorem yw_{a:Act}{d t:Nat}{v:Value}(hd:d<a.tmps.size):Act.tv (a.put (some d) v) t=if t=d then v else Act.tv a t:=by
 simp only[Act.tv,Act.put,Array.getD_eq_getD_getElem?,Array.getElem?_setIfInBounds]
 by_cases h:d=t
 .subst h;simp[hd]
 .simp[h,Ne.symm h]
section
variable{F:Fr}{g:Gh}{w:World}{S:St}{a:Act}
theorem Rel.put(h:Rel F g w S a){tm1:Nat->V}(hless:∀t,Less (tm1 t) (S.tm t))(htv:∀t∈F.sv,tm1 t=S.tm t){d:Nat}(hd:d<F.N)(hdv:d∉F.sv){y:V}{v:Value}
 (hy:Rep g w y v) (hno:y≠.no)
 (hptr:∀p b o,y.sub p=some (.ptr b o)->b<S.bx.length)
 (hlent:∀p d e0 e z xs,y.sub p≠some (.lent d e0 e z xs))
 (hepy:∀p x,y.sub p=some x->epOf x<=S.ep)
 (hlink:∀p x u,y.sub p=some x->vsub p v=some u->Link F g w S a x u)
 (hown:∀p k,zD_ y v p k->g.I k=0/\k<w.heap.size/\(∀b,b<S.bx.length->g.φ b≠k)/\(∀r p',r≠.t d->¬Own F g w { S with tm:=tm1 } a r p' k))
 (huq:∀p p' k,zD_ y v p k->zD_ y v p' k->p=p')
 (hll:∀p k m,wQ_ y v p k m->∀l d e z xs v',S.at l=some (.lent d S.ep e z xs)->z8_ F g w a l=some v'->rb v'=some k->xs.length*z<=m) :
 Rel F g w { S with tm:=upd tm1 d y } (a.put (some d) v):=by
 have hsz:d<a.tmps.size:=by rw[h.sz];exact hd
 have hat:∀l,({ S with tm:=upd tm1 d y }:St).at l=S.at l:=fun l=>by cases l<;>rfl
 have hrow:∀l,({ S with tm:=upd tm1 d y }:St).row l=S.row l:=fun l=>by simp only[St.row,hat]
 have hval:∀l,z8_ F g w (a.put (some d) v) l=z8_ F g w a l:=by
  intro l
  cases l with
  |cell b o=>rfl
  | var i =>
    simp only[z8_]
    cases hi:F.sv[i]? with
    |none=>rfl
    | some t =>
      have:t≠d:=fun e=>hdv (e ▸ zzd_ hi)
      simp[yw_ hsz,this]
 have hlink':∀x u,Link F g w S a x u->Link F g w { S with tm:=upd tm1 d y } (a.put (some d) v) x u:=by
  intro x u hl
  cases x<;>simp only[Link,hrow,hval,St.locky,hat]at hl ⊢<;>exact hl
 have hless1:∀x,zi_ { S with tm:=upd tm1 d y } x=true->zi_ S x=true/\zi_ { S with tm:=tm1 } x=true:=by
  intro x hx
  obtain⟨d',e,z,xs,rfl,h2⟩:=z4_ hx
  have h3:tm1 d'=.no:=by
   by_cases he:d'=d
   .subst he;simp[upd]at h2;exact absurd h2 hno
   .simpa[upd,he] using h2
  have h4:S.tm d'=.no:=(hless d').no h3
  exact⟨by simp[zi_,h4],by simp[zi_,h3]⟩
 -- where rows are owned now
 have hown1:∀r p k,Own F g w { S with tm:=upd tm1 d y } (a.put (some d) v) r p k->(r=.t d/\zD_ y v p k)\/(r≠.t d/\Own F g w { S with tm:=tm1 } a r p k/\Own F g w S a r p k):=by
  intro r p k ⟨x,u,hh,ho⟩
  cases r with
  | t t =>
    obtain⟨rfl,rfl⟩:=hh
    by_cases he:t=d
    .subst he
     simp only[zm_,yw_ hsz,if_true]at ho
     rcases ho with ho|⟨rfl,ho,_⟩
     .exact .inl ⟨rfl,ho⟩
     .obtain⟨d',e,z,xs,h1,_⟩:=z4_ ho
      exact absurd (by rw[<-h1];rfl) (hlent [] d' _ e z xs)
    .have hne:(Root.t t)≠.t d:=fun e=>he (by injection e)
     simp only[upd,he,if_false,yw_ hsz]at ho
     rcases ho with ho|⟨rfl,ho,_⟩
     .refine .inr ⟨hne,⟨_,_,⟨rfl,rfl⟩,.inl ho⟩,?_⟩
      obtain⟨e,z,xs,u,q1,q2,q3⟩:=ho
      exact⟨_,_,⟨rfl,rfl⟩,.inl ⟨e,z,xs,u,(hless t).sub_of q1 rfl (by simp),q2,q3⟩⟩
     .obtain⟨d',e,z,xs,h1,_⟩:=z4_ ho
      exact absurd ((hless t).sub_of (p:=[]) (by rw[h1];rfl) rfl (by simp)) (h.notl t [] d' _ e z xs)
  | l l =>
    refine .inr ⟨by simp,?_,?_⟩
    .refine⟨x,u,⟨by rw[<-hh.1];cases l<;>rfl,(hval l) ▸ hh.2⟩,?_⟩
     rcases ho with ho|⟨h1,h2,h3⟩
     .exact .inl ho
     .exact .inr ⟨h1,(hless1 x h2).2,h3⟩
    .refine⟨x,u,⟨(hat l) ▸ hh.1,(hval l) ▸ hh.2⟩,?_⟩
     rcases ho with ho|⟨h1,h2,h3⟩
     .exact .inl ho
     .exact .inr ⟨h1,(hless1 x h2).1,h3⟩
 refine⟨by simp[Act.put,h.sz],h.dfr,?_,?_,?_,h.box,h.inj,?_,?_,?_,?_,?_,?_,h.Ilt,fun t ht=>?_,?_,?_,?_⟩
 .intro r x u hh
  cases r with
  | t t =>
    obtain⟨rfl,rfl⟩:=hh
    by_cases he:t=d
    .subst he;simpa only[zm_,yw_ hsz,if_true] using hy
    .simp only[upd,he,if_false,yw_ hsz]
     exact(hless t).rep g w _ (h.rep (.t t) _ _ ⟨rfl,rfl⟩)
  |l l=>exact h.rep (.l l) x u ⟨(hat l) ▸ hh.1,(hval l) ▸ hh.2⟩
 .intro l x hl
  rw[hval l]
  exact h.lookv l x ((hat l) ▸ hl)
 .intro l d' e z xs u hl hu
  rw[hval l]at hu
  exact h.lentr l d' e z xs u ((hat l) ▸ hl) hu
 .intro r x u p b o hh hp
  cases r with
  | t t =>
    obtain⟨rfl,rfl⟩:=hh
    by_cases he:t=d
    .subst he
     simp only[zm_]at hp
     exact hptr p b o hp
    .simp only[upd,he,if_false]at hp
     exact h.ptr (.t t) _ _ p b o ⟨rfl,rfl⟩ ((hless t).sub_of hp rfl (by simp))
  |l l=>exact h.ptr (.l l) x u p b o ⟨(hat l) ▸ hh.1,(hval l) ▸ hh.2⟩ hp
 .intro r p k ho
  rcases hown1 r p k ho with ⟨_,h1⟩|⟨_,_,h1⟩
  .exact⟨(hown p k h1).1,(hown p k h1).2.1,(hown p k h1).2.2.1⟩
  .exact h.ownI r p k h1
 .intro r p r' p' k h1 h2
  rcases hown1 r p k h1 with ⟨e1,q1⟩|⟨e1,q1,q1'⟩<;>rcases hown1 r' p' k h2 with ⟨e2,q2⟩|⟨e2,q2,q2'⟩
  .exact⟨e1.trans e2.symm,huq p p' k q1 q2⟩
  .exact absurd q2 ((hown p k q1).2.2.2 r' p' e2)
  .exact absurd q1 ((hown p' k q2).2.2.2 r p e1)
  .exact h.uniq r p r' p' k q1' q2'
 .intro t p x u hx hu
  refine hlink' x u ?_
  by_cases he:t=d
  .subst he
   simp only[zm_,yw_ hsz,if_true]at hx hu
   exact hlink p x u hx hu
  .simp only[upd,he,if_false,yw_ hsz]at hx hu
   by_cases hl:leaf x=true
   .rcases(hless t).sub p x hx hl with rfl|hx'
    .trivial
    .exact h.link t p x u hx' hu
   .cases x<;>simp[leaf]at hl<;>trivial
 .intro l x hl
  exact h.novw l x ((hat l) ▸ hl)
 .intro t p d' e0 e z xs hx
  by_cases he:t=d
  .subst he;simp only[zm_]at hx;exact hlent p d' e0 e z xs hx
  .simp only[upd,he,if_false]at hx
   exact h.notl t p d' e0 e z xs ((hless t).sub_of hx rfl (by simp))
 .have:t≠d:=fun e=>hdv (e ▸ ht)
  simp only[upd,this,if_false,htv t ht]
  exact h.tmv t ht
 .intro t p x hx
  by_cases he:t=d
  .subst he;simp only[zm_]at hx;exact hepy p x hx
  .simp only[upd,he,if_false]at hx
   exact(hless t).ep h.ept hx
 .intro l x hl
  exact h.epl l x ((hat l) ▸ hl)
 .intro l d' e z xs v' k hl hv' hk r p m ⟨x,u,hh,ho⟩
  rw[hval l]at hv'
  have hl':=(hat l) ▸ hl
  cases r with
  | t t =>
    obtain⟨rfl,rfl⟩:=hh
    by_cases he:t=d
    .subst he
     simp only[zm_,yw_ hsz,if_true]at ho
     rcases ho with ho|⟨rfl,d2,e2,z2,xs2,ho,_⟩
     .exact hll p k m ho l d' e z xs v' hl' hv' hk
     .exact absurd (by rw[ho];rfl) (hlent [] d2 _ e2 z2 xs2)
    .simp only[upd,he,if_false,yw_ hsz]at ho
     rcases ho with ⟨e2,z2,xs2,u2,q1,q2,q3,q4⟩|⟨rfl,d2,e2,z2,xs2,ho,_⟩
     .exact h.lentl l d' e z xs v' k hl' hv' hk (.t t) p m ⟨_,_,⟨rfl,rfl⟩,.inl ⟨e2,z2,xs2,u2,(hless t).sub_of q1 rfl (by simp),q2,q3,q4⟩⟩
     .exact absurd ((hless t).sub_of (p:=[]) (by rw[ho];rfl) rfl (by simp)) (h.notl t [] d2 _ e2 z2 xs2)
  | l l2 =>
    refine h.lentl l d' e z xs v' k hl' hv' hk (.l l2) p m ⟨x,u,⟨(hat l2) ▸ hh.1,(hval l2) ▸ hh.2⟩,?_⟩
    rcases ho with ho|⟨h1,d2,e2,z2,xs2,h2,h3,h4⟩
    .exact .inl ho
    .refine .inr ⟨h1,d2,e2,z2,xs2,h2,?_,h4⟩
     have h5:tm1 d2=.no:=by
      by_cases he:d2=d
      .subst he;simp only[zm_]at h3;exact absurd h3 hno
      .simpa[upd,he] using h3
     exact(hless d2).no h5
end
theorem zT_{y x:V}{p:List Nat}(h:ze_ y=true)(hs:y.sub p=some x):p=[]/\x=y:=by
 cases p with
 |nil=>simp[V.sub]at hs;exact⟨rfl,hs.symm⟩
 |cons i p=>cases y<;>simp[V.sub]at hs<;>simp[ze_]at h
theorem yx_{y:V}{v:Value}{p:List Nat}{k:Nat}(h:ze_ y=true)(ho:zD_ y v p k):p=[]/\(∃e z xs,y=.own true e z xs)/\rb v=some k:=by
 obtain⟨e,z,xs,u,h1,h2,h3⟩:=ho
 obtain⟨rfl,h4⟩:=zT_ h h1
 simp[vsub]at h2
 subst h2
 exact⟨rfl,⟨e,z,xs,h4.symm⟩,h3⟩
section
variable{F:Fr}{g:Gh}{w w':World}{S S':St}{a a':Act}
theorem Rel.place_core(h:Rel F g w S a)(K:Nat->Prop){tm1:Nat->V}(hless:∀t,Less (tm1 t) (S.tm t))(htv:∀t∈F.sv,tm1 t=S.tm t){l:Loc}{old y:V}{v:Value}(hold:S.at l=some old)
 (hy:Rep g w' y v) (hst:ze_ y=true) (hptr:∀b o,y=.ptr b o->b<S.bx.length)
 (hown:∀k,(∃e z xs,y=.own true e z xs)->rb v=some k->g.I k=0/\k<w.heap.size/\(∀b,b<S.bx.length->g.φ b≠k)/\(∀r p',r≠.l l->¬Own F g w { S with tm:=tm1 } a r p' k))
 (hll:∀k m,(∃e z xs,y=.own true e z xs/\m=xs.length*z)->rb v=some k->∀l d e z xs v',S.at l=some (.lent d S.ep e z xs)->z8_ F g w a l=some v'->rb v'=some k->xs.length*z<=m)
 (htm:S'.tm=tm1) (hep:S'.ep=if locky old=true then S.ep+1 else S.ep) (hlen:S'.bx.length=S.bx.length)
 (hat:∀l',S'.at l'=if l'=l then some y else S.at l') (hval:∀l' x,S'.at l'=some x->z8_ F g w' a' l'=if l'=l then some v else z8_ F g w a l')
 (hone:(∃b o,l=.cell b o)->v.oneCell'=true)
 (htmps:∀t,t∉F.sv->Act.tv a' t=Act.tv a t) (hsz:a'.tmps.size=a.tmps.size) (hdf:a'.defers=a.defers)
 (hcell:∀b o,o<g.I b->w'.cell? ⟨b,o,none⟩=w.cell? ⟨b,o,none⟩) (hrow:∀k,(∀b,b<S.bx.length->g.φ b≠k)->¬K k->w'.heap[k]?=w.heap[k]?) (hK:∀k,K k->locky old=true/\∀r p,r≠.l l->¬Own F g w { S with tm:=tm1 } a r p k)
 (hws:w'.heap.size=w.heap.size)
 (hbox:∀b cs,S'.bx[b]?=some cs->∃vs ty,w'.heap[g.φ b]?=some (.cells vs ty (0,0))/\vs.size=cs.length/\g.I (g.φ b)=0):Rel F g w' S' a'/\∀r p k,Own F g w' S' a' r p k->((∃e z xs,y=.own true e z xs)/\rb v=some k)\/Own F g w S a r p k:=by
 have hrk:∀ {x:V} {u:Value},Rep g w x u->(∀p k,zD_ x u p k->(∀b,b<S.bx.length->g.φ b≠k)/\¬K k)->Rep g w' x u:=fun hx ho =>
  hx.keep (fun b o hI=>⟨hI,hcell b o hI⟩) (fun p k q=>hrow k (ho p k q).1 (ho p k q).2) (fun _ _ _ _=>rfl)
 have hle:S.ep<=S'.ep:=by rw[hep];split<;>omega
 have hepq:∀x,epOf x<=S.ep->epOf x=S'.ep->S'.ep=S.ep:=fun x h1 h2=>by omega
 have hlat:∀l',l'≠l->S'.at l'=S.at l':=fun l' hn=>by rw[hat l',if_neg hn]
 have hly:S'.at l=some y:=by rw[hat l,if_pos rfl]
 -- a lent row that is one now was one
 have hlless:∀l' x,S.at l'=some x->zi_ S' x=true->zi_ S x=true/\zi_ { S with tm:=tm1 } x=true:=by
  intro l' x hl' hx
  obtain⟨d,e,z,xs,rfl,h2⟩:=z4_ hx
  rw[htm]at h2
  have h3:=hepq _ (h.epl l' _ hl') rfl
  have h4:S.tm d=.no:=(hless d).no h2
  rw[h3]
  exact⟨by simp[zi_,h4],by simp[zi_,h2]⟩
 have hvl:z8_ F g w' a' l=some v:=by rw[hval l y hly,if_pos rfl]
 have hvo:∀l' x,l'≠l->S.at l'=some x->z8_ F g w' a' l'=z8_ F g w a l':=fun l' x hn hx=>by rw[hval l' x ((hlat l' hn).trans hx),if_neg hn]
 have hnl:∀d e0 e z xs,y≠.lent d e0 e z xs:=fun d e0 e z xs he=>by subst he;simp[ze_]at hst
 have hown1:∀r p k,Own F g w' S' a' r p k->(r=.l l/\p=[]/\(∃e z xs,y=.own true e z xs)/\rb v=some k)\/(r≠.l l/\Own F g w { S with tm:=tm1 } a r p k/\Own F g w S a r p k):=by
  intro r p k ⟨x,u,hh,ho⟩
  cases r with
  | t t =>
    obtain⟨rfl,rfl⟩:=hh
    rw[htm]at ho
    have hts:t∉F.sv\/S.tm t=.no:=by
     by_cases ht:t∈F.sv
     .exact .inr (h.tmv t ht)
     .exact .inl ht
    have hnt:t∉F.sv:=by
     rcases hts with h1|h1
     .exact h1
     .intro ht
      rw[htv t ht,h1]at ho
      rcases ho with ⟨e,z,xs,_,q,_⟩|⟨_,q,_⟩
      .cases p<;>simp[V.sub]at q
      .simp[zi_]at q
    rw[htmps t hnt]at ho
    refine .inr ⟨by simp,?_,?_⟩
    .rcases ho with ho|⟨rfl,ho,_⟩
     .exact⟨_,_,⟨rfl,rfl⟩,.inl ho⟩
     .obtain⟨d',e,z,xs,h1,_⟩:=z4_ ho
      exact absurd ((hless t).sub_of (p:=[]) (by rw[h1];rfl) rfl (by simp)) (h.notl t [] d' _ e z xs)
    .rcases ho with ⟨e,z,xs,u,q1,q2,q3⟩|⟨rfl,ho,_⟩
     .exact⟨_,_,⟨rfl,rfl⟩,.inl ⟨e,z,xs,u,(hless t).sub_of q1 rfl (by simp),q2,q3⟩⟩
     .obtain⟨d',e,z,xs,h1,_⟩:=z4_ ho
      exact absurd ((hless t).sub_of (p:=[]) (by rw[h1];rfl) rfl (by simp)) (h.notl t [] d' _ e z xs)
  | l l' =>
    by_cases he:l'=l
    .subst he
     have h1:=hh.1
     rw[hly]at h1
     injection h1 with h1
     subst h1
     have h2:=hh.2
     rw[hvl]at h2
     injection h2 with h2
     subst h2
     rcases ho with ho|⟨rfl,ho,_⟩
     .obtain⟨q1,q2,q3⟩:=yx_ hst ho
      exact .inl ⟨rfl,q1,q2,q3⟩
     .obtain⟨d',e,z,xs,h1,_⟩:=z4_ ho
      exact absurd h1 (hnl _ _ _ _ _)
    .have hx:S.at l'=some x:=(hlat l' he) ▸ hh.1
     have hu:z8_ F g w a l'=some u:=(hvo l' x he hx) ▸ hh.2
     refine .inr ⟨fun e=>he (by injection e),?_,?_⟩
     .refine⟨x,u,⟨by rw[<-hx];cases l'<;>rfl,hu⟩,?_⟩
      rcases ho with ho|⟨h1,h2,h3⟩
      .exact .inl ho
      .exact .inr ⟨h1,(hlless l' x hx h2).2,h3⟩
     .refine⟨x,u,⟨hx,hu⟩,?_⟩
      rcases ho with ho|⟨h1,h2,h3⟩
      .exact .inl ho
      .exact .inr ⟨h1,(hlless l' x hx h2).1,h3⟩
 have hrowS:∀l' z xs,l'≠l->S'.ep=S.ep->S'.row l'=some (z,xs)->S.row l'=some (z,xs):=by
  intro l' z xs hn he hr
  unfold St.row at hr ⊢
  rw[hlat l' hn,he]at hr
  exact hr
 have hlive:S'.ep=S.ep->locky old=false:=by
  intro he
  rw[hep]at he
  cases hl:locky old
  .rfl
  .rw[hl]at he;simp at he
 have hne:∀l',S'.ep=S.ep->S.locky l'->l'≠l:=by
  intro l' he ⟨x,hx,hlx⟩ hn
  subst hn
  rw[hold]at hx
  injection hx with hx
  subst hx
  rw[hlive he]at hlx
  cases hlx
 have hlk:∀l',l'≠l->S.locky l'->S'.locky l':=fun l' hn ⟨x,hx,hlx⟩=>⟨x,(hlat l' hn).trans hx,hlx⟩
 have htv':∀t,t∉F.sv\/tm1 t=.no:=fun t=>by
  by_cases ht:t∈F.sv
  .exact .inr ((htv t ht).trans (h.tmv t ht))
  .exact .inl ht
 refine⟨?_,fun r p k ho=>(hown1 r p k ho).elim (fun q=>.inl ⟨q.2.2.1,q.2.2.2⟩) (fun q=>.inr q.2.2)⟩
 refine⟨hsz.trans h.sz,hdf.trans h.dfr,?_,?_,?_,hbox,?_,?_,?_,?_,?_,?_,?_,?_,?_,?_,?_,?_⟩
 .intro r x u hh
  cases r with
  | t t =>
    obtain⟨rfl,rfl⟩:=hh
    rw[htm]
    rcases htv' t with ht|ht
    .rw[htmps t ht]
     have hr:=(hless t).rep g w _ (h.rep (.t t) _ _ ⟨rfl,rfl⟩)
     refine hrk hr (fun p k ho=>⟨?_,fun hk=>(hK k hk).2 (.t t) p (by simp) ⟨_,_,⟨rfl,rfl⟩,.inl ho⟩⟩)
     obtain⟨e,z,xs,u,q1,q2,q3⟩:=ho
     exact(h.ownI (.t t) p k ⟨_,_,⟨rfl,rfl⟩,.inl ⟨e,z,xs,u,(hless t).sub_of q1 rfl (by simp),q2,q3⟩⟩).2.2
    .rw[ht];exact .no
  | l l' =>
    by_cases he:l'=l
    .subst he
     have h1:=hh.1
     rw[hly]at h1
     injection h1 with h1
     subst h1
     have h2:=hh.2
     rw[hvl]at h2
     injection h2 with h2
     subst h2
     exact hy
    .have hx:S.at l'=some x:=(hlat l' he) ▸ hh.1
     have hu:z8_ F g w a l'=some u:=(hvo l' x he hx) ▸ hh.2
     refine hrk (h.rep (.l l') x u ⟨hx,hu⟩) (fun p k ho=>⟨(h.ownI (.l l') p k ⟨x,u,⟨hx,hu⟩,.inl ho⟩).2.2,fun hk=>(hK k hk).2 (.l l') p (fun e=>he (by injection e)) ⟨x,u,⟨by rw[<-hx];cases l'<;>rfl,hu⟩,.inl ho⟩⟩)
 .intro l' x hl'
  by_cases he:l'=l
  .subst he
   exact⟨v,hvl,hone⟩
  .have hx:S.at l'=some x:=(hlat l' he) ▸ hl'
   rw[hvo l' x he hx]
   exact h.lookv l' x hx
 .intro l' d e z xs u hl' hu
  by_cases he:l'=l
  .subst he
   rw[hly]at hl'
   injection hl' with hl'
   exact absurd hl' (hnl _ _ _ _ _)
  .have hx:S.at l'=some (.lent d S'.ep e z xs):=(hlat l' he) ▸ hl'
   have h3:=hepq _ (h.epl l' _ hx) rfl
   rw[hvo l' _ he hx]at hu
   rw[h3]at hx
   obtain⟨hr,hk⟩:=h.lentr l' d e z xs u hx hu
   rw[hlen]
   refine⟨hrk hr (fun p k ho=>⟨?_,fun hkk=>?_⟩),hk⟩
   .obtain⟨_,_,_,u',q1,q2,q3⟩:=ho
    cases p with
    |nil=>simp[vsub]at q2;subst q2;exact hk k q3
    |cons i p=>simp[V.sub]at q1
   .have:=(hK k hkk).1
    rw[hep,if_pos this]at h3
    omega
 .intro b b' hb hb' he
  exact h.inj b b' (hlen ▸ hb) (hlen ▸ hb') he
 .intro r x u p b o hh hp
  rw[hlen]
  cases r with
  | t t =>
    obtain⟨rfl,rfl⟩:=hh
    rw[htm]at hp
    exact h.ptr (.t t) _ _ p b o ⟨rfl,rfl⟩ ((hless t).sub_of hp rfl (by simp))
  | l l' =>
    by_cases he:l'=l
    .subst he
     have h1:=hh.1
     rw[hly]at h1
     injection h1 with h1
     subst h1
     obtain⟨_,q⟩:=zT_ hst hp
     exact hptr b o q.symm
    .have hx:S.at l'=some x:=(hlat l' he) ▸ hh.1
     have hu:z8_ F g w a l'=some u:=(hvo l' x he hx) ▸ hh.2
     exact h.ptr (.l l') x u p b o ⟨hx,hu⟩ hp
 .intro r p k ho
  rw[hws,hlen]
  rcases hown1 r p k ho with ⟨_,_,q2,q3⟩|⟨_,_,h1⟩
  .exact⟨(hown k q2 q3).1,(hown k q2 q3).2.1,(hown k q2 q3).2.2.1⟩
  .exact h.ownI r p k h1
 .intro r p r' p' k h1 h2
  rcases hown1 r p k h1 with ⟨e1,p1,q1,s1⟩|⟨e1,q1,q1'⟩<;>rcases hown1 r' p' k h2 with ⟨e2,p2,q2,s2⟩|⟨e2,q2,q2'⟩
  .exact⟨e1.trans e2.symm,p1.trans p2.symm⟩
  .exact absurd q2 ((hown k q1 s1).2.2.2 r' p' e2)
  .exact absurd q1 ((hown k q2 s2).2.2.2 r p e1)
  .exact h.uniq r p r' p' k q1' q2'
 .intro t p x u hx hu
  rw[htm]at hx
  by_cases hxn:x=.no
  .subst hxn;trivial
  by_cases hl:leaf x=true
  .rcases(hless t).sub p x hx hl with rfl|hx'
   .trivial
   ·have hnt:t∉F.sv:=by
     rcases htv' t with ht|ht
     .exact ht
     .rw[ht]at hx
      cases p with
      | nil =>
        simp[V.sub]at hx
        exact absurd hx.symm hxn
      |cons i p=>simp[V.sub]at hx
    rw[htmps t hnt]at hu
    have h0:=h.link t p x u hx' hu
    have h1:=h.ept t p x hx'
    cases x<;>simp only[Link]at h0 ⊢
    all_goals
     intro he
     have hq:=hepq _ h1 he
     rw[he,hq]at h0
     obtain⟨q1,q2⟩:=h0 rfl
     have hn:=hne _ hq q1
     refine⟨hlk _ hn q1,fun z xs hr=>?_⟩
     have hr':=hrowS _ z xs hn hq hr
     obtain⟨y',hy',_⟩:=q1
     rw[hvo _ y' hn hy']
     exact q2 z xs hr'
  .cases x<;>simp[leaf]at hl<;>trivial
 .intro l' x hl'
  by_cases he:l'=l
  .subst he
   rw[hly]at hl'
   injection hl' with hl'
   subst hl'
   intro p
   refine⟨?_,?_,?_,?_⟩<;>intros<;>intro hs<;>obtain⟨_,q⟩:=zT_ hst hs<;>subst q<;>simp[ze_]at hst
  .exact h.novw l' x ((hlat l' he) ▸ hl')
 .intro t p d e0 e z xs hx
  rw[htm]at hx
  exact h.notl t p d e0 e z xs ((hless t).sub_of hx rfl (by simp))
 .intro k hk
  rw[hws]
  exact h.Ilt k hk
 .intro t ht
  rw[htm,htv t ht]
  exact h.tmv t ht
 .intro t p x hx
  rw[htm]at hx
  exact yyd_ ((hless t).ep h.ept hx) hle
 .intro l' x hl'
  by_cases he:l'=l
  .subst he
   rw[hly]at hl'
   injection hl' with hl'
   subst hl'
   cases y<;>simp[ze_]at hst<;>exact zzn_ _
  .exact yyd_ (h.epl l' x ((hlat l' he) ▸ hl')) hle
 .intro l' d' e z xs v' k hl' hv' hk r p m ⟨x,u,hh,ho⟩
  by_cases he:l'=l
  .subst he
   rw[hly]at hl'
   injection hl' with hl'
   exact absurd hl' (hnl _ _ _ _ _)
  have hx:S.at l'=some (.lent d' S'.ep e z xs):=(hlat l' he) ▸ hl'
  have h3:=hepq _ (h.epl l' _ hx) rfl
  rw[hvo l' _ he hx]at hv'
  rw[h3]at hx
  cases r with
  | t t =>
    obtain⟨rfl,rfl⟩:=hh
    rw[htm]at ho
    have hnt:t∉F.sv:=by
     intro ht
     rw[htv t ht,h.tmv t ht]at ho
     rcases ho with ⟨e2,z2,xs2,_,q,_⟩|⟨_,d2,e2,z2,xs2,q,_⟩
     .cases p<;>simp[V.sub]at q
     .cases q
    rw[htmps t hnt]at ho
    rcases ho with ⟨e2,z2,xs2,u2,q1,q2,q3,q4⟩|⟨rfl,d2,e2,z2,xs2,q,_⟩
    .exact h.lentl l' d' e z xs v' k hx hv' hk (.t t) p m ⟨_,_,⟨rfl,rfl⟩,.inl ⟨e2,z2,xs2,u2,(hless t).sub_of q1 rfl (by simp),q2,q3,q4⟩⟩
    .exact absurd ((hless t).sub_of (p:=[]) (by rw[q];rfl) rfl (by simp)) (h.notl t [] d2 _ e2 z2 xs2)
  | l l2 =>
    by_cases he2:l2=l
    .subst he2
     have h1:=hh.1
     rw[hly]at h1
     injection h1 with h1
     subst h1
     have h2:=hh.2
     rw[hvl]at h2
     injection h2 with h2
     subst h2
     rcases ho with ⟨e2,z2,xs2,u2,q1,q2,q3,q4⟩|⟨_,d2,e2,z2,xs2,q,_⟩
     .obtain⟨rfl,q5⟩:=zT_ hst q1
      simp[vsub]at q2
      subst q2
      exact hll k m ⟨e2,z2,xs2,q5.symm,q4⟩ q3 l' d' e z xs v' hx hv' hk
     .exact absurd q (hnl _ _ _ _ _)
    .have hx2:S.at l2=some x:=(hlat l2 he2) ▸ hh.1
     have hu2:z8_ F g w a l2=some u:=(hvo l2 x he2 hx2) ▸ hh.2
     refine h.lentl l' d' e z xs v' k hx hv' hk (.l l2) p m ⟨x,u,⟨hx2,hu2⟩,?_⟩
     rcases ho with ho|⟨h1,d2,e2,z2,xs2,h2,h4,h5⟩
     .exact .inl ho
     .exact .inr ⟨h1,d2,e2,z2,xs2,by rw[h2,h3],(hless d2).no (htm ▸ h4),h5⟩
end
end
def vix:List Nat->Nat->Option Nat
 |[],_=>none
 |x::r,t=>if x=t then some 0 else (vix r t).map (·+1)
theorem uj_{l:List Nat}{t i:Nat}(h:vix l t=some i):l[i]?=some t:=by
 induction l generalizing i with
 |nil=>cases h
 | cons x r ih =>
   simp only[vix]at h
   split at h
   .next e=>cases h;simp[e]
   .cases hr:vix r t with
    |none=>rw[hr]at h;cases h
    |some j=>rw[hr]at h;cases h;simpa using ih hr
theorem st_{l:List Nat}{t:Nat}(h:vix l t=none):t∉l:=by
 induction l with
 |nil=>simp
 | cons x r ih =>
   simp only[vix]at h
   split at h
   .cases h
   .next e =>
    cases hr:vix r t with
    |none=>simp[ih hr,Ne.symm e]
    |some j=>rw[hr]at h;cases h
def opd(F:Fr):Operand->Option Opd
 |.const v=>if v.oneCell' then some (.c v) else none
 | .tmp t => match vix F.sv t with
   |some i=>some (.v i)
   |none=>some (.t t)
 |_=>none
def opds(F:Fr):List Operand->Option (List Opd)
 |[]=>some []
 |x::r=>(opd F x).bind fun y=>(opds F r).bind fun q=>some (y::q)
def opdO(F:Fr):Option Operand->Option (Option Opd)
 |none=>some none
 |some x=>(opd F x).map some
def sizeT(P:Program)(t:TypeId):Option Nat:=(P.info? t).map (·.size)
def aggT(P:Program)(t:TypeId):Option Bool:=(P.underlying t).map fun
 |.struct _|.array _ _=>true
 |_=>false
def wX_(P:Program)(t:TypeId):Option Value:=(P.info? t).bind fun i=>i.zero.bind fun z=>if z.cells.size=i.size/\z.cells.all (·.oneCell') then some z else none
def vq_(P:Program):List Field->Option (List (Nat×Nat))
 |[]=>some []
 |f::r=>(sizeT P f.type).bind fun n=>(vq_ P r).bind fun q=>some ((f.offset,n)::q)
def wk_(F:Fr)(pl:Nat->Option (Nat×Nat)):List (Nat×Operand)->Option (List (Nat×Nat×Opd))
 |[]=>some []
 |(i,x)::r=>(pl i).bind fun q=>(opd F x).bind fun y=>(wk_ F pl r).bind fun q'=>some ((q.1,q.2,y)::q')
def vs_(F:Fr):List (Nat×Operand)->Option (List (Nat×Opd))
 |[]=>some []
 |(i,x)::r=>(opd F x).bind fun y=>(vs_ F r).bind fun q'=>some ((i,y)::q')
def od_(P:Program)(t:TypeId):Option LK:=match P.underlying t with
 |some (.int _)=>some .int
 |some .bool=>some .bool
 |some .string=>some .str
 |_=>none
def eqLs(P:Program):Nat->TypeId->Option (List LK)
 |0,_=>none
 | d + 1, t => match P.underlying t with
   | some (.struct fs) => (fs.toList.foldlM (fun ks f => if f.name = "_" ∨ f.offset ≠ ks.length then none else (eqLs P d f.type).map fun r => ks ++ r) []).bind fun ks => if P.stoodInHeld t = false ∧ sizeT P t = some ks.length then some ks else none
   |_=>(od_ P t).map fun k=>[k]
def sb_(P:Program)(t:TypeId):Option (Nat×Bool):=(sizeT P t).bind fun n=>(aggT P t).bind fun ag=>if ag=false/\n≠1 then none else some (n,ag)
def compOp(P:Program)(F:Fr)(o:Op):Option AOp :=
 match o with
 |.move x=>(opd F x).map .mv
 |.assign x=>(opd F x).map .asg
 |.pick c a b=>(opd F c).bind fun c=>(opd F a).bind fun a=>(opd F b).map fun b=>.pick c a b
 | .binOp op t x y _ => (opd F x).bind fun x => (opd F y).bind fun y => match P.underlying t with
   |some (.int _)|some .string=>some (.bin op x y)
   |some .bool=>some (.bib op x y)
   | some (.struct _) => (match op with
     |.eql=>if P.eqGuardType P.depth t=false then (eqLs P 4 t).map fun ks=>.ex (.eqA false ks) x y else none
     |.neq=>if P.eqGuardType P.depth t=false then (eqLs P 4 t).map fun ks=>.ex (.eqA true ks) x y else none
     |_=>none)
   | some (.slice _) => (match op, y with
     |.eql,.c (.slice none 0 0)=>some (.isn false x)
     |.neq,.c (.slice none 0 0)=>some (.isn true x)
     |_,_=>none)
   |_=>none
 |.unOp op _ x=>(opd F x).map (.un op)
 | .convert s d x => match P.underlying s, P.underlying d with
   |some (.int _),some (.int k)=>(opd F x).map (.conv k)
   | some (.slice e), dt => (match P.underlying e with
     | some (.int .u8) => (match dt with
       |some .string=>(opd F x).map .b2s
       |some (.slice _)=>if s=d then (opd F x).map .cvb else none
       |_=>none)
     |_=>none)
   |_,_=>none
 |.nilCheck x=>(opd F x).map .nilck
 |.extract (.tmp t) i=>if F.sv.contains t then none else some (.ext t i)
 | .build t parts => (wX_ P t).bind fun z => match P.underlying t with
   |some (.struct fs)=>(vq_ P fs.toList).bind fun pl=>(wk_ F (pl[·]?) parts.toList).map fun q=>.bld z.cells.toList q
   |some (.array _ e)=>(sizeT P e).bind fun n=>(wk_ F (fun i=>some (i*n,n)) parts.toList).map fun q=>.bld z.cells.toList q
   |_=>none
 | .buildSlice t len parts => match P.underlying t with
   |some (.slice e)=>(sizeT P e).bind fun n=>(wX_ P e).bind fun z=>(vs_ F parts.toList).map fun q=>.bls e n z len q
   |_=>none
 |.alloc e=>(wX_ P e).map fun z=>.allo z.cells.toList
 |.box e x=>(opd F x).bind fun x=>(sizeT P e).map fun n=>.box n x
 |.load t p=>(opd F p).bind fun p=>(sizeT P t).bind fun n=>(aggT P t).bind fun ag=>if ag=false/\n≠1 then none else some (.ld n ag p)
 |.store t p x=>(opd F p).bind fun p=>(opd F x).bind fun x=>(sizeT P t).map fun n=>.st n p x
 | .fieldAddr s x f => (opd F x).bind fun x => match P.underlying s with
   |some (.struct fs)=>(fs[f]?).bind fun f=>(sizeT P f.type).bind fun n=>if n=0 then none else some (.fa f.offset x)
   |_=>none
 | .field s x f => (opd F x).bind fun x => match P.underlying s with
   |some (.struct fs)=>(fs[f]?).bind fun f=>(sb_ P f.type).map fun q=>.ex (.prt f.offset q.1 q.2) x (.c (.int .i64 0))
   |_=>none
 | .index t x i => (opd F x).bind fun x => (opd F i).bind fun i => match P.underlying t with
   |some (.array len e)=>(sb_ P e).map fun q=>.ex (.idx len q.1 q.2) x i
   |some .string=>some (.ex .sidx x i)
   |_=>none
 | .indexAddr t x i => (opd F x).bind fun x => (opd F i).bind fun i => match P.underlying t with
   |some (.slice e)=>(sizeT P e).map fun z=>.ia z x i
   |some (.array len e)=>(sizeT P e).bind fun z=>if z=0 then none else some (.iaa z len x i)
   |_=>none
 | .slice t x lo hi mx => (opd F x).bind fun x => (opdO F lo).bind fun lo => (opdO F hi).bind fun hi => (opdO F mx).bind fun mx => match P.underlying t with
   |some (.slice e)=>(sizeT P e).bind fun z=>if mx.isSome/\hi.isNone then none else some (.sl e z x lo hi mx)
   |some .string=>if mx.isSome then none else some (.ssl x lo hi)
   |_=>none
 | .makeSlice t n c => (opd F n).bind fun n => (opd F c).bind fun c => match P.underlying t with
   |some (.slice e)=>(P.info? e).bind fun i=>(wX_ P e).map fun z=>.mk e i.size i.bytes z n c
   |_=>none
 | .makeFunc (.func f) first caps => match first.toList, caps.toList with
   |[],[x]=>(opd F x).map (.mkf f)
   |_,_=>none
 | .call c => match c.callee with
   | .builtin .append => (match c.args.toList, c.argTypes.toList with
     |[x,y],[t,t']=>if t=t' then (opd F x).bind fun x=>(opd F y).bind fun y=>(match P.underlying t with
      |some (.slice e)=>(P.info? e).bind fun i=>(wX_ P e).map fun _=>.app e i.size i.bytes x y
      |_=>none) else none
     |_,_=>none)
   | .builtin .len => (match c.args.toList, c.argTypes.toList with
     |[x],[t]=>(opd F x).bind fun x=>(match P.underlying t with
      |some (.slice _)=>some (.len x)
      |some .string=>some (.slen x)
      |_=>none)
     |_,_=>none)
   | .builtin .min => (match c.args.toList with
     |[x,y]=>(opd F x).bind fun x=>(opd F y).map fun y=>.mnx false x y
     |_=>none)
   | .builtin .max => (match c.args.toList with
     |[x,y]=>(opd F x).bind fun x=>(opd F y).map fun y=>.mnx true x y
     |_=>none)
   | .value (.func f) => (opds F c.args.toList).bind fun xs => match P.funcs[f]? with
     | some fn => if fn.body.isSome ∧ (fn.name == "runtime.NumGoroutine") = false then some (.call f xs) else none
     |none=>none
   |.value (.tmp t)=>(opds F c.args.toList).bind fun xs=>if F.sv.contains t then none else some (.callv t xs)
   |_=>none
 |_=>none
def yB_:AOp->Bool
 |.asg _=>true
 |_=>false
def isSt:AOp->Bool
 |.st _ _ _=>true
 |_=>false
def xt_(F:Fr)(o:Option Tmp)(op:AOp):Option Dst :=
 match o with
 |none=>if isSt op then some .none else none
 | some d => match vix F.sv d with
   |some i=>if yB_ op then some (.v i) else none
   |none=>if yB_ op||isSt op||decide (F.N<=d) then none else some (.t d)
def xs_(P:Program)(F:Fr)(ops:Array Oper)(o:Oper):Option AOper :=
 (compOp P F o.op).bind fun op=>(xt_ F o.dst op).bind fun d =>
  match o.guard with
  |none=>some ⟨d,op,none⟩
  |some (j,want)=>((ops[j]?).bind (·.dst)).bind fun t=>if F.sv.contains t||yB_ op||isSt op then none else some ⟨d,op,some (t,want)⟩
def yl_(P:Program)(F:Fr)(ops:Array Oper):List Oper->Option (List AOper)
 |[]=>some []
 |o::r=>(xs_ P F ops o).bind fun x=>(yl_ P F ops r).bind fun q=>some (x::q)
inductive Ghost where
 |freeze (l:Loc)
 |frz (l:Loc)
 |lend (l:Loc) (d:Nat)
 |own (l:Loc) (e z:Nat)
 |lendv (v b o d:Nat)
 |lendm (b:Nat) (os:List Nat) (d:Nat)
structure Ann where
 sh:List Nat
 lf:List Nat
 acs:List Nat
 ap:List (Nat×Nat×Nat)
inductive ACode where
 |skip
 |reg (id:Nat) (pre:List Ghost) (ops:List AOper) (es:Option (List (List Nat))) (an:Ann)
 |seq (a b:ACode)
 |cond (c:Opd) (x y:ACode)
 |block (id:Nat) (c:ACode)
 |loop (c:ACode)
 |exit (id:Nat)
 |ret
 |scope (l:Nat) (c r:ACode)
 |label (l:Nat)
 |goto (l:Nat)
@[reducible] def qN (t:Nat) (o:AOp):AOper:=⟨.t t,o,none⟩
@[reducible] def qV (t:Nat) (o:Opd):AOper:=⟨.v t,.asg o,none⟩
@[reducible] def qS (n:Nat) (x y:Opd):AOper:=⟨.none,.st n x y,none⟩
@[reducible] def qG (t g:Nat) (w:Bool) (o:AOp):AOper:=⟨.t t,o,some (g,w)⟩
@[reducible] def qI (n:Int):Opd:=.c (.int .i64 n)
@[reducible] def qZ:List Value:=[(.int .i64 0),(.int .i64 0),(.int .i64 0),(.int .i64 0),(.int .i64 0),(.int .i64 0),(.int .i64 0),(.bool false),(.slice none 0 0),(.slice none 0 0),(.bool false)]
@[reducible] def qR (i:Nat) (g:List Ghost) (o:List AOper):ACode:=.reg i g o none ⟨[],[],[],[]⟩
@[reducible] def qP (i:Nat) (o:List AOper):ACode:=.reg i [] o none ⟨[],[],[],[]⟩
@[reducible] def T (t:Nat):Opd:=.t t
@[reducible] def qm (t:Nat):AOp:=.mv (.v t)
@[reducible] def qt (t:Nat):AOp:=.mv (.t t)
@[reducible] def qf (k t:Nat):AOp:=.fa k (.t t)
@[reducible] def ql (k t:Nat):AOp:=.ld k false (.t t)
@[reducible] def qL (k t:Nat):AOp:=.ld k true (.t t)
@[reducible] def qo (a b:Nat):AOp:=.pick (.t a) (.c (.bool true)) (.t b)
@[reducible] def qa (a b:Nat):AOp:=.pick (.t a) (.t b) (.c (.bool false))
@[reducible] def qb (o:BinOp) (a b:Nat):AOp:=.bin o (.t a) (.t b)
@[reducible] def qi (o:BinOp) (a:Nat) (b:Int):AOp:=.bin o (.t a) (.c (.int .i64 b))
def zs_:ACode->ACode
 |.reg id _ ops es _=>.reg id [] ops es ⟨[],[],[],[]⟩
 |.seq a b=>.seq (zs_ a) (zs_ b)
 |.cond c x y=>.cond c (zs_ x) (zs_ y)
 |.block id c=>.block id (zs_ c)
 |.loop c=>.loop (zs_ c)
 |.scope l c r=>.scope l (zs_ c) (zs_ r)
 |c=>c
def tH_(ops:List Oper):List (List Nat):=ops.map fun o=>o.after.toList.filterMap fun e=>if Region.binds .any e then some e.on else none
def aft(l:Nat):ACode->Option ACode
 | .seq a b => match aft l a with
   |some r=>some (.seq r b)
   |none=>aft l b
 |.label l'=>if l'==l then some .skip else none
 |_=>none
def lab1:Code->Nat
 |.seq a b=>max (lab1 a) (lab1 b)
 |.label l=>l
 |_=>0
def comp(P:Program)(F:Fr):Code->Option ACode
 |.skip=>some .skip
 |.region id ops draw=>(yl_ P F ops ops.toList).map fun q=>.reg id [] q (if draw then some (tH_ ops.toList) else none) ⟨[],[],[],[]⟩
 |.seq a b=>(comp P F a).bind fun a=>(comp P F b).map fun b=>.seq a b
 |.cond c x y=>(opd F c).bind fun c=>(comp P F x).bind fun x=>(comp P F y).map fun y=>.cond c x y
 |.block id c=>(comp P F c).map (.block id)
 |.loop c=>(comp P F c).map .loop
 |.exit id=>some (.exit id)
 |.ret=>some .ret
 |.label l=>some (.label l)
 |.goto l=>some (.goto l)
 |.scope c=>(comp P F c).bind fun c'=>(aft (lab1 c) c').map fun r=>.scope (lab1 c) c' r
 |_=>none
theorem mY_{P:Program}{F:Fr}{l:Nat}:∀(c:Code) {c' r:ACode},comp P F c=some c'->aft l c'=some r->∃rest,findLabel c l=some rest/\comp P F rest=some r:=by
 have hn:∀(c:Code) {c':ACode},comp P F c=some c'->aft l c'=none->findLabel c l=none:=by
  intro c
  induction c with
  | seq a b iha ihb =>
    intro c' hc ha
    simp only[comp,zza_,zzb_]at hc
    obtain⟨a1,h1,a2,h2,rfl⟩:=hc
    simp only[aft]at ha
    split at ha
    .cases ha
    .next h0=>simp only[findLabel];rw[iha h1 h0,ihb h2 ha]
  | label l' =>
    intro c' hc ha
    simp only[comp]at hc
    cases hc
    simp only[aft]at ha
    simp only[findLabel]
    split at ha
    .cases ha
    .next h0=>rw[if_neg h0]
  |_=>intro c' hc ha;rfl
 intro c
 induction c with
 | seq a b iha ihb =>
   intro c' r hc ha
   simp only[comp,zza_,zzb_]at hc
   obtain⟨a1,h1,a2,h2,rfl⟩:=hc
   simp only[aft]at ha
   split at ha
   .next r' hr =>
    cases ha
    obtain⟨rest,k1,k2⟩:=iha h1 hr
    exact⟨.seq rest b,by simp only[findLabel,k1],by simp only[comp,k2,h2];rfl⟩
   .next h0 =>
    obtain⟨rest,k1,k2⟩:=ihb h2 ha
    exact⟨rest,by simp only[findLabel];rw[hn a h1 h0];exact k1,k2⟩
 | label l' =>
   intro c' r hc ha
   simp only[comp]at hc
   cases hc
   simp only[aft]at ha
   split at ha
   .next h0=>cases ha;exact⟨.skip,by simp only[findLabel];rw[if_pos h0],rfl⟩
   .cases ha
 | _ =>
   intro c' r hc ha
   exfalso
   simp only[comp]at hc
   repeat' (first|(cases hc;simp only[aft]at ha;cases ha;done)|(cases hc;done)|(simp only[zza_,zzb_]at hc)|(obtain⟨_,_,hc⟩:=hc))
section
def wN_(F:Fr)(g:Gh)(w:World)(S:St)(a:Act)(k:Nat):Prop:=(∃r p,Own F g w S a r p k)\/(∃b,b<S.bx.length/\g.φ b=k)
structure Fw(F:Fr)(g:Gh)(w:World)(S:St)(a:Act)(g':Gh)(w':World)(S':St)(a':Act):Prop where
 os:w'.os=w.os
 tape:w'.tape=w.tape
 output:w'.output=w.output
 size:w.heap.size<=w'.heap.size
 same:∀k,k<w.heap.size->¬wN_ F g w S a k->w'.heap[k]?=w.heap[k]?/\g'.I k=g.I k
 owned:∀k,wN_ F g' w' S' a' k->wN_ F g w S a k\/w.heap.size<=k
theorem Fw.refl(F:Fr)(g:Gh)(w:World)(S:St)(a:Act):Fw F g w S a g w S a:=⟨rfl,rfl,rfl,zzl_ _,fun _ _ _=>⟨rfl,rfl⟩,fun _ h=>.inl h⟩
theorem Fw.trans{F:Fr}{g g1 g2:Gh}{w w1 w2:World}{S S1 S2:St}{a a1 a2:Act}(h:Fw F g w S a g1 w1 S1 a1)(h':Fw F g1 w1 S1 a1 g2 w2 S2 a2):Fw F g w S a g2 w2 S2 a2:=by
 refine⟨h'.os.trans h.os,h'.tape.trans h.tape,h'.output.trans h.output,yyd_ h.size h'.size,fun k hk ho=>?_,fun k ho=>?_⟩
 .obtain⟨q1,q2⟩:=h.same k hk ho
  obtain⟨q3,q4⟩:=h'.same k (zzk_ hk h.size) (fun hn=>by
   rcases h.owned k hn with h1|h1
   .exact ho h1
   .omega)
  exact⟨q3.trans q1,q4.trans q2⟩
 .rcases h'.owned k ho with h1|h1
  .exact h.owned k h1
  .exact .inr (yyd_ h.size h1)
section
variable{P:Program}{F:Fr}{g:Gh}{w:World}{S:St}{a:Act}
theorem vw_(h:Rel F g w S a){x:Operand}{q:Opd}(hx:opd F x=some q):Rep g w (z7_ S q) (a.eval x):=by
 cases x with
 | const v =>
   simp only[opd]at hx
   split at hx
   .next hv =>
    cases hx
    cases v<;>simp[Value.oneCell']at hv<;>exact .s rfl
   .cases hx
 | tmp t =>
   simp only[opd]at hx
   split at hx
   .next i hi =>
    cases hx
    simp only[z7_]
    cases hv:S.vs[i]? with
    |none=>exact .no
    | some y =>
      simp only
      split
      .have hs:F.sv[i]?=some t:=uj_ hi
       exact h.rep (.l (.var i)) y _ ⟨hv,by simp[z8_,hs,Act.tv,Act.eval]⟩
      .exact .no
   .cases hx
    exact h.rep (.t t) _ _ ⟨rfl,rfl⟩
 |global _=>cases hx
 |func _=>cases hx
def wP_:V->Bool
 |.s _|.list _ _|.own false _ _ _|.ptr _ _|.ip _|.view _ _|.sview _ _ _ _|.vp _ _ _ _|.gone=>true
 |_=>false
theorem x8_{y x:V}{p:List Nat}(h:wP_ y=true)(hs:y.sub p=some x):p=[]/\x=y:=by
 cases p with
 |nil=>simp[V.sub]at hs;exact⟨rfl,hs.symm⟩
 |cons i p=>cases y<;>simp[V.sub]at hs<;>simp[wP_]at h
theorem xS_{y:V}{v:Value}{p:List Nat}{k:Nat}(h:wP_ y=true):¬zD_ y v p k:=by
 intro⟨e,z,xs,u,h1,_⟩
 obtain⟨_,h2⟩:=x8_ h h1
 subst h2
 simp[wP_]at h
theorem zf_{tm1:Nat->V}(hless:∀t,Less (tm1 t) (S.tm t))(hn:∀t p d e0 e z xs,(S.tm t).sub p≠some (.lent d e0 e z xs)){r:Root}{p:List Nat}{k:Nat}(ho:Own F g w { S with tm:=tm1 } a r p k):Own F g w S a r p k:=by
 obtain⟨x,u,hh,ho⟩:=ho
 cases r with
 | t t =>
   obtain⟨rfl,rfl⟩:=hh
   refine⟨_,_,⟨rfl,rfl⟩,?_⟩
   rcases ho with ⟨e,z,xs,u,q1,q2,q3⟩|⟨rfl,ho,_⟩
   .exact .inl ⟨e,z,xs,u,(hless t).sub_of q1 rfl (by simp),q2,q3⟩
   .obtain⟨d',e,z,xs,h1,_⟩:=z4_ ho
    have h1':tm1 t=_:=h1
    exact absurd ((hless t).sub_of (p:=[]) (by rw[h1'];rfl) rfl (by simp)) (hn t [] d' _ e z xs)
 | l l =>
   refine⟨x,u,⟨by rw[<-hh.1];cases l<;>rfl,hh.2⟩,?_⟩
   rcases ho with ho|⟨h1,h2,h3⟩
   .exact .inl ho
   .obtain⟨d',e,z,xs,rfl,h4⟩:=z4_ h2
    exact .inr ⟨h1,by simp[zi_,(hless d').no h4],h3⟩
theorem xm_{tm1:Nat->V}{d:Nat}{y:V}{v:Value}(h:Rel F g w S a)(hless:∀t,Less (tm1 t) (S.tm t))(hd:d<F.N)(hdv:d∉F.sv)(hno:y≠.no)(hl:∀p d e0 e z xs,y.sub p≠some (.lent d e0 e z xs)){r:Root}{p:List Nat}{k:Nat}
 (ho:Own F g w { S with tm:=upd tm1 d y } (a.put (some d) v) r p k):(r=.t d/\zD_ y v p k)\/Own F g w S a r p k:=by
 have hsz:d<a.tmps.size:=by rw[h.sz];exact hd
 obtain⟨x,u,hh,ho⟩:=ho
 cases r with
 | t t =>
   obtain⟨rfl,rfl⟩:=hh
   by_cases he:t=d
   .subst he
    simp only[zm_,yw_ hsz,if_true]at ho
    rcases ho with ho|⟨rfl,ho,_⟩
    .exact .inl ⟨rfl,ho⟩
    .obtain⟨d',e,z,xs,h1,_⟩:=z4_ ho
     exact absurd (by rw[<-h1];rfl) (hl [] d' _ e z xs)
   .simp only[upd,he,if_false,yw_ hsz]at ho
    refine .inr (zf_ hless h.notl ⟨_,_,⟨rfl,rfl⟩,?_⟩)
    rcases ho with ho|⟨rfl,ho,_⟩
    .exact .inl ho
    .obtain⟨d',e,z,xs,h1,_⟩:=z4_ ho
     exact absurd ((hless t).sub_of (p:=[]) (by rw[h1];rfl) rfl (by simp)) (h.notl t [] d' _ e z xs)
 | l l =>
   refine .inr ⟨x,u,⟨by rw[<-hh.1];cases l<;>rfl,?_⟩,?_⟩
   .have h2:=hh.2
    cases l with
    |cell b o=>exact h2
    | var i =>
      simp only[z8_]at h2 ⊢
      cases hi:F.sv[i]? with
      |none=>rw[hi]at h2;exact h2
      | some t =>
        have:t≠d:=fun e=>hdv (e ▸ zzd_ hi)
        rw[hi]at h2
        simpa[yw_ hsz,this] using h2
   .rcases ho with ho|⟨h1,h2,h3⟩
    .exact .inl ho
    .obtain⟨d',e,z,xs,rfl,h4⟩:=z4_ h2
     have h5:tm1 d'=.no:=by
      by_cases he:d'=d
      .subst he;simp[upd]at h4;exact absurd h4 hno
      .simpa[upd,he] using h4
     exact .inr ⟨h1,by simp[zi_,(hless d').no h5],h3⟩
def Ends(F:Fr)(g:Gh)(w:World)(S:St)(a:Act)(S':St)(a':Act)(w':World):Prop:=∃g',Rel F g' w' S' a'/\Fw F g w S a g' w' S' a'/\∀b,b<S.bx.length->g'.φ b=g.φ b
theorem zl_(h:Rel F g w S a){d:Nat}(hd:d<F.N)(hdv:d∉F.sv){y:V}{v:Value}(hy:Rep g w y v)(hp:wP_ y=true)
 (hptr:∀b o,y=.ptr b o->b<S.bx.length) (hep:epOf y<=S.ep) (hl:Link F g w S a y v):Ends F g w S a { S with tm:=upd S.tm d y } (a.put (some d) v) w:=by
 have hl':∀p d e0 e z xs,y.sub p≠some (.lent d e0 e z xs):=fun p d e0 e z xs hs=>by obtain⟨_,q⟩:=x8_ hp hs;subst q;simp[wP_]at hp
 have hno:y≠.no:=fun e=>by subst e;simp[wP_]at hp
 refine⟨g,h.put (fun t=>Less.refl _) (fun _ _=>rfl) hd hdv hy hno (fun p b o hs=>?_) hl' (fun p x hs=>?_) (fun p x u hs hu=>?_) (fun p k ho=>absurd ho (xS_ hp)) (fun p p' k ho=>absurd ho (xS_ hp)) (fun p k m ⟨e,z,xs,u,q1,q2,q3,_⟩=>absurd ⟨e,z,xs,u,q1,q2,q3⟩ (xS_ hp)),⟨rfl,rfl,rfl,zzl_ _,fun _ _ _=>⟨rfl,rfl⟩,fun k ho=>?_⟩,fun _ _=>rfl⟩
 .obtain⟨_,q⟩:=x8_ hp hs;exact hptr b o q.symm
 .obtain⟨_,q⟩:=x8_ hp hs;subst q;exact hep
 .obtain⟨rfl,q⟩:=x8_ hp hs;subst q;simp[vsub]at hu;subst hu;exact hl
 .rcases ho with ⟨r,p,ho⟩|ho
  .rcases xm_ h (fun t=>Less.refl _) hd hdv hno hl' ho with ⟨_,q⟩|q
   .exact absurd q (xS_ hp)
   .exact .inl (.inl ⟨r,p,q⟩)
  .exact .inl (.inr ho)
theorem oX_(h:Rel F g w S a){d:Nat}(hd:d<F.N)(hdv:d∉F.sv){v:Value}(hv:v.oneCell'=true):Ends F g w S a { S with tm:=upd S.tm d (.s v) } (a.put (some d) v) w :=
 zl_ h hd hdv (.s hv) rfl (fun b o he=>by cases he) (zzn_ _) trivial
theorem Rep.of_s{x:V}{v u:Value}(h:Rep g w x u)(hx:x=.s v):u=v:=by subst hx;cases h;rfl
theorem yM_{op:BinOp}{t:TypeId}{q p:Operand}{x y:Value}(h:∀b,x≠.nilIface/\x≠.agg b)(w:World):(eqGuard op t q p x y).run P w=.ok () w:=by
 unfold eqGuard
 by_cases ho:(match op with|.eql=>true|.neq=>true|_=>false)=true
 .cases op<;>simp at ho<;>cases x<;>simp at h<;>simp
 .cases op<;>simp at ho<;>simp
theorem ov_{op:BinOp}{x y r:Value}(h:binS op x y=some r)(t:TypeId)(q p:Operand)(w:World):r.oneCell'=true/\(do eqGuard op t q p x y;binOp op t x y:Sem Value).run P w=.ok r w:=by
 have hg:∀b,x≠.nilIface/\x≠.agg b:=by
  intro b
  cases x<;>simp[binS]at h<;>simp
 rw[Sem.run_bind,yM_ hg,Result.andThen_ok]
 cases x<;>cases y<;>first|(simp[binS]at h;done)|skip
 .rename_i k a k' b
  cases op<;>simp only[binS]at h
  all_goals
   repeat' split at h
   all_goals first|(cases h;done)|skip
   all_goals
    injection h with h
    subst h
    refine⟨rfl,?_⟩
    first
     |(subst_vars;simp[binOp,Op.intArith,Op.intDiv,Op.intBits,Op.intCmp,Op.shift, *];done)
     |(subst_vars;simp[binOp,Op.intArith,Op.intDiv,Op.intBits,Op.intCmp,Op.shift, *];rfl)
 .rename_i a b
  cases op<;>simp only[binS]at h<;>first|(cases h;done)|skip
  all_goals
   injection h with h
   subst h
   exact⟨rfl,by simp[binOp,Op.stringOp]⟩
theorem ow_{op:BinOp}{x y r:Value}(h:binB op x y=some r)(t:TypeId)(ht:P.underlying t=some .bool)(q p:Operand)(w:World):r.oneCell'=true/\(do eqGuard op t q p x y;binOp op t x y:Sem Value).run P w=.ok r w:=by
 have hg:∀b,x≠.nilIface/\x≠.agg b:=by
  intro b
  cases x<;>simp[binB]at h<;>simp
 rw[Sem.run_bind,yM_ hg,Result.andThen_ok]
 cases x<;>cases y<;>first|(simp[binB]at h;done)|skip
 rename_i a b
 cases op<;>simp only[binB]at h<;>first|(cases h;done)|skip
 all_goals
  injection h with h
  subst h
  refine⟨rfl,?_⟩
  simp only[binOp]
  simp[Op.equal,Op.maxDepth,run_equalIn_bool' _ _ t a b ht]
end
end
section
section
variable{P:Program}{F:Fr}{g:Gh}{w:World}{S:St}{a:Act}
theorem Rel.less(h:Rel F g w S a){tm1:Nat->V}(hless:∀t,Less (tm1 t) (S.tm t))(htv:∀t∈F.sv,tm1 t=S.tm t):Rel F g w { S with tm:=tm1 } a:=by
 have hat:∀l,({ S with tm:=tm1 }:St).at l=S.at l:=fun l=>by cases l<;>rfl
 have hrow:∀l,({ S with tm:=tm1 }:St).row l=S.row l:=fun l=>by simp only[St.row,hat]
 have hown:∀r p k,Own F g w { S with tm:=tm1 } a r p k->Own F g w S a r p k:=fun r p k ho=>zf_ hless h.notl ho
 refine⟨h.sz,h.dfr,?_,?_,?_,h.box,h.inj,?_,?_,?_,?_,?_,?_,h.Ilt,?_,?_,?_,?_⟩
 .intro r x u hh
  cases r with
  | t t =>
    obtain⟨rfl,rfl⟩:=hh
    exact(hless t).rep g w _ (h.rep (.t t) _ _ ⟨rfl,rfl⟩)
  |l l=>exact h.rep (.l l) x u ⟨(hat l) ▸ hh.1,hh.2⟩
 .exact fun l x hl=>h.lookv l x ((hat l) ▸ hl)
 .exact fun l d' e z xs u hl hu=>h.lentr l d' e z xs u ((hat l) ▸ hl) hu
 .intro r x u p b o hh hp
  cases r with
  | t t =>
    obtain⟨rfl,rfl⟩:=hh
    exact h.ptr (.t t) _ _ p b o ⟨rfl,rfl⟩ ((hless t).sub_of hp rfl (by simp))
  |l l=>exact h.ptr (.l l) x u p b o ⟨(hat l) ▸ hh.1,hh.2⟩ hp
 .exact fun r p k ho=>h.ownI r p k (hown r p k ho)
 .exact fun r p r' p' k h1 h2=>h.uniq r p r' p' k (hown r p k h1) (hown r' p' k h2)
 .intro t p x u hx hu
  have hl':Link F g w S a x u->Link F g w { S with tm:=tm1 } a x u:=by
   intro hl
   cases x<;>simp only[Link,hrow,St.locky,hat]at hl ⊢<;>exact hl
  by_cases hl:leaf x=true
  .rcases(hless t).sub p x hx hl with rfl|hx'
   .trivial
   .exact hl' (h.link t p x u hx' hu)
  .cases x<;>simp[leaf]at hl<;>trivial
 .exact fun l x hl=>h.novw l x ((hat l) ▸ hl)
 .exact fun t p d' e0 e z xs hx=>h.notl t p d' e0 e z xs ((hless t).sub_of hx rfl (by simp))
 .exact fun t ht=>(htv t ht).trans (h.tmv t ht)
 .exact fun t p x hx=>(hless t).ep h.ept hx
 .exact fun l x hl=>h.epl l x ((hat l) ▸ hl)
 .intro l d' e z xs v' k hl hv' hk r p m ⟨x,u,hh,ho⟩
  refine h.lentl l d' e z xs v' k ((hat l) ▸ hl) hv' hk r p m ?_
  cases r with
  | t t =>
    obtain⟨rfl,rfl⟩:=hh
    rcases ho with ⟨e2,z2,xs2,u2,q1,q2,q3,q4⟩|⟨rfl,d2,e2,z2,xs2,q,_⟩
    .exact⟨_,_,⟨rfl,rfl⟩,.inl ⟨e2,z2,xs2,u2,(hless t).sub_of q1 rfl (by simp),q2,q3,q4⟩⟩
    .have q':tm1 t=_:=q
     exact absurd ((hless t).sub_of (p:=[]) (by rw[q'];rfl) rfl (by simp)) (h.notl t [] d2 _ e2 z2 xs2)
  | l l2 =>
    refine⟨x,u,⟨(hat l2) ▸ hh.1,hh.2⟩,?_⟩
    rcases ho with ho|⟨h1,d2,e2,z2,xs2,h2,h4,h5⟩
    .exact .inl ho
    .exact .inr ⟨h1,d2,e2,z2,xs2,h2,(hless d2).no h4,h5⟩
theorem nJ_(h:Rel F g w S a){tm1:Nat->V}(hless:∀t,Less (tm1 t) (S.tm t)):Fw F g w S a g w { S with tm:=tm1 } a :=
 ⟨rfl,rfl,rfl,zzl_ _,fun _ _ _=>⟨rfl,rfl⟩,fun k ho=>.inl (by
  rcases ho with ⟨r,p,ho⟩|ho
  .exact .inl ⟨r,p,zf_ hless h.notl ho⟩
  .exact .inr ho)⟩
def Gh.frz(g:Gh)(k n:Nat):Gh:={ g with I:=fun b=>if b=k then n else g.I b }
theorem Rel.freeze(h:Rel F g w S a){k:Nat}(n:Nat)(hk:k<w.heap.size)(hI:g.I k=0)(ho:∀r p,¬Own F g w S a r p k)(hb:∀b,b<S.bx.length->g.φ b≠k):Rel F (g.frz k n) w S a:=by
 have hI':∀b o,o<g.I b->o<(g.frz k n).I b/\w.cell? ⟨b,o,none⟩=w.cell? ⟨b,o,none⟩:=by
  intro b o ho
  refine⟨?_,rfl⟩
  simp only[Gh.frz]
  split
  .next e=>subst e;omega
  .exact ho
 refine h.grow hI' (fun _ _=>rfl) (fun b hb'=>⟨rfl,?_⟩) (fun r p k' ho'=>⟨rfl,?_⟩) (fun l d e z xs v hl hv=>?_) (zzl_ _) (fun k' hk'=>?_)
 .simp only[Gh.frz,if_neg (hb b hb')]
  cases hcs:S.bx[b]? with
  |none=>have:=List.getElem?_eq_none_iff.1 hcs;omega
  |some cs=>obtain⟨_,_,_,_,q⟩:=h.box b cs hcs;exact q
 .have:k'≠k:=fun e=>ho r p (e ▸ ho')
  simp only[Gh.frz,if_neg this]
  exact(h.ownI r p k' ho').1
 .exact((h.lentr l d e z xs v hl hv).1).keep hI' (fun _ _ _=>rfl) (fun _ _ _ _=>rfl)
 .simp only[Gh.frz]at hk'
  split at hk'
  .next e=>subst e;exact hk
  .exact h.Ilt k' hk'
theorem yt_{w:World}{k j:Nat}{cur:Array Value}{e:TypeId}{m:Nat×Nat}(h:w.heap[k]?=some (.cells cur e m)):w.cell? ⟨k,j,none⟩=cur[j]?:=by simp[World.cell?,h]
theorem Rep.freeze{e z:Nat}{xs:List V}{v:Value}(h:Rep g w (.own true e z xs) v):(rb v=none/\Rep g w (.list z xs) v)\/(∃k n,rb v=some k/\(g.I k=0->Rep (g.frz k n) w (.list z xs) v)):=by
 cases h with
 | own vals h0 hc hm hh hs hz hi hcell hrep =>
   rename_i k cap cur
   refine .inr ⟨k,cap*z,by simp[rb];omega,fun hI=>?_⟩
   have hI':∀b o,o<g.I b->o<(g.frz k (cap*z)).I b/\w.cell? ⟨b,o,none⟩=w.cell? ⟨b,o,none⟩:=by
    intro b o ho
    refine⟨?_,rfl⟩
    simp only[Gh.frz]
    split
    .next e=>subst e;omega
    .exact ho
   have hfl:=zd_ hz
   refine .list vals hc hm (fun h=>by cases h) hz hi (fun j hj=>⟨k,0,rfl,?_,?_⟩) (fun j u hu=>(hrep j u hu).keep hI' (fun _ _ _=>rfl) (fun _ _ _ _=>rfl))
   .simp only[Gh.frz,if_pos,Nat.zero_add]
    have:=yyg_ z hc
    omega
   .rw[Nat.zero_add,yt_ hh]
    exact hcell j hj
 | own0 =>
   rename_i A
   refine .inl ⟨by cases A<;>simp[rb],?_⟩
   exact .list (fun _=>undef) (zzn_ _) (zzn_ _) (fun _=>rfl) (by simp) (by simp[flat]) (fun j hj=>by simp[flat]at hj) (fun j u hu=>by simp[flat]at hu)
end
end
section
section
variable{P:Program}{F:Fr}{g g1:Gh}{w w1:World}{S S1:St}{a a1:Act}
def QEnds(P:Program)(F:Fr)(g:Gh)(w:World)(S:St)(a:Act)(o:Oper)(d:Nat)(y:V)(tm1:Nat->V):Prop :=
 ∃v w',(execOp a.eval o).run P w=.ok (.value v) w'/\Ends F g w S a { S with tm:=upd tm1 d y } (a.put (some d) v) w'
theorem Ends.of{S':St}{a':Act}{w':World}(hf:Fw F g w S a g1 w1 S1 a1)(hφ:∀b,b<S.bx.length->g1.φ b=g.φ b)(hl:S.bx.length<=S1.bx.length)(h:Ends F g1 w1 S1 a1 S' a' w'):Ends F g w S a S' a' w':=by
 obtain⟨g',h1,h2,h3⟩:=h
 exact⟨g',h1,hf.trans h2,fun b hb=>(h3 b (by omega)).trans (hφ b hb)⟩
theorem q_s(h:Rel F g w S a){o:Oper}{d:Nat}(hd:d<F.N)(hdv:d∉F.sv){v:Value}(hv:v.oneCell'=true)(hr:(execOp a.eval o).run P w=.ok (.value v) w):QEnds P F g w S a o d (.s v) S.tm :=
 ⟨v,w,hr,oX_ h hd hdv hv⟩
theorem vv_{x:Operand}{i:Nat}(hx:opd F x=some (.v i)):∃t,x=.tmp t/\F.sv[i]?=some t:=by
 cases x with
 |const v=>simp only[opd]at hx;split at hx<;>cases hx
 | tmp t =>
   simp only[opd]at hx
   split at hx
   .next j hj=>cases hx;exact⟨t,rfl,uj_ hj⟩
   .cases hx
 |global _=>cases hx
 |func _=>cases hx
theorem xo_{x:Operand}{t:Nat}(hx:opd F x=some (.t t)):x=.tmp t/\t∉F.sv:=by
 cases x with
 |const v=>simp only[opd]at hx;split at hx<;>cases hx
 | tmp t' =>
   simp only[opd]at hx
   split at hx
   .cases hx
   .next hj=>cases hx;exact⟨rfl,st_ hj⟩
 |global _=>cases hx
 |func _=>cases hx
theorem qI_{x:Operand}{v:Value}(hx:opd F x=some (.c v)):x=.const v/\v.oneCell'=true:=by
 cases x with
 | const v' =>
   simp only[opd]at hx
   split at hx
   .next h=>cases hx;exact⟨rfl,h⟩
   .cases hx
 | tmp t' =>
   simp only[opd]at hx
   split at hx<;>cases hx
 |global _=>cases hx
 |func _=>cases hx
theorem us_{v:Value}(h:v.oneCell'=true):ofC v=.s v:=by cases v<;>simp[Value.oneCell']at h<;>rfl
theorem zz_{t:Nat}(u:Nat):Less (upd S.tm t .gone u) (S.tm u):=by
 by_cases he:u=t
 .subst he;rw[zm_];exact Less.gone _
 .rw[y9_ _ _ he];exact Less.refl _
theorem vd_{t:Nat}{x:V}(ht:t∉F.sv):∀u∈F.sv,upd S.tm t x u=S.tm u:=fun _ hu=>y9_ _ _ (fun e=>ht (e ▸ hu))
theorem tG_(h:Rel F g w S a){d t:Nat}(hd:d<F.N)(hdv:d∉F.sv){tm1:Nat->V}(hless:∀u,Less (tm1 u) (S.tm u))(htv:∀u∈F.sv,tm1 u=S.tm u)
 (hst:∀p e z xs,(tm1 t).sub p≠some (.own true e z xs)) (hno:S.tm t≠.no):Ends F g w S a { S with tm:=upd tm1 d (S.tm t) } (a.put (some d) (Act.tv a t)) w:=by
 have ho:∀p k,zD_ (S.tm t) (Act.tv a t) p k->Own F g w S a (.t t) p k:=fun p k q=>⟨_,_,⟨rfl,rfl⟩,.inl q⟩
 have hnl:=h.notl t
 refine⟨g,h.put hless htv hd hdv (h.rep (.t t) _ _ ⟨rfl,rfl⟩) hno (fun p b o hs=>h.ptr (.t t) _ _ p b o ⟨rfl,rfl⟩ hs) hnl (fun p x hs=>h.ept t p x hs) (fun p x u hs hu=>h.link t p x u hs hu) (fun p k q=>?_) (fun p p' k q q'=>(h.uniq _ _ _ _ _ (ho p k q) (ho p' k q')).2) (fun p k m q l d e z xs v' h1 h2 h3=>h.lentl l d e z xs v' k h1 h2 h3 (.t t) p m ⟨_,_,⟨rfl,rfl⟩,.inl q⟩),
  ⟨rfl,rfl,rfl,zzl_ _,fun _ _ _=>⟨rfl,rfl⟩,fun k hk=>.inl ?_⟩,fun _ _=>rfl⟩
 .obtain⟨q1,q2,q3⟩:=h.ownI _ _ _ (ho p k q)
  refine⟨q1,q2,q3,fun r p' hr ho'=>?_⟩
  obtain⟨rfl,rfl⟩:=h.uniq _ _ _ _ _ (zf_ hless h.notl ho') (ho p k q)
  obtain⟨x,v,⟨rfl,rfl⟩,ho'⟩:=ho'
  rcases ho' with ⟨e,z,xs,_,q,_⟩|⟨rfl,q,_⟩
  .exact hst _ e z xs q
  .obtain⟨d',e,z,xs,h1,_⟩:=z4_ q
   have h1':tm1 t=_:=h1
   exact absurd ((hless t).sub_of (p:=[]) (by rw[h1'];rfl) rfl (by simp)) (h.notl t [] d' _ e z xs)
 .rcases hk with ⟨r,p,hk⟩|hk
  .rcases xm_ h hless hd hdv hno hnl hk with ⟨_,q⟩|q
   .exact .inl ⟨_,_,ho _ _ q⟩
   .exact .inl ⟨r,p,q⟩
  .exact .inr hk
theorem Rep.leaf_one{x:V}{v:Value}(h:Rep g w x v)(h1:v.oneCell'=true):leaf x=true:=by
 cases h<;>first|rfl|(simp[Value.oneCell']at h1)
theorem zV_{x y:V}{i:Nat}{p:List Nat}(h:leaf x=true):x.sub (i::p)≠some y:=by
 cases x<;>simp[leaf]at h<;>simp[V.sub]
theorem uX_{x:V}{v:Value}(hr:Rep g w x v):∀p e z xs,(spent x).sub p≠some (.own true e z xs):=by
 intro p e z xs hs
 cases x with
 | agg cs =>
   cases p with
   |nil=>simp[spent,V.sub]at hs
   | cons i p =>
     simp only[spent,V.sub,zzs_]at hs
     cases hj:cs[i]? with
     |none=>rw[hj]at hs;cases hs
     | some u =>
       rw[hj]at hs
       simp only[zzz_,zzt_]at hs
       rcases ve_ (x:=u) with q|q
       .rw[q]at hs;cases p<;>simp[V.sub]at hs
       .cases p with
        |nil=>simp[V.sub]at hs;exact rm_ hs
        | cons j p =>
          cases hr with
          | agg hl h1 h =>
            rename_i vs
            have hi:i<vs.size:=by rw[<-hl];exact(zzc_.1 hj).1
            have hu:=(h i u vs[i] hj (by simp[hi])).leaf_one (h1 _ (by simp))
            rw[q]at hs
            exact zV_ hu hs
 |tup vs=>cases p<;>simp[spent,V.sub]at hs
 |own m _ _ _=>cases m<;>cases p<;>simp[spent,spentL,V.sub]at hs
 |_=>cases p<;>simp[spent,spentL,V.sub]at hs
theorem w7_(h:Rel F g w S a){t:Nat}(ht:t∉F.sv){e z:Nat}{xs:List V}(hx:S.tm t=.own true e z xs){x:V}(hxl:∀u,Less (upd S.tm t x u) (S.tm u))(hxo:∀p e z xs,x.sub p≠some (.own true e z xs)) :
 ∃g',Rel F g' w { S with tm:=upd S.tm t x } a/\Fw F g w S a g' w { S with tm:=upd S.tm t x } a/\g'.φ=g.φ/\Rep g' w (.list z xs) (Act.tv a t):=by
 have hr:=h.rep (.t t) _ _ ⟨rfl,rfl⟩
 rw[hx]at hr
 have h1:=h.less hxl (vd_ ht)
 rcases hr.freeze with ⟨_,q⟩|⟨k,n,hk,q⟩
 .exact⟨g,h1,nJ_ h hxl,rfl,q⟩
 .have ho:Own F g w S a (.t t) [] k:=⟨_,_,⟨rfl,rfl⟩,.inl ⟨e,z,xs,_,by rw[hx];rfl,rfl,hk⟩⟩
  obtain⟨o1,o2,o3⟩:=h.ownI _ _ _ ho
  have hn:∀r p,¬Own F g w { S with tm:=upd S.tm t x } a r p k:=by
   intro r p ho'
   obtain⟨rfl,rfl⟩:=h.uniq _ _ _ _ _ (zf_ hxl h.notl ho') ho
   obtain⟨y,v,⟨rfl,rfl⟩,ho'⟩:=ho'
   rcases ho' with ⟨e',z',xs',_,q1,_⟩|⟨_,q1,_⟩
   .simp only[zm_]at q1;exact hxo _ _ _ _ q1
   .obtain⟨d',e',z',xs',q2,_⟩:=z4_ q1
    have q2':upd S.tm t x t=_:=q2
    exact absurd ((hxl t).sub_of (p:=[]) (by rw[q2'];rfl) rfl (by simp)) (h.notl t [] d' _ e' z' xs')
  refine⟨g.frz k n,h1.freeze n o2 o1 hn o3,?_,rfl,q o1⟩
  refine⟨rfl,rfl,rfl,zzl_ _,fun k' _ hk'=>⟨rfl,?_⟩,fun k' hk'=>.inl ?_⟩
  .have:k'≠k:=fun e=>hk' (.inl ⟨_,_,e ▸ ho⟩)
   simp only[Gh.frz,if_neg this]
  .rcases hk' with ⟨r,p,q⟩|q
   .exact .inl ⟨r,p,zf_ hxl h.notl q⟩
   .exact .inr q
theorem wt_(h:Rel F g w S a){d:Nat}(hd:d<F.N)(hdv:d∉F.sv){y:V}{v:Value}(hy:Rep g w y v)(hno:y≠.no)(hf:∀p e z xs,y.sub p≠some (.own true e z xs))
 (hptr:∀p b o,y.sub p=some (.ptr b o)->b<S.bx.length) (hl:∀p d e0 e z xs,y.sub p≠some (.lent d e0 e z xs)) (hep:∀p x,y.sub p=some x->epOf x<=S.ep)
 (hlink:∀p x u,y.sub p=some x->vsub p v=some u->Link F g w S a x u):Ends F g w S a { S with tm:=upd S.tm d y } (a.put (some d) v) w:=by
 have hn:∀p k,¬zD_ y v p k:=fun p k ⟨e,z,xs,_,q,_⟩=>hf p e z xs q
 refine⟨g,h.put (fun t=>Less.refl _) (fun _ _=>rfl) hd hdv hy hno hptr hl hep hlink (fun p k q=>absurd q (hn p k)) (fun p p' k q=>absurd q (hn p k)) (fun p k m ⟨e,z,xs,u,q1,q2,q3,_⟩=>absurd ⟨e,z,xs,u,q1,q2,q3⟩ (hn p k)),⟨rfl,rfl,rfl,zzl_ _,fun _ _ _=>⟨rfl,rfl⟩,fun k ho=>.inl ?_⟩,fun _ _=>rfl⟩
 rcases ho with ⟨r,p,ho⟩|ho
 .rcases xm_ h (fun t=>Less.refl _) hd hdv hno hl ho with ⟨_,q⟩|q
  .exact absurd q (hn _ _)
  .exact .inl ⟨r,p,q⟩
 .exact .inr ho
theorem xn_{x y:V}{p:List Nat}(h:y7_ x=true)(hs:x.sub p=some y):(∀e z xs,y≠.own true e z xs)/\(∀d e0 e z xs,y≠.lent d e0 e z xs):=by
 cases p with
 | nil =>
   simp[V.sub]at hs
   subst hs
   exact⟨fun e z xs he=>by subst he;simp[y7_]at h,fun d e0 e z xs he=>by subst he;simp[y7_]at h⟩
 | cons i p =>
   cases x<;>simp[V.sub]at hs<;>simp[y7_]at h
   rename_i cs
   cases hj:cs[i]? with
   |none=>rw[hj]at hs;cases hs
   | some u =>
     rw[hj]at hs
     simp only[zzt_]at hs
     have hu:=h u (zzd_ hj)
     cases p with
     | nil =>
       simp[V.sub]at hs
       subst hs
       exact⟨fun e z xs he=>by subst he;simp[immC]at hu,fun d e0 e z xs he=>by subst he;simp[immC]at hu⟩
     |cons j p=>cases u<;>simp[immC]at hu<;>simp[V.sub]at hs
theorem oo_(h:Rel F g w S a){d:Nat}(hd:d<F.N)(hdv:d∉F.sv){l:Loc}{x:V}{v:Value}(hx:S.at l=some x)(hv:z8_ F g w a l=some v)(hf:y7_ x=true)(hk:y1_ x=true)(he0:∀p y,x.sub p=some y->epOf y=0):Ends F g w S a { S with tm:=upd S.tm d x } (a.put (some d) v) w:=by
 refine wt_ h hd hdv (h.rep (.l l) x v ⟨hx,hv⟩) (fun e=>by subst e;simp[y1_]at hk) (fun p e z xs hs=>(xn_ hf hs).1 e z xs rfl) (fun p b o hs=>h.ptr (.l l) x v p b o ⟨hx,hv⟩ hs) (fun p d e0 e z xs hs=>(xn_ hf hs).2 d e0 e z xs rfl) (fun p y hs=>by rw[he0 p y hs];exact zzn_ _) (fun p y u hs hu=>?_)
 have:=h.novw l x hx p
 cases y<;>first|trivial|skip
 .exact absurd hs (this.1 _ _)
 .exact absurd hs (this.2.1 _ _ _ _)
 .exact absurd hs (this.2.2.1 _ _ _ _)
theorem sd_(h:Rel F g w S a){l:Loc}{x:V}(hx:S.at l=some x)(hf:y7_ x=true):∀p y,x.sub p=some y->epOf y=0:=by
 intro p y hs
 have:=h.novw l x hx p
 cases y<;>first|rfl|skip
 .exact absurd rfl ((xn_ hf hs).2 _ _ _ _ _)
 .exact absurd hs (this.1 _ _)
 .exact absurd hs (this.2.1 _ _ _ _)
 .exact absurd hs (this.2.2.1 _ _ _ _)
theorem xg_(tm:Nat->V)(t:Nat):(∃e z xs,tm t=.own true e z xs/\zE_ tm (.t t)=upd tm t .gone)\/(∃cs,tm t=.agg cs/\zE_ tm (.t t)=upd tm t (spent (.agg cs))) \/
 (zE_ tm (.t t)=tm/\(∀e z xs,tm t≠.own true e z xs)/\(∀cs,tm t=.agg cs->cs.any y2_=false)):=by
 cases hx:tm t with
 | own m e z xs =>
   cases m
   .exact .inr (.inr ⟨by simp[zE_,hx],by simp,by simp⟩)
   .exact .inl ⟨e,z,xs,rfl,by simp[zE_,hx]⟩
 | agg cs =>
   by_cases h:cs.any y2_=true
   .exact .inr (.inl ⟨cs,rfl,by simp only[zE_,hx];rw[if_pos h];rfl⟩)
   .exact .inr (.inr ⟨by simp only[zE_,hx];rw[if_neg h],by simp,fun cs' e=>by injection e with e;subst e;simpa using h⟩)
 |_=>exact .inr (.inr ⟨by simp[zE_,hx],by simp,by simp⟩)
theorem yY_(tm:Nat->V)(x:Opd):∀u,Less (zE_ tm x u) (tm u):=by
 intro u
 cases x with
 | t t =>
   rcases xg_ tm t with ⟨e,z,xs,_,h⟩|⟨cs,hv,h⟩|⟨h,_⟩
   .rw[h]
    by_cases he:u=t
    .subst he;rw[zm_];exact Less.gone _
    .rw[y9_ _ _ he];exact Less.refl _
   .rw[h]
    by_cases he:u=t
    .subst he;rw[zm_,hv];exact Less.spent (.agg cs)
    .rw[y9_ _ _ he];exact Less.refl _
   .rw[h];exact Less.refl _
 |_=>exact Less.refl _
theorem vU_(tm:Nat->V){x:Opd}{u:Nat}(hx:x≠.t u):zE_ tm x u=tm u:=by
 cases x with
 | t t =>
   have hne:u≠t:=fun e=>hx (by rw[e])
   rcases xg_ tm t with ⟨e,z,xs,_,h⟩|⟨cs,hv,h⟩|⟨h,_⟩
   .rw[h,y9_ _ _ hne]
   .rw[h,y9_ _ _ hne]
   .rw[h]
 |_=>rfl
theorem vT_(tm:Nat->V)(x:Opd){sv:List Nat}(hx:∀t,x=.t t->t∉sv):∀u∈sv,zE_ tm x u=tm u:=fun u hu=>vU_ tm (fun e=>hx u e hu)
theorem vf_{tm:Nat->V}{t:Nat}{v:Value}(hr:Rep g w (tm t) v)(hnt:∀vs,tm t≠.tup vs):∀p e z xs,(zE_ tm (.t t) t).sub p≠some (.own true e z xs):=by
 intro p e z xs hs
 rcases xg_ tm t with ⟨e',z',xs',_,h⟩|⟨cs,hv,h⟩|⟨h,hn1,hn2⟩
 .rw[h,zm_]at hs;cases p<;>simp[V.sub]at hs
 .rw[h,zm_]at hs
  rw[hv]at hr
  exact uX_ hr p e z xs hs
 .rw[h]at hs
  cases hx:tm t<;>rw[hx]at hs<;>first|(cases p<;>simp[V.sub]at hs;done)|skip
  .rename_i m e' z' xs'
   cases p with
   |nil=>simp[V.sub]at hs;exact hn1 _ _ _ (hx.trans (by rw[hs.1]))
   |cons i p=>simp[V.sub]at hs
  .rename_i cs
   rw[hx]at hr
   cases p with
   |nil=>simp[V.sub]at hs
   | cons i p =>
     simp only[V.sub]at hs
     cases hj:cs[i]? with
     |none=>rw[hj]at hs;cases hs
     | some u =>
       rw[hj]at hs
       simp only[zzt_]at hs
       cases p with
       | nil =>
         simp[V.sub]at hs
         subst hs
         have:=hn2 cs hx
         rw[List.any_eq_true.2 ⟨_,zzd_ hj,rfl⟩]at this
         cases this
       | cons j p =>
         cases hr with
         | agg hl h1 h =>
           rename_i vs
           have hi:i<vs.size:=by rw[<-hl];exact(zzc_.1 hj).1
           exact zV_ ((h i u vs[i] hj (by simp[hi])).leaf_one (h1 _ (by simp))) hs
  .exact hnt _ hx
theorem sE_{o:Oper}{x:Operand}(ho:o.op=.move x)(w:World):(execOp a.eval o).run P w=.ok (.value (a.eval x)) w:=by simp[execOp,ho]
theorem q_mv(h:Rel F g w S a){o:Oper}{x:Operand}{q:Opd}{d:Nat}(ho:o.op=.move x)(hx:opd F x=some q)(hd:d<F.N)(hdv:d∉F.sv){y:V}{tm1:Nat->V}(hq:mvV S q=some (y,tm1)):QEnds P F g w S a o d y tm1:=by
 refine⟨a.eval x,w,sE_ ho w,?_⟩
 cases q with
 | c v =>
   obtain⟨rfl,hv⟩:=qI_ hx
   simp only[mvV,us_ hv]at hq
   cases hq
   exact oX_ h hd hdv hv
 | v i =>
   obtain⟨t,rfl,hi⟩:=vv_ hx
   have hval:z8_ F g w a (.var i)=some (a.eval (.tmp t)):=by simp[z8_,hi,Act.tv,Act.eval]
   simp only[mvV]at hq
   split at hq
   .next m e z xs hv =>
    cases hq
    cases m with
    | false =>
      have hrep:=h.rep (.l (.var i)) _ _ ⟨hv,hval⟩
      have hrl:Rep g w (.list z xs) (a.eval (.tmp t)):=by
       cases hrep with|ownf h _=>exact h
      simp only[y6_]
      split
      .exact zl_ h hd hdv hrep rfl (fun b o he=>by cases he) (zzn_ _) trivial
      .exact zl_ h hd hdv hrl rfl (fun b o he=>by cases he) (zzn_ _) trivial
    |true=>exact zl_ h hd hdv .view rfl (fun b o he=>by cases he) (zzl_ _) (fun _=>⟨⟨_,hv,rfl⟩,fun _ _ _=>hval⟩)
   .next d' ep e z xs hv =>
    cases hq
    exact zl_ h hd hdv .view rfl (fun b o he=>by cases he) (zzl_ _) (fun _=>⟨⟨_,hv,rfl⟩,fun _ _ _=>hval⟩)
   .next x hn1 hn2 hv =>
    split at hq
    .next hf =>
     cases hq
     simp only[zzg_]at hf
     exact oo_ h hd hdv (l:=.var i) hv hval hf.1 hf.2 (sd_ h (l:=.var i) hv hf.1)
    .cases hq
   .cases hq
 | t t =>
   obtain⟨rfl,ht⟩:=xo_ hx
   have hev:a.eval (.tmp t)=Act.tv a t:=rfl
   rw[hev]
   simp only[mvV]at hq
   split at hq
   .next e z xs hv =>
    cases hq
    obtain⟨g',h1,h2,h3,h4⟩:=w7_ h ht hv (x:=.gone) zz_ (fun p e z xs hs=>by cases p<;>simp[V.sub]at hs)
    refine Ends.of h2 (fun b _=>by rw[h3]) (zzl_ _) (zl_ h1 hd hdv h4 rfl (fun b o he=>by cases he) (zzn_ _) trivial)
   .next vs hv =>
    cases hq
    rw[<-hv]
    refine tG_ h hd hdv zz_ (vd_ ht) (fun p e z xs hs=>?_) (by rw[hv];simp)
    rw[zm_]at hs
    cases p<;>simp[V.sub]at hs
   .next cs hv =>
    cases hq
    rw[<-hv]
    refine tG_ h hd hdv (yY_ _ _) (vT_ _ _ (fun t' e=>by cases e;exact ht)) (vf_ (h.rep (.t t) _ _ ⟨rfl,rfl⟩) (fun vs=>by rw[hv];simp)) (by rw[hv];simp)
   .next hn1 hn2 hn3 =>
    split at hq
    .next hk =>
     cases hq
     have hr:=h.rep (.t t) _ _ ⟨rfl,rfl⟩
     have hp:wP_ (S.tm t)=true:=by
      cases hx:S.tm t<;>rw[hx]at hk<;>first|rfl|(simp[y1_]at hk;done)|skip
      .rename_i m e z xs
       cases m
       .rfl
       .exact absurd hx (hn1 _ _ _)
      .exact absurd (by rw[hx];rfl) (h.notl t [] _ _ _ _ _)
      .exact absurd hx (hn3 _)
      .exact absurd hx (hn2 _)
     exact zl_ h hd hdv hr hp (fun b o he=>h.ptr (.t t) _ _ [] b o ⟨rfl,rfl⟩ (by rw[he];rfl)) (h.ept t [] _ rfl) (h.link t [] _ _ rfl rfl)
    .cases hq
end
end
section
section
variable{P:Program}{F:Fr}{g:Gh}{w:World}{S:St}{a:Act}
theorem yA_(h:Rel F g w S a){x:Operand}{q:Opd}{v:Value}(hx:opd F x=some q)(hq:z7_ S q=.s v):a.eval x=v/\v.oneCell'=true:=by
 have hr:=vw_ h hx
 rw[hq]at hr
 cases hr with
 |s h=>exact⟨rfl,h⟩
theorem nq_(h:Rel F g w S a){o:Oper}{op:BinOp}{t t':TypeId}{x y:Operand}{p q:Opd}{d:Nat}(ho:o.op=.binOp op t x y t')(hx:opd F x=some p)(hy:opd F y=some q)(hd:d<F.N)(hdv:d∉F.sv)
 {u v r:Value} (hp:z7_ S p=.s u) (hq:z7_ S q=.s v) (hr:binS op u v=some r\/(P.underlying t=some .bool/\binB op u v=some r)):QEnds P F g w S a o d (.s r) S.tm:=by
 obtain⟨e1,_⟩:=yA_ h hx hp
 obtain⟨e2,_⟩:=yA_ h hy hq
 have hrun:r.oneCell'=true/\(do eqGuard op t x y u v;binOp op t u v:Sem Value).run P w=.ok r w:=by
  rcases hr with hr|⟨ht,hr⟩
  .exact ov_ hr t x y w
  .exact ow_ hr t ht x y w
 refine q_s h hd hdv hrun.1 ?_
 simp only[execOp,ho,e1,e2]
 rw[Sem.run_bind,hrun.2]
 simp
theorem q_un(h:Rel F g w S a){o:Oper}{op:UnOp}{t:TypeId}{x:Operand}{p:Opd}{d:Nat}(ho:o.op=.unOp op t x)(hx:opd F x=some p)(hd:d<F.N)(hdv:d∉F.sv)
 {u r:Value} (hp:z7_ S p=.s u) (hr:unS op u=some r):QEnds P F g w S a o d (.s r) S.tm:=by
 obtain⟨e1,_⟩:=yA_ h hx hp
 have hrun:r.oneCell'=true/\(Op.unary op u).run P w=.ok r w:=by
  unfold unS at hr
  split at hr
  .split at hr
   .cases hr;exact⟨rfl,by simp[Op.unary]⟩
   .cases hr
  .split at hr
   .cases hr;exact⟨rfl,by simp[Op.unary,Op.intArith]⟩
   .cases hr;exact⟨rfl,by simp only[Op.unary,Op.intBits];rfl⟩
   .cases hr
  .cases hr
 refine q_s h hd hdv hrun.1 ?_
 simp only[execOp,ho,e1]
 rw[Sem.run_bind,hrun.2]
 simp
theorem mj_(h:Rel F g w S a){o:Oper}{s t:TypeId}{k0 k1 k:IntKind}{n:Int}{x:Operand}{p:Opd}{d:Nat}(ho:o.op=.convert s t x)(hs:P.underlying s=some (.int k0))(ht:P.underlying t=some (.int k))(hx:opd F x=some p)(hd:d<F.N)(hdv:d∉F.sv)
 (hp:z7_ S p=.s (.int k1 n)):QEnds P F g w S a o d (.s (.int k (k.wrap n))) S.tm:=by
 obtain⟨e1,_⟩:=yA_ h hx hp
 refine q_s h hd hdv rfl ?_
 simp[execOp,ho,e1,convert,run_underlying hs,run_underlying ht,Conv.intToInt]
theorem me_(h:Rel F g w S a){o:Oper}{c x y:Operand}{r p q:Opd}{d:Nat}(ho:o.op=.pick c x y)(hc:opd F c=some r)(hx:opd F x=some p)(hy:opd F y=some q)(hd:d<F.N)(hdv:d∉F.sv)
 {b:Bool} {v:Value} (hr:z7_ S r=.s (.bool b)) (hv:(if b then z7_ S p else z7_ S q)=.s v):QEnds P F g w S a o d (.s v) S.tm:=by
 obtain⟨e1,_⟩:=yA_ h hc hr
 cases b
 .simp at hv
  obtain⟨e2,h2⟩:=yA_ h hy hv
  refine q_s h hd hdv h2 ?_
  simp[execOp,ho,e1,asBool,e2]
 .simp at hv
  obtain⟨e2,h2⟩:=yA_ h hx hv
  refine q_s h hd hdv h2 ?_
  simp[execOp,ho,e1,asBool,e2]
theorem mf_(h:Rel F g w S a){o:Oper}{mx:Bool}{x y:Operand}{p q:Opd}{ts:Array TypeId}{d:Nat}(ho:o.op=.call { callee:=.builtin (if mx then .max else .min),args:=#[x,y],argTypes:=ts })(hx:opd F x=some p)(hy:opd F y=some q)(hd:d<F.N)(hdv:d∉F.sv)
 {k k':IntKind} {m n:Int} (hp:z7_ S p=.s (.int k m)) (hq:z7_ S q=.s (.int k' n)):QEnds P F g w S a o d (.s (.int k (if mx then (if n>m then n else m) else (if n<m then n else m)))) S.tm:=by
 obtain⟨e1,_⟩:=yA_ h hx hp
 obtain⟨e2,_⟩:=yA_ h hy hq
 refine q_s h hd hdv rfl ?_
 cases mx<;>simp[execOp,ho,resolve,invoke,builtin,e1,e2,Builtin.min_,Builtin.max_,Builtin.min2,Builtin.max2]
structure OpdOk(F:Fr)(g:Gh)(w:World)(S:St)(a:Act)(y:V)(v:Value):Prop where
 rep:Rep g w y v
 link:Link F g w S a y v
 ep:epOf y<=S.ep
 ptr:∀b o,y=.ptr b o->b<S.bx.length
theorem y5_(h:Rel F g w S a){x:Operand}{q:Opd}(hx:opd F x=some q):OpdOk F g w S a (z7_ S q) (a.eval x):=by
 refine⟨vw_ h hx,?_,?_,?_⟩
 all_goals
  cases q with
  | c v =>
    obtain⟨rfl,hv⟩:=qI_ hx
    simp only[z7_,us_ hv]
    first|trivial|exact zzn_ _|(intro b o e;cases e)
  | t t =>
    obtain⟨rfl,_⟩:=xo_ hx
    first|exact h.link t [] _ _ rfl rfl|exact h.ept t [] _ rfl|exact fun b o e=>h.ptr (.t t) _ _ [] b o ⟨rfl,rfl⟩ (by simp only[z7_]at e;rw[e];rfl)
  | v i =>
    obtain⟨t,rfl,hi⟩:=vv_ hx
    have hval:z8_ F g w a (.var i)=some (a.eval (.tmp t)):=by simp[z8_,hi,Act.tv,Act.eval]
    simp only[z7_]
    cases hv:S.vs[i]? with
    |none=>first|trivial|exact zzn_ _|(intro b o e;cases e)
    | some y =>
      simp only
      split
      .next hf =>
       have hn:=h.novw (.var i) y hv []
       have he:=sd_ h (l:=.var i) hv hf [] y rfl
       first
        |exact fun b o e=>h.ptr (.l (.var i)) y _ [] b o ⟨hv,hval⟩ (by rw[e];rfl)
        |(rw[he];exact zzn_ _)
        |(cases y<;>first|trivial|exact absurd rfl (hn.1 _ _)|exact absurd rfl (hn.2.1 _ _ _ _)|exact absurd rfl (hn.2.2.1 _ _ _ _))
      .first|trivial|exact zzn_ _|(intro b o e;cases e)
theorem wL_(h:Rel F g w S a){x y:V}{v:Value}{off:Nat}(hx:OpdOk F g w S a x v){d:Nat}(hd:d<F.N)(hdv:d∉F.sv)(hy:yJ_ S off x=some y) :
 ∃ad:Addr,v=.pointer (some ad)/\Ends F g w S a { S with tm:=upd S.tm d y } (a.put (some d) (.pointer (some (ad.add off)))) w:=by
 obtain⟨hr,hl,he,hp⟩:=hx
 cases x<;>simp[yJ_]at hy
 .rename_i b o
  obtain⟨hlt,hy⟩:=hy
  subst hy
  have hlt':o<1000000000:=by omega
  generalize hgv:V.ptr b o=pv at hr
  cases hr<;>try (cases hgv;done)
  cases hgv
  rw[vn_ hlt']
  refine⟨_,rfl,zl_ h hd hdv ?_ rfl (fun b' o' e=>?_) (zzn_ _) trivial⟩
  .rw[zJ_,show (Value.pointer (some ⟨g.φ b,o+off,none⟩))=ptrV (g.φ b) (o+off) from (vn_ hlt).symm];exact .ptr
  .injection e with e1 e2;subst e1;exact hp b o rfl
 .rename_i cs
  obtain⟨ho,rfl⟩:=hy
  cases hr with
  | ip vals hi hcell hrep =>
    refine⟨_,rfl,zl_ h hd hdv ?_ rfl (fun b' o' e=>by cases e) (zzn_ _) trivial⟩
    rw[zJ_]
    refine .ip (fun j=>vals (off+j)) (fun u hu=>hi u (yyl_ hu)) (fun j hj=>?_) (fun j u hu=>?_)
    .have:=hcell (off+j) (by simp at hj;omega)
     rw[Nat.add_assoc]
     exact this
    .rw[zzA_]at hu
     exact hrep _ u hu
 .rename_i l e i q
  obtain⟨⟨hee,hrw⟩,rfl⟩:=hy
  obtain⟨⟨z,xs⟩,hrow⟩:=Option.isSome_iff_exists.1 hrw
  obtain⟨h1,h2⟩:=hl hee
  obtain⟨b,N,cap,x,h3,h4,h5⟩:=h2 z xs hrow
  subst h5
  refine⟨_,rfl,zl_ h hd hdv .vp rfl (fun b' o' e=>by cases e) he (fun _=>⟨h1,fun z' xs' hr'=>?_⟩)⟩
  rw[hrow]at hr'
  cases hr'
  refine⟨b,N,cap,x,h3,h4,?_⟩
  rw[zJ_,Nat.add_assoc]
theorem np_(h:Rel F g w S a){o:Oper}{x:Operand}{p:Opd}{d:Nat}(ho:o.op=.nilCheck x)(hx:opd F x=some p)(hd:d<F.N)(hdv:d∉F.sv){y:V}(hy:yJ_ S 0 (z7_ S p)=some y):QEnds P F g w S a o d y S.tm:=by
 obtain⟨ad,h1,h2⟩:=wL_ h (y5_ h hx) hd hdv hy
 have:ad.add 0=ad:=by simp[Addr.add]
 rw[this]at h2
 exact⟨_,w,by simp[execOp,ho,h1],h2⟩
theorem l9_(h:Rel F g w S a){o:Oper}{f:Nat}{first caps:Array Operand}{x:Operand}{p:Opd}{d b:Nat}(ho:o.op=.makeFunc (.func f) first caps)(hf:first.toList=[])(hc:caps.toList=[x])(hx:opd F x=some p)(hd:d<F.N)(hdv:d∉F.sv)
 (hlk:z7_ S p=.ptr b 0):QEnds P F g w S a o d (.ptr b (1000000000+f)) S.tm:=by
 have hok:=y5_ h hx
 have hr:=hok.rep
 rw[hlk]at hr
 have hv:=hr.ptrv (by omega)
 have hf':first=#[]:=by apply Array.toList_inj.1;exact hf
 have hc':caps=#[x]:=by apply Array.toList_inj.1;exact hc
 subst hf'
 subst hc'
 refine⟨.func (.func f) #[] #[.pointer (some ⟨g.φ b,0,none⟩)],w,?_,zl_ h hd hdv ?_ rfl (fun b' o' e=>?_) (zzn_ _) trivial⟩
 .simp[execOp,ho,hv,Instr.makeFunc]
 .rw[<-qv_];exact .ptr
 .injection e with e1 e2;subst e1;exact hok.ptr b 0 hlk
theorem q_fa(h:Rel F g w S a){o:Oper}{x:Operand}{p:Opd}{s:TypeId}{f:Nat}{fs:Array Field}{fl:Field}{n:Nat}{d:Nat}(ho:o.op=.fieldAddr s x f)(hs:P.underlying s=some (.struct fs))(hf:fs[f]?=some fl)(hn:sizeT P fl.type=some n)(hn0:n≠0)
 (hx:opd F x=some p) (hd:d<F.N) (hdv:d∉F.sv) {y:V} (hy:yJ_ S fl.offset (z7_ S p)=some y):QEnds P F g w S a o d y S.tm:=by
 obtain⟨ad,h1,h2⟩:=wL_ h (y5_ h hx) hd hdv hy
 refine⟨_,w,?_,h2⟩
 unfold sizeT at hn
 obtain⟨i,hi,hin⟩:=zzb_.1 hn
 simp[execOp,ho,h1,Instr.fieldAt,run_underlying hs,hf,Instr.sureAddr,fieldPlace,sizeOf,typeInfo,hi,hin,hn0]
theorem le_(h:Rel F g w S a){o:Oper}{x ix:Operand}{p q:Opd}{t e:TypeId}{len z:Nat}{d:Nat}(ho:o.op=.indexAddr t x ix)(ht:P.underlying t=some (.array len e))(hz:sizeT P e=some z)
 (hx:opd F x=some p) (hi:opd F ix=some q) (hd:d<F.N) (hdv:d∉F.sv) {y:V} (hy:iaaV S z len p q=some y):QEnds P F g w S a o d y S.tm:=by
 unfold iaaV at hy
 split at hy
 .cases hy
 .next n hn =>
  split at hy
  .next hr =>
   have hq:∃k,z7_ S q=.s (.int k n):=by
    revert hn
    unfold yI_
    split
    .next k m hk=>intro e;cases e;exact⟨k,hk⟩
    .intro e;cases e
   obtain⟨k,hk⟩:=hq
   obtain⟨e1,_⟩:=yA_ h hi hk
   obtain⟨ad,h1,h2⟩:=wL_ h (y5_ h hx) hd hdv hy
   refine⟨_,w,?_,h2⟩
   unfold sizeT at hz
   obtain⟨i,hi',hin⟩:=zzb_.1 hz
   simp[execOp,ho,h1,e1,Instr.indexAt,asIntOf,run_underlying ht,Instr.sureAddr,sizeOf,typeInfo,hi',hin,hr]
  .cases hy
end
end
section
def Reads(g:Gh)(w:World)(z:Nat)(xs:List V)(v:Value):Prop :=
 ∃ (A : Option Addr) (c : Nat) (vals : Nat → Value), v = .slice A xs.length c ∧ xs.length ≤ c ∧ c ≤ maxLen ∧ (A = none → c = 0) ∧ (∀ x ∈ xs, (cellsOf x).length = z) ∧ (∀ u ∈ flat xs, immC u = true) ∧
   (∀j,j<(flat xs).length->∃b q,A=some ⟨b,q,none⟩/\w.cell? ⟨b,q+j,none⟩=some (vals j))/\(∀(j:Nat) (u:V),(flat xs)[j]?=some u->Rep g w u (vals j))
section
variable{P:Program}{F:Fr}{g:Gh}{w:World}{S:St}{a:Act}
theorem Rep.reads_list{z:Nat}{xs:List V}{v:Value}(h:Rep g w (.list z xs) v):Reads g w z xs v:=by
 cases h with
 |list vals hc hm hA hz hi hcell hrep=>exact⟨_,_,vals,rfl,hc,hm,hA,hz,hi,fun j hj=>by obtain⟨b,q,h1,_,h2⟩:=hcell j hj;exact⟨b,q,h1,h2⟩,hrep⟩
theorem Rep.reads_own{e z:Nat}{xs:List V}{v:Value}{m:Bool}(h:Rep g w (.own m e z xs) v):Reads g w z xs v:=by
 cases h with
 |own vals h0 hc hm hh hs hz hi hcell hrep=>exact⟨_,_,vals,rfl,hc,hm,(fun h=>by cases h),hz,hi,fun j hj=>⟨_,0,rfl,by rw[Nat.zero_add,yt_ hh];exact hcell j hj⟩,hrep⟩
 |own0=>exact⟨_,0,fun _=>undef,rfl,zzl_ _,zzn_ _,(fun _=>rfl),by simp,by simp[flat],fun j hj=>by simp[flat]at hj,fun j u hu=>by simp[flat]at hu⟩
 |ownf h _=>exact h.reads_list
theorem xD_(h:Rel F g w S a){l:Loc}{z:Nat}{xs:List V}(hr:S.row l=some (z,xs)):∃v,z8_ F g w a l=some v/\Reads g w z xs v:=by
 unfold St.row at hr
 split at hr
 .next m e z' xs' hl =>
  cases hr
  obtain⟨v,hv,_⟩:=h.lookv l _ hl
  exact⟨v,hv,(h.rep (.l l) _ _ ⟨hl,hv⟩).reads_own⟩
 .next d e0 e z' xs' hl =>
  split at hr
  .next he =>
   cases hr
   subst he
   obtain⟨v,hv,_⟩:=h.lookv l _ hl
   exact⟨v,hv,((h.lentr l d e z xs v hl hv).1).reads_own⟩
  .cases hr
 .cases hr
theorem Reads.sub{z:Nat}{xs:List V}{vl v:Value}{lo n:Nat}(h:Reads g w z xs vl)(hs:rf_ z lo n vl v)(hn:lo+n<=xs.length):Reads g w z ((xs.drop lo).take n) v:=by
 obtain⟨A,c,vals,rfl,h1,h2,h3,h4,h5,h6,h7⟩:=h
 obtain⟨A',c',rfl,q1,q2,q3,q4⟩:=hs
 have hlen:((xs.drop lo).take n).length=n:=by simp;omega
 have hz':∀x∈(xs.drop lo).take n,(cellsOf x).length=z:=fun x hx=>h4 x (yyl_ (List.mem_of_mem_take hx))
 have hfl:flat ((xs.drop lo).take n)=((flat xs).drop (lo*z)).take (n*z):=by
  rw[xL_ h4,wr_ (fun x hx=>h4 x (yyl_ hx))]
 have hfl1:=zd_ h4
 have hfl2:=zd_ hz'
 rw[hlen]at hfl2
 have hsz:lo*z+n*z<=xs.length*z:=by rw[<-Nat.add_mul];exact yyg_ z hn
 refine⟨A',c',fun j=>vals (lo*z+j),by rw[hlen],by rw[hlen];exact q1,q2,q3,hz',fun u hu=>h5 u ?_,fun j hj=>?_,fun j u hu=>?_⟩
 .rw[hfl]at hu
  exact yyl_ (List.mem_of_mem_take hu)
 ·have hnp:0<n:=by
   rcases yyo_ n with e|e
   .subst e;simp[flat]at hj
   .exact e
  obtain⟨b,q,N,cap,e1,e2⟩:=q4 hnp
  obtain⟨b',q',e3,e4⟩:=h6 (lo*z+j) (by omega)
  simp only[Value.slice.injEq]at e1
  rw[e1.1]at e3
  injection e3 with e3
  injection e3 with e3 e5
  subst e3
  subst e5
  exact⟨b,q+lo*z,e2,by rw[Nat.add_assoc];exact e4⟩
 ·have:(flat xs)[lo*z+j]?=some u:=by
   rw[hfl]at hu
   rw[zzu_]at hu
   split at hu
   .rw[zzA_]at hu;exact hu
   .cases hu
  exact h7 _ u this
theorem yQ_(h:Rel F g w S a){y:V}{v:Value}(hy:OpdOk F g w S a y v){z:Nat}{xs:List V}(hc:cont S y=some (z,xs)):Reads g w z xs v:=by
 obtain⟨hr,hl,_,_⟩:=hy
 cases y with
 | s u =>
   have:u=.slice none 0 0/\z=0/\xs=[]:=by
    revert hc
    unfold cont
    split<;>intro hc<;>first|(cases hc;done)|skip
    all_goals first|(rename_i he;cases he;done)|skip
    .rename_i he;injection he with he;cases hc;exact⟨he,rfl,rfl⟩
   obtain⟨rfl,rfl,rfl⟩:=this
   cases hr
   exact⟨none,0,fun _=>undef,rfl,zzl_ _,zzn_ _,(fun _=>rfl),by simp,by simp[flat],fun j hj=>by simp[flat]at hj,fun j u hu=>by simp[flat]at hu⟩
 |list z' xs'=>simp[cont]at hc;obtain⟨rfl,rfl⟩:=hc;exact hr.reads_list
 |own m e z' xs'=>simp[cont]at hc;obtain⟨rfl,rfl⟩:=hc;exact hr.reads_own
 | view l e =>
   simp only[cont]at hc
   split at hc
   .next he =>
    obtain⟨vl,h1,h2⟩:=xD_ h hc
    have:=(hl he).2 z xs hc
    rw[h1]at this
    cases this
    exact h2
   .cases hc
 | sview l e lo n =>
   simp only[cont]at hc
   split at hc
   .next he =>
    cases hr':S.row l with
    |none=>rw[hr']at hc;cases hc
    | some r =>
      obtain⟨z',xs'⟩:=r
      rw[hr']at hc
      simp only[zzt_]at hc
      split at hc
      .next hn =>
       cases hc
       obtain⟨vl,h1,h2⟩:=xD_ h hr'
       obtain⟨vl',h3,h4⟩:=(hl he).2 _ _ hr'
       rw[h1]at h3
       cases h3
       exact h2.sub h4 hn
      .cases hc
   .cases hc
 |_=>simp[cont]at hc
theorem mh_(h:Rel F g w S a){o:Oper}{x:Operand}{p:Opd}{t e:TypeId}{d:Nat}(ho:o.op=.call { callee:=.builtin .len,args:=#[x],argTypes:=#[t] })(ht:P.underlying t=some (.slice e))(hx:opd F x=some p)(hd:d<F.N)(hdv:d∉F.sv)
 {r:Nat×List V} (hn:cont S (z7_ S p)=some r):QEnds P F g w S a o d (.s (.int .i64 r.2.length)) S.tm:=by
 obtain⟨z,xs⟩:=r
 obtain⟨A,c,_,hv,_⟩:=yQ_ h (y5_ h hx) hn
 refine q_s h hd hdv rfl ?_
 simp[execOp,ho,resolve,invoke,builtin,hv,Builtin.len_,run_underlying ht,goInt]
theorem mc_(h:Rel F g w S a){o:Oper}{x:Operand}{p:Opd}{t:TypeId}{d:Nat}(ho:o.op=.call { callee:=.builtin .len,args:=#[x],argTypes:=#[t] })(ht:P.underlying t=some .string)(hx:opd F x=some p)(hd:d<F.N)(hdv:d∉F.sv)
 {s:ByteArray} (hs:z7_ S p=.s (.string s)):QEnds P F g w S a o d (.s (.int .i64 s.size)) S.tm:=by
 obtain⟨e1,_⟩:=yA_ h hx hs
 refine q_s h hd hdv rfl ?_
 simp[execOp,ho,resolve,invoke,builtin,e1,Builtin.len_,run_underlying ht,goInt]
theorem tO_{xs:List V}{l:List UInt8}(h:wa_ xs=some l):xs=l.map (fun b=>.s (.int .u8 b.toNat)):=by
 induction xs generalizing l with
 |nil=>simp[wa_]at h;subst h;rfl
 | cons x r ih =>
   simp only[wa_,zza_]at h
   obtain⟨b,h1,q,h2,h3⟩:=h
   injection h3 with h3
   subst h3
   rw[ih h2]
   have:x=.s (.int .u8 b.toNat):=by
    revert h1
    unfold oZ_
    split
    .next n =>
     intro h1
     split at h1
     .next hn =>
      injection h1 with h1
      subst h1
      congr 2
      have:n.toNat<256:=by omega
      rw[UInt8.toNat_ofNat_of_lt' this]
      omega
     .cases h1
    .intro h1;cases h1
   rw[this]
   rfl
theorem rM_(l:List UInt8):flat (l.map (fun b=>V.s (.int .u8 b.toNat)))=l.map (fun b=>V.s (.int .u8 b.toNat)):=by
 induction l with
 |nil=>rfl
 |cons b r ih=>simp only[List.map_cons,flat,cellsOf,ih];rfl
theorem lj_(h:Rel F g w S a){o:Oper}{s e t:TypeId}{x:Operand}{p:Opd}{d:Nat}(ho:o.op=.convert s t x)(hs:P.underlying s=some (.slice e))(he:P.underlying e=some (.int .u8))(ht:P.underlying t=some .string)(hx:opd F x=some p)(hd:d<F.N)(hdv:d∉F.sv)
 {r:Nat×List V} {l:List UInt8} (hc:cont S (z7_ S p)=some r) (hl:wa_ r.2=some l):QEnds P F g w S a o d (.s (.string ⟨l.toArray⟩)) S.tm:=by
 obtain⟨z,xs⟩:=r
 obtain⟨A,c,vals,hv,h1,h2,h3,h4,h5,h6,h7⟩:=yQ_ h (y5_ h hx) hc
 have hxs:=tO_ hl
 simp only at hxs
 subst hxs
 rw[rM_]at h6 h7
 have hat:At w A (tN_ l):=by
  intro j u hj
  have hjl:j<l.length:=by simpa[tN_] using(zzc_.1 hj).1
  obtain⟨b,q,e1,e2⟩:=h6 j (by simpa using hjl)
  have hr:=h7 j (.s (.int .u8 l[j].toNat)) (by simp[hjl])
  have hu:u=vals j:=by
   have h8:=hr.of_s rfl
   rw[ug_ l j hjl]at hj
   injection hj with hj
   rw[<-hj,h8]
  subst hu
  have hb:b<w.heap.size:=by
   unfold World.cell? at e2
   cases hh:w.heap[b]? with
   |none=>simp[hh]at e2
   |some _=>exact(zzm_.1 hh).1
  exact⟨b,q,e1,hb,e2⟩
 refine q_s h hd hdv rfl ?_
 have hn:l.length=(l.map (fun b=>V.s (.int .u8 b.toNat))).length:=by simp
 simp only[execOp,ho,hv]
 rw[Sem.run_bind,nk_ w s e t hs he ht A _ c l hn hat]
 simp
structure LeafOk(F:Fr)(g:Gh)(w:World)(S:St)(a:Act)(x:V)(v:Value):Prop where
 rep:Rep g w x v
 lf:leaf x=true
 nown:∀e z xs,x≠.own true e z xs
 nlent:∀d e0 e z xs,x≠.lent d e0 e z xs
 nno:x≠.no
 ptr:∀b o,x=.ptr b o->b<S.bx.length
 ep:epOf x<=S.ep
 link:Link F g w S a x v
 one:v.oneCell'=true
theorem ua_(h:Rel F g w S a){d:Nat}(hd:d<F.N)(hdv:d∉F.sv){cs:List V}{vs:List Value}(hl:cs.length=vs.length)(hok:∀(j:Nat) (x:V) (v:Value),cs[j]?=some x->vs[j]?=some v->LeafOk F g w S a x v) :
 Ends F g w S a { S with tm:=upd S.tm d (.agg cs) } (a.put (some d) (.agg vs.toArray)) w:=by
 have hg:∀(i:Nat) (x:V),cs[i]?=some x->∃v,vs[i]?=some v/\LeafOk F g w S a x v:=by
  intro i x hx
  have hi:i<vs.length:=by rw[<-hl];exact(zzc_.1 hx).1
  exact⟨vs[i],zzf_ hi,hok i x vs[i] hx (zzf_ hi)⟩
 have hsub:∀p x,(V.agg cs).sub p=some x->leaf x=true->∃i v,p=[i]/\vs[i]?=some v/\LeafOk F g w S a x v:=by
  intro p x hs hlf
  cases p with
  |nil=>simp[V.sub]at hs;subst hs;simp[leaf]at hlf
  | cons i p =>
    simp only[V.sub,zza_]at hs
    obtain⟨y,h1,h2⟩:=hs
    obtain⟨v,h3,h4⟩:=hg i y h1
    cases p with
    |nil=>simp[V.sub]at h2;subst h2;exact⟨i,v,rfl,h3,h4⟩
    |cons j p=>exact absurd h2 (zV_ h4.lf)
 refine wt_ h hd hdv ?_ (by simp) ?_ ?_ ?_ ?_ ?_
 .refine .agg (by simpa using hl) (fun c hc=>?_) (fun j u c hu hc=>?_)
  .obtain⟨j,hj,rfl⟩:=List.getElem_of_mem hc
   simp at hj ⊢
   have hj':j<cs.length:=by omega
   exact(hok j cs[j] vs[j] (zzf_ hj') (zzf_ hj)).one
  .exact(hok j u c hu (by simpa using hc)).rep
 .intro p e z xs hs
  obtain⟨_,_,_,_,q⟩:=hsub p _ hs rfl
  exact q.nown _ _ _ rfl
 .intro p b o hs
  obtain⟨_,_,_,_,q⟩:=hsub p _ hs rfl
  exact q.ptr b o rfl
 .intro p d' e0 e z xs hs
  obtain⟨_,_,_,_,q⟩:=hsub p _ hs rfl
  exact q.nlent _ _ _ _ _ rfl
 .intro p x hs
  by_cases hlf:leaf x=true
  .obtain⟨_,_,_,_,q⟩:=hsub p x hs hlf
   exact q.ep
  .cases x<;>simp[leaf]at hlf<;>exact zzn_ _
 .intro p x u hs hu
  by_cases hlf:leaf x=true
  .obtain⟨i,v,rfl,h3,q⟩:=hsub p x hs hlf
   simp only[vsub,zza_]at hu
   obtain⟨u',h4,h5⟩:=hu
   rw[List.getElem?_toArray,h3]at h4
   injection h4 with h4
   subst h4
   injection h5 with h5
   subst h5
   exact q.link
  .cases x<;>simp[leaf]at hlf<;>trivial
theorem r3_(h:Rel F g w S a){d:Nat}(hd:d<F.N)(hdv:d∉F.sv){x:V}{v:Value}(hok:LeafOk F g w S a x v):Ends F g w S a { S with tm:=upd S.tm d x } (a.put (some d) v) w:=by
 have hsub:∀p y,x.sub p=some y->p=[]/\y=x:=by
  intro p y hs
  cases p with
  |nil=>simp[V.sub]at hs;exact⟨rfl,hs.symm⟩
  |cons i p=>exact absurd hs (zV_ hok.lf)
 refine wt_ h hd hdv hok.rep hok.nno ?_ ?_ ?_ ?_ ?_
 .intro p e z xs hs;exact hok.nown _ _ _ (hsub p _ hs).2.symm
 .intro p b o hs;exact hok.ptr b o (hsub p _ hs).2.symm
 .intro p d' e0 e z xs hs;exact hok.nlent _ _ _ _ _ (hsub p _ hs).2.symm
 .intro p y hs;rw[(hsub p _ hs).2];exact hok.ep
 .intro p y u hs hu
  obtain⟨rfl,rfl⟩:=hsub p _ hs
  simp[vsub]at hu
  subst hu
  exact hok.link
theorem sh_{x:V}{v:Value}(hr:Rep g w x v)(hi:immC x=true):LeafOk F g w S a x v:=by
 refine⟨hr,?_,?_,?_,?_,?_,?_,?_,hr.one hi⟩<;>cases x<;>simp[immC]at hi<;>first|rfl|(intro b o e;cases e;done)|(intros;simp;done)|exact zzn_ _|trivial
theorem qg_{b ep:Nat}{cs:List V}:∀(o j:Nat) (x:V),(seens b ep o cs)[j]?=some x->∃y,cs[j]?=some y/\x=y6_ (.cell b (o+j)) ep y:=by
 induction cs with
 |nil=>intro o j x h;simp[seens]at h
 | cons c r ih =>
   intro o j x h
   cases j with
   |zero=>simp[seens]at h;exact⟨c,by simp,h.symm⟩
   | succ j =>
     simp only[seens,List.getElem?_cons_succ]at h ⊢
     obtain⟨y,h1,h2⟩:=ih (o+1) j x h
     exact⟨y,h1,by rw[h2,show o+1+j=o+(j+1) by omega]⟩
theorem t0_{b ep:Nat}{cs:List V}:∀o,(seens b ep o cs).length=cs.length:=by
 induction cs with
 |nil=>intro o;rfl
 |cons c r ih=>intro o;simp[seens,ih]
theorem u5_(h:Rel F g w S a){y:V}{v:Value}(hy:OpdOk F g w S a y v){n:Nat}{cs:List V}(hc:ya_ S n y=some cs) :
 ∃(b o:Nat) (vs:List Value),v=.pointer (some ⟨b,o,none⟩)/\vs.length=n/\cs.length=n/\(∀(j:Nat) (u:Value),vs[j]?=some u->w.cell? ⟨b,o+j,none⟩=some u)/\(∀(j:Nat) (x:V) (u:Value),cs[j]?=some x->vs[j]?=some u->LeafOk F g w S a x u):=by
 obtain⟨hr,hl,he,hp⟩:=hy
 cases y with
 | ptr b o =>
   simp only[ya_]at hc
   by_cases hlt:o<1000000000
   case neg=>rw[if_neg hlt]at hc;cases hc
   rw[if_pos hlt]at hc
   split at hc
   .next cells hb =>
    split at hc
    .next hcond =>
     obtain⟨hlen,hk⟩:=hcond
     cases hc
     obtain⟨vs,ty,h1,h2,h3⟩:=h.box b cells hb
     have hsz:(vs.toList.drop o).length=vs.size-o:=by simp
     generalize hgv:V.ptr b o=pv at hr
     cases hr<;>try (cases hgv;done)
     cases hgv
     rw[vn_ hlt]
     refine⟨g.φ b,o,(vs.toList.drop o).take n,rfl,by simp;omega,by rw[t0_];simp;omega,fun j u hj=>?_,fun j x u hj hu=>?_⟩
     .rw[zzu_]at hj
      split at hj
      .rw[zzA_]at hj
       rw[yt_ h1]
       simpa using hj
      .cases hj
     .obtain⟨y,q1,q2⟩:=qg_ o j x hj
      have hky:y1_ y=true:=zzh_.1 hk y (zzd_ q1)
      rw[zzu_]at q1 hu
      have hjn:j<n:=by
       rcases yym_ j n with e|e
       .exact e
       .rw[if_neg (by omega)]at q1;cases q1
      rw[if_pos hjn,zzA_]at q1 hu
      have hat:S.at (.cell b (o+j))=some y:=by simp[St.at,hb,q1]
      have hval:z8_ F g w a (.cell b (o+j))=some u:=by
       simp only[z8_]
       rw[yt_ h1]
       simpa using hu
      have hrep:=h.rep (.l (.cell b (o+j))) y u ⟨hat,hval⟩
      obtain⟨u',hu',hone⟩:=h.lookv (.cell b (o+j)) y hat
      rw[hval]at hu'
      cases hu'
      have h1c:=hone ⟨b,o+j,rfl⟩
      have hlf:=hrep.leaf_one h1c
      have hnv:=h.novw _ y hat []
      subst q2
      cases y with
      | own m e z xs =>
        cases m with
        | false =>
          have hrl:Rep g w (.list z xs) u:=by cases hrep with|ownf h _=>exact h
          simp only[y6_]
          split
          .exact⟨hrep,rfl,by simp,by simp,by simp,by simp,zzn_ _,trivial,h1c⟩
          .exact⟨hrl,rfl,by simp,by simp,by simp,by simp,zzn_ _,trivial,h1c⟩
        |true=>exact⟨.view,rfl,by simp[y6_],by simp[y6_],by simp[y6_],by simp[y6_],zzl_ _,(fun _=>⟨⟨_,hat,rfl⟩,fun _ _ _=>hval⟩),h1c⟩
      |lent d e0 e z xs=>exact⟨.view,rfl,by simp[y6_],by simp[y6_],by simp[y6_],by simp[y6_],zzl_ _,(fun _=>⟨⟨_,hat,rfl⟩,fun _ _ _=>hval⟩),h1c⟩
      |s c=>exact⟨hrep,rfl,by simp[y6_],by simp[y6_],by simp[y6_],by simp[y6_],zzn_ _,trivial,h1c⟩
      |list z xs=>exact⟨hrep,rfl,by simp[y6_],by simp[y6_],by simp[y6_],by simp[y6_],zzn_ _,trivial,h1c⟩
      |ptr b' o'=>exact⟨hrep,rfl,by simp[y6_],by simp[y6_],by simp[y6_],(fun b2 o2 e2=>by simp[y6_]at e2;obtain⟨rfl,rfl⟩:=e2;exact h.ptr (.l (.cell b (o+j))) _ u [] b' o' ⟨hat,hval⟩ rfl),zzn_ _,trivial,h1c⟩
      |agg _=>simp[leaf]at hlf
      |tup _=>simp[leaf]at hlf
      |ip _=>exact absurd rfl (hnv.2.2.2 _)
      |view _ _=>exact absurd rfl (hnv.1 _ _)
      |sview _ _ _ _=>exact absurd rfl (hnv.2.1 _ _ _ _)
      |vp _ _ _ _=>exact absurd rfl (hnv.2.2.1 _ _ _ _)
      |no=>simp[y1_]at hky
      |gone=>simp[y1_]at hky
    .cases hc
   .cases hc
 | ip cs' =>
   simp only[ya_]at hc
   split at hc
   .next hn =>
    cases hc
    cases hr with
    | ip vals hi hcell hrep =>
      refine⟨_,_,(List.range n).map vals,rfl,by simp,by simp;omega,fun j u hj=>?_,fun j x u hj hu=>?_⟩
      .rw[zzs_]at hj
       rcases yym_ j n with e|e
       .rw[List.getElem?_range e]at hj
        cases hj
        exact(hcell j (by omega)).2
       .rw[List.getElem?_eq_none (by simpa using e)]at hj;cases hj
      .rw[zzu_]at hj
       rcases yym_ j n with e|e
       .rw[if_pos e]at hj
        rw[zzs_,List.getElem?_range e]at hu
        cases hu
        exact sh_ (hrep j x hj) (hi x (zzd_ hj))
       .rw[if_neg (by omega)]at hj;cases hj
   .cases hc
 | vp l e i q =>
   simp only[ya_]at hc
   split at hc
   .next hee =>
    split at hc
    .next z xs hrow =>
     split at hc
     .next x hx =>
      split at hc
      .next hn =>
       cases hc
       obtain⟨_,h2⟩:=hl hee
       obtain⟨b,N,cap,x',h3,h4,h5⟩:=h2 z xs hrow
       rw[hx]at h4
       cases h4
       obtain⟨vl,k1,k2⟩:=xD_ h hrow
       rw[h3]at k1
       cases k1
       obtain⟨A,c,vals,e1,_,_,_,e5,e6,e7,e8⟩:=k2
       simp only[Value.slice.injEq]at e1
       have hz:(cellsOf x).length=z:=e5 x (zzd_ hx)
       have hfg:∀j,j<n->(flat xs)[i*z+(q+j)]?=(cellsOf x)[q+j]?:=fun j hj=>xU_ e5 hx (by omega)
       have hfl:=zd_ e5
       have hi:i<xs.length:=(zzc_.1 hx).1
       have hile:i*z+z<=xs.length*z:=by
        have:=yyg_ z (show i+1<=xs.length by omega)
        rw[yyn_]at this
        omega
       subst h5
       refine⟨b,i*z+q,(List.range n).map (fun j=>vals (i*z+(q+j))),rfl,by simp,by simp;omega,fun j u hj=>?_,fun j y u hj hu=>?_⟩
       .rw[zzs_]at hj
        rcases yym_ j n with e|e
        .rw[List.getElem?_range e]at hj
         cases hj
         obtain⟨b',q',f1,f2⟩:=e7 (i*z+(q+j)) (by omega)
         rw[<-e1.1]at f1
         injection f1 with f1
         injection f1 with f1 f3
         subst f1
         subst f3
         rw[Nat.zero_add]at f2
         rw[Nat.add_assoc]
         exact f2
        .rw[List.getElem?_eq_none (by simpa using e)]at hj;cases hj
       .rw[zzu_]at hj
        rcases yym_ j n with e|e
        .rw[if_pos e,zzA_]at hj
         rw[zzs_,List.getElem?_range e]at hu
         cases hu
         have hfu:=hfg j e
         rw[hj]at hfu
         exact sh_ (e8 _ y hfu) (e6 y (zzd_ hfu))
        .rw[if_neg (by omega)]at hj;cases hj
      .cases hc
     .cases hc
    .cases hc
   .cases hc
 |_=>simp[ya_]at hc
theorem q_ld(h:Rel F g w S a){o:Oper}{x:Operand}{p:Opd}{t:TypeId}{n:Nat}{ag:Bool}{d:Nat}(ho:o.op=.load t x)(hn:sizeT P t=some n)(hag:aggT P t=some ag)(hx:opd F x=some p)(hd:d<F.N)(hdv:d∉F.sv)
 {cs:List V} {y:V} (hc:ya_ S n (z7_ S p)=some cs) (hy:x4_ ag cs=some y):QEnds P F g w S a o d y S.tm:=by
 obtain⟨b,q,vs,e1,e2,e3,e4,e5⟩:=u5_ h (y5_ h hx) hc
 unfold sizeT at hn
 obtain⟨i,hi,hin⟩:=zzb_.1 hn
 unfold aggT at hag
 obtain⟨td,htd,htag⟩:=zzb_.1 hag
 have hisagg:(isAgg t).run P w=.ok ag w:=by
  simp only[isAgg,run_underlying htd,Sem.run_bind,Result.andThen_ok]
  rw[<-htag]
  cases td<;>simp
 cases ag
 .simp only[x4_,yyi_,if_false]at hy
  split at hy
  .next x' =>
   cases hy
   have hn1:n=1:=by simpa using e3.symm
   obtain⟨u,rfl⟩:∃u,vs=[u]:=by
    cases vs with
    |nil=>simp at e2;omega
    | cons u r => cases r with
      |nil=>exact⟨u,rfl⟩
      |cons _ _=>simp at e2;omega
   refine⟨u,w,?_,r3_ h hd hdv (e5 0 _ u rfl rfl)⟩
   have h0:=e4 0 u rfl
   simp only[Nat.add_zero]at h0
   simp[execOp,ho,e1,Instr.loadAt,Instr.sureAddr,loadVar,hisagg,h0]
  .cases hy
 .simp only[x4_,if_true]at hy
  cases hy
  refine⟨.agg vs.toArray,w,?_,ua_ h hd hdv (by omega) e5⟩
  have hl:(loadCells ⟨b,q,none⟩ n).run P w=.ok vs.toArray w:=by
   rw[<-e2]
   exact run_loadCells_list w _ vs (fun j u hj=>by rw[zJ_];exact e4 j u hj)
  simp[execOp,ho,e1,Instr.loadAt,Instr.sureAddr,loadVar,hisagg,sizeOf,typeInfo,hi,hin,hl]
end
end
section
section
variable{P:Program}{F:Fr}{g:Gh}{w:World}{S:St}{a:Act}
theorem uo_(h:Rel F g w S a){tm1:Nat->V}(hless:∀t,Less (tm1 t) (S.tm t))(htv:∀t∈F.sv,tm1 t=S.tm t){d:Nat}(hd:d<F.N)(hdv:d∉F.sv){e z:Nat}{xs:List V}{v:Value}(hy:Rep g w (.own true e z xs) v)
 (hk:∀k,rb v=some k->g.I k=0/\k<w.heap.size/\(∀b,b<S.bx.length->g.φ b≠k)/\(∀r p',r≠.t d->¬Own F g w { S with tm:=tm1 } a r p' k)/\∀l d e' z' xs' v',S.at l=some (.lent d S.ep e' z' xs')->z8_ F g w a l=some v'->rb v'=some k->xs'.length*z'<=xs.length*z) :
 Rel F g w { S with tm:=upd tm1 d (.own true e z xs) } (a.put (some d) v)/\∀k,wN_ F g w { S with tm:=upd tm1 d (.own true e z xs) } (a.put (some d) v) k->wN_ F g w S a k\/rb v=some k:=by
 have hsub:∀p y,(V.own true e z xs).sub p=some y->p=[]/\y=.own true e z xs:=by
  intro p y hs
  cases p with
  |nil=>simp[V.sub]at hs;exact⟨rfl,hs.symm⟩
  |cons i p=>simp[V.sub]at hs
 have hl:∀p d e0 e' z' xs',(V.own true e z xs).sub p≠some (.lent d e0 e' z' xs'):=fun p d e0 e' z' xs' hs=>by cases (hsub p _ hs).2
 have hoi:∀p k,zD_ (.own true e z xs) v p k->p=[]/\rb v=some k:=by
  intro p k ⟨_,_,_,u,q1,q2,q3⟩
  obtain⟨rfl,_⟩:=hsub p _ q1
  simp[vsub]at q2
  subst q2
  exact⟨rfl,q3⟩
 refine⟨h.put hless htv hd hdv hy (by simp) (fun p b o hs=>by cases (hsub p _ hs).2) hl (fun p x hs=>by rw[(hsub p _ hs).2];exact zzn_ _) (fun p x u hs hu=>by rw[(hsub p _ hs).2];trivial) (fun p k q=>let r:=hk k (hoi p k q).2;⟨r.1,r.2.1,r.2.2.1,r.2.2.2.1⟩) (fun p p' k q q'=>(hoi p k q).1.trans (hoi p' k q').1.symm) (fun p k m q=>?_),?_⟩
 .obtain⟨e2,z2,xs2,u2,q1,q2,q3,q4⟩:=q
  obtain⟨q5,q6⟩:=hsub p _ q1
  injection q6 with _ _ q7 q8
  subst q7
  subst q8
  rw[q4]
  exact(hk k (hoi p k ⟨e2,z2,xs2,u2,q1,q2,q3⟩).2).2.2.2.2
 intro k ho
 rcases ho with ⟨r,p,ho⟩|ho
 .rcases xm_ h hless hd hdv (by simp) hl ho with ⟨_,q⟩|q
  .exact .inr (hoi p k q).2
  .exact .inl (.inl ⟨r,p,q⟩)
 .exact .inl (.inr ho)
theorem xM_(h:Rel F g w S a){d:Nat}(hd:d<F.N)(hdv:d∉F.sv)(e z:Nat)(A:Option Addr):Ends F g w S a { S with tm:=upd S.tm d (.own true e z []) } (a.put (some d) (.slice A 0 0)) w:=by
 have hn:rb (.slice A 0 0)=none:=by cases A<;>simp[rb]
 obtain⟨h1,h2⟩:=uo_ h (fun t=>Less.refl _) (fun _ _=>rfl) hd hdv (.own0 (e:=e) (z:=z) (A:=A)) (fun k hk=>by rw[hn]at hk;cases hk)
 refine⟨g,h1,⟨rfl,rfl,rfl,zzl_ _,fun _ _ _=>⟨rfl,rfl⟩,fun k ho=>?_⟩,fun _ _=>rfl⟩
 rcases h2 k ho with q|q
 .exact .inl q
 .rw[hn]at q;cases q
theorem sG_(h:Rel F g w S a){l:Loc}{z:Nat}{xs:List V}(hr:S.row l=some (z,xs))(hz:0<z)(hn:xs≠[]):∃b N cap,z8_ F g w a l=some (.slice (some ⟨b,0,none⟩) N cap):=by
 have hown:∀ {m:Bool} {e:Nat} {v:Value},Rep g w (.own m e z xs) v->∃b N cap,v=.slice (some ⟨b,0,none⟩) N cap:=by
  intro m e v hr
  cases hr with
  |own vals h0 hc hm hh hs hz hi hcell hrep=>exact⟨_,_,_,rfl⟩
  |own0=>exact absurd rfl hn
  | ownf h h0 =>
    obtain⟨A,c,vals,rfl,_,_,_,h4,_,h6,_⟩:=h.reads_list
    have hfl:=zd_ h4
    have hlp:0<xs.length:=List.length_pos_iff.2 hn
    have:=Nat.mul_pos hlp hz
    obtain⟨b,q,e1,_⟩:=h6 0 (by omega)
    subst e1
    have:=h0 b q _ _ rfl hn
    subst this
    exact⟨_,_,_,rfl⟩
 unfold St.row at hr
 split at hr
 .next m e z' xs' hl =>
  cases hr
  obtain⟨v,hv,_⟩:=h.lookv l _ hl
  obtain⟨b,N,cap,rfl⟩:=hown (h.rep (.l l) _ _ ⟨hl,hv⟩)
  exact⟨b,N,cap,hv⟩
 .next d e0 e z' xs' hl =>
  split at hr
  .next he =>
   cases hr
   subst he
   obtain⟨v,hv,_⟩:=h.lookv l _ hl
   obtain⟨b,N,cap,rfl⟩:=hown (h.lentr l d e z xs v hl hv).1
   exact⟨b,N,cap,hv⟩
  .cases hr
 .cases hr
theorem pS_{t:Nat}(ht:t<a.tmps.size):a.put (some t) (Act.tv a t)=a:=by
 cases a with
 | mk tmps defers =>
   simp only[Act.put,Act.tv,Act.mk.injEq,and_true]
   apply Array.ext_getElem?
   intro i
   rw[Array.getElem?_setIfInBounds]
   split
   .next e=>subst e;simp at ht;simp[ht]
   .rfl
theorem ul_(tm:Nat->V)(t:Nat)(x y:V):upd (upd tm t x) t y=upd tm t y:=by
 funext u
 simp only[upd]
 split<;>rfl
theorem yN_(h:Rel F g w S a){t:Nat}(ht:t∉F.sv)(htN:t<F.N){e z:Nat}{xs:List V}(hx:S.tm t=.own true e z xs) :
 ∃g',Rel F g' w { S with tm:=upd S.tm t (.list z xs) } a/\Fw F g w S a g' w { S with tm:=upd S.tm t (.list z xs) } a/\(∀b,b<S.bx.length->g'.φ b=g.φ b):=by
 obtain⟨g1,h1,h2,h3,h4⟩:=w7_ h ht hx (x:=.gone) zz_ (fun p e z xs hs=>by cases p<;>simp[V.sub]at hs)
 obtain⟨g2,k1,k2,k3⟩:=zl_ h1 htN ht h4 rfl (fun b o he=>by cases he) (zzn_ _) trivial
 rw[pS_ (by rw[h.sz];exact htN)]at k1 k2
 simp only[ul_]at k1 k2
 exact⟨g2,k1,h2.trans k2,fun b hb=>(k3 b hb).trans (by rw[h3])⟩
theorem v5_(h:Rel F g w S a){x:Operand}{q:Opd}{n:Int}(hx:opd F x=some q)(hn:yI_ (z7_ S q)=some n):∃k,a.eval x=.int k n:=by
 have hq:∃k,z7_ S q=.s (.int k n):=by
  revert hn
  unfold yI_
  split
  .next k m hk=>intro e;cases e;exact⟨k,hk⟩
  .intro e;cases e
 obtain⟨k,hk⟩:=hq
 exact⟨k,(yA_ h hx hk).1⟩
theorem tq_{z:Nat}{xs:List V}{v:Value}{i:Nat}{x:V}(h:Rep g w (.list z xs) v)(hz:0<z)(hx:xs[i]?=some x) :
 ∃b q c,v=.slice (some ⟨b,q,none⟩) xs.length c/\Rep g w (.ip (cellsOf x)) (.pointer (some ⟨b,q+i*z,none⟩)):=by
 cases h with
 | list vals hc hm hA hzs hi hcell hrep =>
   have hil:i<xs.length:=(zzc_.1 hx).1
   have hfl:=zd_ hzs
   have hxz:(cellsOf x).length=z:=hzs x (zzd_ hx)
   have hile:i*z+z<=xs.length*z:=by
    have:=yyg_ z (show i+1<=xs.length by omega)
    rw[yyn_]at this
    omega
   obtain⟨b,q,e1,e2,e3⟩:=hcell (i*z) (by omega)
   subst e1
   refine⟨b,q,_,rfl,.ip (fun j=>vals (i*z+j)) (fun u hu=>hi u (sj_ (zzd_ hx) hu)) (fun j hj=>?_) (fun j u hu=>?_)⟩
   .obtain⟨b',q',f1,f2,f3⟩:=hcell (i*z+j) (by omega)
    injection f1 with f1
    injection f1 with f1 f4
    subst f1
    subst f4
    rw[Nat.add_assoc]
    exact⟨f2,f3⟩
   .have hj:j<z:=by have:=(zzc_.1 hu).1;omega
    refine hrep _ u ?_
    rw[xU_ hzs hx hj]
    exact hu
theorem sF_{o:Oper}{t e:TypeId}{z:Nat}{x ix:Operand}{k:IntKind}{n:Int}{ad:Addr}{N c:Nat}(ho:o.op=.indexAddr t x ix)(ht:P.underlying t=some (.slice e))(hz:sizeT P e=some z)(hx:a.eval x=.slice (some ad) N c)(hi:a.eval ix=.int k n)(h0:0<=n)(hn:n.toNat<N)(w:World) :
 (execOp a.eval o).run P w=.ok (.value (.pointer (some (ad.add (n.toNat*z))))) w:=by
 unfold sizeT at hz
 obtain⟨i,hi',hin⟩:=zzb_.1 hz
 have hnn:n<(N:Int):=by omega
 simp[execOp,ho,hx,hi,Instr.indexAt,asIntOf,run_underlying ht,sizeOf,typeInfo,hi',hin,h0,hnn]
theorem qE_(h:Rel F g w S a){t:Nat}{m:Bool}{e z:Nat}{xs:List V}(hx:S.tm t=.own m e z xs):t<F.N:=by
 rcases yym_ t F.N with q|q
 .exact q
 .have hr:=h.rep (.t t) _ _ ⟨rfl,rfl⟩
  have:Act.tv a t=undef:=by simp[Act.tv,h.sz,q]
  rw[hx,this]at hr
  exfalso
  revert hr
  generalize hu:undef=u
  intro hr
  cases hr<;>simp[undef]at hu
  rename_i hr1
  cases hr1
  cases hu
theorem q_ia(h:Rel F g w S a){o:Oper}{x ix:Operand}{p q:Opd}{t e:TypeId}{z:Nat}{d:Nat}(ho:o.op=.indexAddr t x ix)(ht:P.underlying t=some (.slice e))(hz:sizeT P e=some z)
 (hx:opd F x=some p) (hi:opd F ix=some q) (hd:d<F.N) (hdv:d∉F.sv) {y:V} {tm1:Nat->V} (hy:iaV S z p q=some (y,tm1)):QEnds P F g w S a o d y tm1:=by
 have hok:=y5_ h hx
 unfold iaV at hy
 split at hy
 .cases hy
 .next n hn =>
  obtain⟨k,e1⟩:=v5_ h hi hn
  split at hy
  .cases hy
  .next hcond =>
   have h0:0<=n:=by omega
   have hz0:0<z:=by omega
   have hnn:n.toNat*z+0=n.toNat*z:=rfl
   generalize hlk:z7_ S p=lk at *
   split at hy
   .next z' xs =>
    split at hy
    .next hzz =>
     subst hzz
     obtain⟨x',hx',hy'⟩:=zza_.1 hy
     cases hy'
     obtain⟨b,q',c,e2,e3⟩:=tq_ hok.rep hz0 hx'
     refine⟨_,w,sF_ ho ht hz e2 e1 h0 (zzc_.1 hx').1 w,?_⟩
     rw[zJ_]
     exact zl_ h hd hdv e3 rfl (fun b o he=>by cases he) (zzn_ _) trivial
    .cases hy
   .next e' z' xs =>
    split at hy
    .next t' =>
     split at hy
     .next hzz =>
      subst hzz
      obtain⟨x',hx',hy'⟩:=zza_.1 hy
      cases hy'
      obtain⟨rfl,ht'⟩:=xo_ hx
      simp only[z7_]at hlk
      have htN:t'<F.N:=qE_ h hlk
      obtain⟨g1,h1,h2,h3⟩:=yN_ h ht' htN hlk
      have hr1:=h1.rep (.t t') _ _ ⟨rfl,rfl⟩
      simp only[zm_]at hr1
      obtain⟨b,q',c,e2,e3⟩:=tq_ hr1 hz0 hx'
      refine⟨_,w,sF_ ho ht hz e2 e1 h0 (zzc_.1 hx').1 w,?_⟩
      rw[zJ_]
      exact Ends.of h2 h3 (zzl_ _) (zl_ h1 hd hdv e3 rfl (fun b o he=>by cases he) (zzn_ _) trivial)
     .cases hy
    .cases hy
   .next l e' =>
    split at hy
    .next hee =>
     split at hy
     .next z' xs hrow =>
      split at hy
      .next hc =>
       obtain⟨rfl,hlt⟩:=hc
       cases hy
       have hne:xs≠[]:=fun e=>by subst e;simp at hlt
       obtain⟨b,N,cap,hb⟩:=sG_ h hrow hz0 hne
       obtain⟨vl,h1,h2⟩:=xD_ h hrow
       have hv:=(hok.link hee).2 _ _ hrow
       rw[hb]at h1 hv
       cases h1
       obtain⟨A,c,_,e2,_⟩:=h2
       simp only[Value.slice.injEq]at e2
       obtain⟨_,rfl,_⟩:=e2
       injection hv with hv
       refine⟨_,w,sF_ ho ht hz hv.symm e1 h0 hlt w,?_⟩
       rw[zJ_,Nat.zero_add]
       refine zl_ h hd hdv .vp rfl (fun b o he=>by cases he) hok.ep (fun _=>⟨(hok.link hee).1,fun z1 xs1 hr1=>?_⟩)
       rw[hrow]at hr1
       cases hr1
       exact⟨b,xs.length,cap,xs[n.toNat],hb,zzf_ hlt,rfl⟩
      .cases hy
     .cases hy
    .cases hy
   .next l e' lo m =>
    split at hy
    .next hee =>
     split at hy
     .next z' xs hrow =>
      split at hy
      .next hc =>
       obtain⟨rfl,hlt,hm⟩:=hc
       cases hy
       have hne:xs≠[]:=fun e=>by subst e;simp at hm;omega
       obtain⟨b,N,cap,hb⟩:=sG_ h hrow hz0 hne
       obtain⟨vl,h1,A,c,e2,_,_,_,e3⟩:=(hok.link hee).2 _ _ hrow
       rw[hb]at h1
       injection h1 with h1
       subst h1
       obtain⟨b',q',N',cap',f1,f2⟩:=e3 (by omega)
       simp only[Value.slice.injEq,yya_,Addr.mk.injEq]at f1
       obtain⟨⟨rfl,rfl,_⟩,_⟩:=f1
       rw[f2]at e2
       refine⟨_,w,sF_ ho ht hz e2 e1 h0 hlt w,?_⟩
       rw[zJ_,Nat.zero_add,<-Nat.add_mul]
       refine zl_ h hd hdv .vp rfl (fun b o he=>by cases he) hok.ep (fun _=>⟨(hok.link hee).1,fun z1 xs1 hr1=>?_⟩)
       rw[hrow]at hr1
       cases hr1
       exact⟨b,N,cap,xs[lo+n.toNat],hb,zzf_ (by omega),rfl⟩
      .cases hy
     .cases hy
    .cases hy
   .cases hy
theorem yP_(h:Rel F g w S a){x:Option Operand}{q:Option Opd}(hx:opdO F x=some q){dflt n:Nat}(hn:zo_ S dflt q=some n):(x=none/\q=none/\n=dflt)\/∃x' k,x=some x'/\q.isSome=true/\a.eval x'=.int k n:=by
 cases x with
 | none =>
   simp[opdO]at hx
   subst hx
   simp[zo_]at hn
   exact .inl ⟨rfl,rfl,hn.symm⟩
 | some x' =>
   simp only[opdO]at hx
   obtain⟨q',h1,rfl⟩:=zzb_.1 hx
   simp only[zo_]at hn
   split at hn
   .next m hm =>
    split at hn
    .cases hn
    .next hneg =>
     cases hn
     obtain⟨k,e⟩:=v5_ h h1 hm
     exact .inr ⟨x',k,rfl,rfl,by rw[e];congr 1;omega⟩
   .cases hn
theorem wF_{lo hi mx:Option Value}{len cap l hh m:Nat}(hlo:(lo=none/\l=0)\/∃k,lo=some (.int k l))(hhi:(hi=none/\hh=len/\mx=none)\/∃k,hi=some (.int k hh))(hmx:(mx=none/\m=cap)\/∃k,mx=some (.int k m))
 (h1:l<=hh) (h2:hh<=m) (h3:m<=cap) (b:Bool) (w:World):(Instr.sliceBounds b len cap lo hi mx).run P w=.ok (l,hh,m) w:=by
 have hb:∀(k:IntKind) (i y:Nat) (c:BoundsCode),i<=y->(Instr.sliceBound (.int k i) y c).run P w=.ok i w:=by
  intro k i y c hi
  have:(i:Int)<=y:=by omega
  simp[Instr.sliceBound,asIntOf,this]
 rcases hmx with ⟨rfl,rfl⟩|⟨k3,rfl⟩
 .rcases hhi with ⟨rfl,rfl,_⟩|⟨k2,rfl⟩
  .rcases hlo with ⟨rfl,rfl⟩|⟨k1,rfl⟩
   .simp[Instr.sliceBounds]
   .simp[Instr.sliceBounds,hb k1 l _ _ h1]
  .rcases hlo with ⟨rfl,rfl⟩|⟨k1,rfl⟩
   .simp[Instr.sliceBounds,hb k2 hh _ _ h2]
   .simp[Instr.sliceBounds,hb k2 hh _ _ h2,hb k1 l _ _ h1]
 .rcases hhi with ⟨_,_,e⟩|⟨k2,rfl⟩
  .cases e
  .rcases hlo with ⟨rfl,rfl⟩|⟨k1,rfl⟩
   .simp[Instr.sliceBounds,hb k3 m _ _ h3,hb k2 hh _ _ h2]
   .simp[Instr.sliceBounds,hb k3 m _ _ h3,hb k2 hh _ _ h2,hb k1 l _ _ h1]
theorem vX_{o:Oper}{t e:TypeId}{z:Nat}{x:Operand}{lo hi mx:Option Operand}{A:Option Addr}{N c l hh m:Nat}(ho:o.op=.slice t x lo hi mx)(ht:P.underlying t=some (.slice e))(hz:sizeT P e=some z)(hx:a.eval x=.slice A N c)
 (hb:(Instr.sliceBounds true N c (lo.map a.eval) (hi.map a.eval) (mx.map a.eval)).run P w=.ok (l,hh,m) w):(execOp a.eval o).run P w=.ok (.value (.slice (if m=l then A else A.map (·.add (l*z))) (hh-l) (m-l))) w:=by
 unfold sizeT at hz
 obtain⟨i,hi',hin⟩:=zzb_.1 hz
 simp[execOp,ho,hx,Instr.sliceAt,Instr.slice,run_underlying ht,hb,sizeOf,typeInfo,hi',hin]
theorem nb_{z:Nat}{A:Option Addr}{N c l hh m:Nat}(hA:A=none->c=0)(hb:∀j,j<N*z->∃b q,A=some ⟨b,q,none⟩)(hz:0<z)(h1:l<=hh)(h2:hh<=N)(h3:hh<=m)(h4:m<=c)(hc:c<=maxLen) :
 rf_ z l (hh-l) (.slice A N c) (.slice (if m=l then A else A.map (·.add (l*z))) (hh-l) (m-l)):=by
 refine⟨_,_,rfl,by omega,by omega,fun hn=>?_,fun hp=>?_⟩
 .split at hn
  .omega
  .cases A with
   |none=>have:=hA rfl;omega
   |some ad=>cases hn
 .have hN:0<N*z:=Nat.mul_pos (by omega) hz
  obtain⟨b,q,rfl⟩:=hb 0 hN
  refine⟨b,q,N,c,rfl,?_⟩
  rw[if_neg (by omega),zzz_,zJ_]
theorem Rep.sub_list{z:Nat}{xs:List V}{v:Value}{l hh m:Nat}{A:Option Addr}{c:Nat}(h:Rep g w (.list z xs) v)(hv:v=.slice A xs.length c)(h1:l<=hh)(h2:hh<=xs.length)(h3:hh<=m)(h4:m<=c) :
 Rep g w (.list z ((xs.drop l).take (hh-l))) (.slice (if m=l then A else A.map (·.add (l*z))) (hh-l) (m-l)):=by
 cases h with
 | list vals hc hm hA hzs hi hcell hrep =>
   simp only[Value.slice.injEq,true_and]at hv
   obtain⟨rfl,rfl⟩:=hv
   rename_i A c
   have hlen:((xs.drop l).take (hh-l)).length=hh-l:=by simp;omega
   have hz':∀x∈(xs.drop l).take (hh-l),(cellsOf x).length=z:=fun x hx=>hzs x (yyl_ (List.mem_of_mem_take hx))
   have hfl:flat ((xs.drop l).take (hh-l))=((flat xs).drop (l*z)).take ((hh-l)*z):=by
    rw[xL_ hzs,wr_ (fun x hx=>hzs x (yyl_ hx))]
   have hfl1:=zd_ hzs
   have hfl2:=zd_ hz'
   rw[hlen]at hfl2
   have hsz:l*z+(hh-l)*z<=xs.length*z:=by rw[<-Nat.add_mul];exact yyg_ z (by omega)
   have key:Rep g w (.list z ((xs.drop l).take (hh-l))) (.slice (if m=l then A else A.map (·.add (l*z))) ((xs.drop l).take (hh-l)).length (m-l)):=by
    refine .list (fun j=>vals (l*z+j)) (by omega) (by omega) (fun hn=>?_) hz' (fun u hu=>hi u ?_) (fun j hj=>?_) (fun j u hu=>?_)
    .split at hn
     .omega
     .cases A with
      |none=>have:=hA rfl;omega
      |some ad=>cases hn
    .rw[hfl]at hu
     exact yyl_ (List.mem_of_mem_take hu)
    .rw[hfl2]at hj
     have hp:0<hh-l:=by
      rcases yyo_ (hh-l) with e|e
      .rw[e]at hj;simp at hj
      .exact e
     obtain⟨b,q,e1,e2,e3⟩:=hcell (l*z+j) (by omega)
     subst e1
     refine⟨b,q+l*z,by rw[if_neg (by omega),zzz_,zJ_],?_,?_⟩
     .rw[Nat.add_assoc];exact e2
     .rw[Nat.add_assoc];exact e3
    ·have:(flat xs)[l*z+j]?=some u:=by
      rw[hfl,zzu_]at hu
      split at hu
      .rw[zzA_]at hu;exact hu
      .cases hu
     exact hrep _ u this
   rw[hlen]at key
   exact key
theorem x7_(h:Rel F g w S a){lo hi mx:Option Operand}{lo' hi' mx':Option Opd}(h1:opdO F lo=some lo')(h2:opdO F hi=some hi')(h3:opdO F mx=some mx')(hmh:¬(mx'.isSome=true/\hi'.isNone=true)){n cap l hh m:Nat}(e1:zo_ S 0 lo'=some l)(e2:zo_ S n hi'=some hh)(e3:zo_ S n mx'=some m)
 (b1:l<=hh) (b2:hh<=m) (b3:m<=n) (b4:n<=cap):∃m',(Instr.sliceBounds true n cap (lo.map a.eval) (hi.map a.eval) (mx.map a.eval)).run P w=.ok (l,hh,m') w/\hh<=m'/\m'<=cap/\(mx'.isSome=true->m'=m):=by
 have q1:(lo.map a.eval=none/\l=0)\/∃k,lo.map a.eval=some (.int k l):=by
  rcases yP_ h h1 e1 with ⟨rfl,_,e⟩|⟨x,k,rfl,_,e⟩
  .exact .inl ⟨rfl,e⟩
  .exact .inr ⟨k,by simp[e]⟩
 rcases yP_ h h3 e3 with ⟨rfl,rfl,e⟩|⟨x,k,rfl,hs,e⟩
 ·have q2:(hi.map a.eval=none∧hh=n∧(none:Option Value)=none)∨∃k,hi.map a.eval=some (.int k hh):=by
   rcases yP_ h h2 e2 with ⟨rfl,_,e⟩|⟨x,k,rfl,_,e⟩
   .exact .inl ⟨rfl,e,rfl⟩
   .exact .inr ⟨k,by simp[e]⟩
  exact⟨cap,wF_ q1 q2 (.inl ⟨rfl,rfl⟩) b1 (by omega) (zzl_ _) true w,by omega,zzl_ _,fun e=>by cases e⟩
 ·have q2:(hi.map a.eval=none∧hh=n∧((some x:Option Operand).map a.eval)=none)∨∃k,hi.map a.eval=some (.int k hh):=by
   rcases yP_ h h2 e2 with ⟨rfl,rfl,_⟩|⟨x,k,rfl,_,e⟩
   .exact absurd ⟨hs,rfl⟩ hmh
   .exact .inr ⟨k,by simp[e]⟩
  exact⟨m,wF_ q1 q2 (.inr ⟨k,by simp[e]⟩) b1 b2 (by omega) true w,b2,by omega,fun _=>rfl⟩
theorem q_sl(h:Rel F g w S a){o:Oper}{x:Operand}{lo hi mx:Option Operand}{p:Opd}{lo' hi' mx':Option Opd}{t e:TypeId}{z:Nat}{d:Nat}(ho:o.op=.slice t x lo hi mx)(ht:P.underlying t=some (.slice e))(hz:sizeT P e=some z)
 (hx:opd F x=some p) (h1:opdO F lo=some lo') (h2:opdO F hi=some hi') (h3:opdO F mx=some mx') (hmh:¬(mx'.isSome=true/\hi'.isNone=true)) (hd:d<F.N) (hdv:d∉F.sv) {y:V} {tm1:Nat->V}
 (hy:slV S e z p lo' hi' mx'=some (y,tm1)):QEnds P F g w S a o d y tm1:=by
 have hok:=y5_ h hx
 unfold slV at hy
 split at hy
 .cases hy
 next hz1 =>
 have hz0:0<z:=by omega
 generalize hlk:z7_ S p=lk at *
 split at hy
 .simp only[zza_]at hy
  obtain⟨l,e1,hh,e2,m,e3,hy⟩:=hy
  split at hy
  .next hc =>
   obtain⟨rfl,rfl,rfl⟩:=hc
   cases hy
   have hv:=hok.rep.of_s rfl
   obtain⟨m',r1,r2,r3,r4⟩:=x7_ (P:=P) h h1 h2 h3 hmh e1 e2 e3 (zzl_ _) (zzl_ _) (zzl_ _) (zzl_ 0)
   have hm0:m'=0:=by omega
   subst hm0
   have hr:=vX_ ho ht hz hv r1
   simp at hr
   exact q_s h hd hdv rfl hr
  .cases hy
 .next z' xs =>
  simp only[zza_]at hy
  obtain⟨l,e1,hh,e2,m,e3,hy⟩:=hy
  split at hy
  .next hc =>
   obtain⟨rfl,b1,b2,b3⟩:=hc
   obtain⟨A,c,vals,hv,c1,c2,c3,_⟩:=hok.rep.reads_list
   obtain⟨m',r1,r2,r3,r4⟩:=x7_ (P:=P) h h1 h2 h3 hmh e1 e2 e3 b1 b2 b3 c1
   have hr:=vX_ ho ht hz hv r1
   split at hy
   .next hm =>
    obtain⟨hs,hlm⟩:=hm
    cases hy
    have:=r4 hs
    subst this
    subst hlm
    refine⟨_,w,hr,?_⟩
    have hhl:hh=l:=by omega
    subst hhl
    simp only[if_true,Nat.sub_self]
    exact xM_ h hd hdv _ _ _
   .cases hy
    refine⟨_,w,hr,zl_ h hd hdv (hok.rep.sub_list hv b1 (by omega) r2 r3) rfl (fun b o he=>by cases he) (zzn_ _) trivial⟩
  .cases hy
 .next e' z' xs =>
  split at hy
  .next t' =>
   simp only[zza_]at hy
   obtain⟨l,e1,hh,e2,hy⟩:=hy
   split at hy
   .next hc =>
    obtain⟨rfl,b1,b2,b3⟩:=hc
    cases hy
    obtain⟨rfl,ht'⟩:=xo_ hx
    simp only[z7_]at hlk
    obtain⟨g1,k1,k2,k3⟩:=yN_ h ht' (qE_ h hlk) hlk
    have hr1:=k1.rep (.t t') _ _ ⟨rfl,rfl⟩
    simp only[zm_]at hr1
    obtain⟨A,c,vals,hv,c1,c2,c3,_⟩:=hr1.reads_list
    have hmx:mx'=none:=by cases mx'<;>simp at b3 ⊢
    subst hmx
    obtain⟨m',r1,r2,r3,r4⟩:=x7_ (P:=P) h h1 h2 h3 hmh e1 e2 (show zo_ S xs.length none=some xs.length from rfl) b1 b2 (zzl_ _) c1
    refine⟨_,w,vX_ ho ht hz hv r1,Ends.of k2 k3 (zzl_ _) (zl_ k1 hd hdv (hr1.sub_list hv b1 b2 r2 r3) rfl (fun b o he=>by cases he) (zzn_ _) trivial)⟩
   .cases hy
  .cases hy
 .next e' z' xs =>
  split at hy
  .next hff =>
   simp only[zza_]at hy
   obtain⟨l,e1,hh,e2,m,e3,hy⟩:=hy
   split at hy
   .next hc =>
    obtain⟨rfl,b1,b2,b3⟩:=hc
    have hrl:Rep g w (.list z' xs) (a.eval x):=by have hrep:=hok.rep;cases hrep with|ownf h _=>exact h
    have hbase:∀b q N c,a.eval x=.slice (some ⟨b,q,none⟩) N c->xs≠[]->q=0:=by have hrep:=hok.rep;cases hrep with|ownf _ h0=>exact h0
    obtain⟨A,c,vals,hv,c1,c2,c3,c4,c5,c6,c7⟩:=hrl.reads_list
    obtain⟨m',r1,r2,r3,r4⟩:=x7_ (P:=P) h h1 h2 h3 hmh e1 e2 e3 b1 b2 b3 c1
    have hr:=vX_ ho ht hz hv r1
    split at hy
    .next hm =>
     obtain⟨hs,hlm⟩:=hm
     cases hy
     have:=r4 hs
     subst this
     subst hlm
     refine⟨_,w,hr,?_⟩
     have hhl:hh=l:=by omega
     subst hhl
     simp only[if_true,Nat.sub_self]
     exact xM_ h hd hdv _ _ _
    .next hnm =>
     have hsub:=hrl.sub_list hv b1 (by omega) r2 r3
     split at hy
     .next hm =>
      obtain⟨hs,hhm,hl0⟩:=hm
      cases hy
      subst hl0
      subst hhm
      have:=r4 hs
      subst this
      refine⟨_,w,hr,zl_ h hd hdv (.ownf (by simpa using hsub) (fun b q N c' hve hne=>?_) (fun _ A' N' c' hve=>?_)) rfl (fun b o he=>by cases he) (zzn_ _) trivial⟩
      .have hxs:xs≠[]:=fun e=>by subst e;simp at hne
       have hne0:¬m'=0:=fun e=>by subst e;simp at hne
       simp only[Value.slice.injEq]at hve
       rw[if_neg hne0]at hve
       cases A with
       |none=>simp at hve
       | some ad =>
         simp only[Nat.zero_mul,zzz_,yya_]at hve
         obtain⟨bb,qq,ee,_⟩:=c6 0 (by
          have:=zd_ c4
          have hp:0<xs.length:=List.length_pos_iff.2 hxs
          have:=Nat.mul_pos hp hz0
          omega)
         cases ee
         have hq0:=hbase _ _ _ _ hv hxs
         subst hq0
         have:=hve.1
         rw[zJ_]at this
         injection this with _ h2
         omega
      .simp only[Value.slice.injEq]at hve
       omega
     .cases hy
      exact⟨_,w,hr,zl_ h hd hdv hsub rfl (fun b o he=>by cases he) (zzn_ _) trivial⟩
   .cases hy
  .cases hy
 .next l0 e0 =>
  split at hy
  .next hee =>
   split at hy
   .next z' xs hrow =>
    simp only[zza_]at hy
    obtain⟨l,e1,hh,e2,m,e3,hy⟩:=hy
    split at hy
    .next hc =>
     obtain⟨rfl,b1,b2,b3⟩:=hc
     obtain⟨vl,v1,A,c,vals,hv,c1,c2,c3,c4,c5,c6,c7⟩:=xD_ h hrow
     have hv':=(hok.link hee).2 _ _ hrow
     rw[v1]at hv'
     injection hv' with hv'
     rw[hv]at hv'
     obtain⟨m',r1,r2,r3,r4⟩:=x7_ (P:=P) h h1 h2 h3 hmh e1 e2 e3 b1 b2 b3 c1
     have hr:=vX_ ho ht hz hv'.symm r1
     split at hy
     .next hm =>
      obtain⟨hs,hlm⟩:=hm
      cases hy
      have:=r4 hs
      subst this
      subst hlm
      refine⟨_,w,hr,?_⟩
      have hhl:hh=l:=by omega
      subst hhl
      simp only[if_true,Nat.sub_self]
      exact xM_ h hd hdv _ _ _
     .cases hy
      refine⟨_,w,hr,zl_ h hd hdv .sview rfl (fun b o he=>by cases he) hok.ep (fun _=>⟨(hok.link hee).1,fun z1 xs1 hr1=>?_⟩)⟩
      rw[hrow]at hr1
      cases hr1
      refine⟨vl,v1,?_⟩
      rw[hv]
      refine nb_ c3 (fun j hj=>?_) hz0 b1 (by omega) r2 r3 c2
      rw[<-zd_ c4]at hj
      obtain⟨b,q,f1,_⟩:=c6 j hj
      exact⟨b,q,f1⟩
    .cases hy
   .cases hy
  .cases hy
 .next l0 e0 lo0 n =>
  split at hy
  .next hee =>
   split at hy
   .next z' xs hrow =>
    simp only[zza_]at hy
    obtain⟨l,e1,hh,e2,hy⟩:=hy
    split at hy
    .next hc =>
     obtain⟨rfl,b1,b2,b3,b4⟩:=hc
     cases hy
     obtain⟨vl,v1,A,c,hv,c1,c2,c3,c4⟩:=(hok.link hee).2 _ _ hrow
     have hmx:mx'=none:=by cases mx'<;>simp at b4 ⊢
     subst hmx
     obtain⟨m',r1,r2,r3,r4⟩:=x7_ (P:=P) h h1 h2 h3 hmh e1 e2 (show zo_ S n none=some n from rfl) b1 b2 (zzl_ _) c1
     refine⟨_,w,vX_ ho ht hz hv r1,zl_ h hd hdv .sview rfl (fun b o he=>by cases he) hok.ep (fun _=>⟨(hok.link hee).1,fun z1 xs1 hr1=>?_⟩)⟩
     rw[hrow]at hr1
     cases hr1
     refine⟨vl,v1,_,_,rfl,by omega,by omega,fun hn=>?_,fun hp=>?_⟩
     .split at hn
      .omega
      .cases A with
       |none=>have:=c3 rfl;omega
       |some ad=>cases hn
     .obtain⟨b,q,N',cap',f1,f2⟩:=c4 (by omega)
      refine⟨b,q,N',cap',f1,?_⟩
      rw[if_neg (by omega),f2,zzz_,zJ_,yyn_]
      congr 2
      omega
    .cases hy
   .cases hy
  .cases hy
 .cases hy
theorem l6_(h:Rel F g w S a){o:Oper}{x:Operand}{lo hi:Option Operand}{p:Opd}{lo' hi':Option Opd}{t:TypeId}{d:Nat}(ho:o.op=.slice t x lo hi none)(ht:P.underlying t=some .string)
 (hx:opd F x=some p) (h1:opdO F lo=some lo') (h2:opdO F hi=some hi') (hd:d<F.N) (hdv:d∉F.sv) {y:V} (hy:sslV S p lo' hi'=some y):QEnds P F g w S a o d y S.tm:=by
 unfold sslV at hy
 split at hy
 .next s hs =>
  simp only[zza_]at hy
  obtain⟨l,e1,hh,e2,hy⟩:=hy
  split at hy
  .next hc =>
   cases hy
   obtain⟨ev,_⟩:=yA_ h hx hs
   have q1:(lo.map a.eval=none/\l=0)\/∃k,lo.map a.eval=some (.int k l):=by
    rcases yP_ h h1 e1 with ⟨rfl,_,e⟩|⟨x,k,rfl,_,e⟩
    .exact .inl ⟨rfl,e⟩
    .exact .inr ⟨k,by simp[e]⟩
   have q2:(hi.map a.eval=none/\hh=s.size/\(none:Option Value)=none)\/∃k,hi.map a.eval=some (.int k hh):=by
    rcases yP_ h h2 e2 with ⟨rfl,_,e⟩|⟨x,k,rfl,_,e⟩
    .exact .inl ⟨rfl,e,rfl⟩
    .exact .inr ⟨k,by simp[e]⟩
   have hb:=wF_ (P:=P) (cap:=s.size) q1 q2 (.inl ⟨rfl,rfl⟩) hc.1 hc.2 (zzl_ _) false w
   refine q_s h hd hdv rfl ?_
   simp[execOp,ho,ev,Instr.sliceAt,Instr.slice,run_underlying ht,hb]
  .cases hy
 .cases hy
theorem mg_(h:Rel F g w S a){o:Oper}{x:Operand}{p:Opd}{t e:TypeId}{d:Nat}(ho:o.op=.call { callee:=.builtin .len,args:=#[x],argTypes:=#[t] })(ht:P.underlying t=some (.slice e))(hx:opd F x=some p)(hd:d<F.N)(hdv:d∉F.sv)
 {r:Nat×List V} (hn:cont S (z7_ S p)=some r):QEnds P F g w S a o d (.s (.int .i64 r.2.length)) (lenT S p):=by
 have hq:=mh_ h ho ht hx hd hdv hn
 cases p with
 | t t' =>
   cases hlk:S.tm t' with
   | own m e' z xs =>
     cases m with
     | true =>
       have hr:r=(z,xs):=by simp[z7_,hlk,cont]at hn;exact hn.symm
       subst hr
       obtain⟨rfl,ht'⟩:=xo_ hx
       obtain⟨g1,h1,h2,h3⟩:=yN_ h ht' (qE_ h hlk) hlk
       obtain⟨v,w',q1,q2⟩:=mh_ (r:=(z,xs)) h1 ho ht hx hd hdv (by simp[z7_,zm_,cont])
       refine⟨v,w',q1,?_⟩
       have e:lenT S (.t t')=upd S.tm t' (.list z xs):=by simp[lenT,hlk]
       rw[e]
       exact Ends.of h2 h3 (zzl_ _) q2
     | false =>
       have e:lenT S (.t t')=S.tm:=by simp[lenT,hlk]
       rw[e];exact hq
   | _ =>
     have e:lenT S (.t t')=S.tm:=by simp[lenT,hlk]
     rw[e];exact hq
 |_=>exact hq
end
end
section
section
variable{P:Program}{F:Fr}{g:Gh}{w:World}{S:St}{a:Act}
theorem rj_(p q:List Nat)(x:V):x.sub (p++q)=(x.sub p).bind (V.sub q):=by
 induction p generalizing x with
 |nil=>simp[V.sub]
 | cons i p ih =>
   cases x<;>simp only[List.cons_append,V.sub,Option.bind_none]<;>rw[Option.bind_assoc]<;>exact congrArg _ (funext ih)
theorem tV_(p q:List Nat)(v:Value):vsub (p++q) v=(vsub p v).bind (vsub q):=by
 induction p generalizing v with
 |nil=>simp[vsub]
 | cons i p ih =>
   cases v<;>simp only[List.cons_append,vsub,Option.bind_none]<;>rw[Option.bind_assoc]<;>exact congrArg _ (funext ih)
theorem tF_(h:Rel F g w S a){d t:Nat}(hd:d<F.N)(hdv:d∉F.sv){tm1:Nat->V}(hless:∀u,Less (tm1 u) (S.tm u))(htv:∀u∈F.sv,tm1 u=S.tm u){q:List Nat}{y:V}{v:Value}
 (hy:(S.tm t).sub q=some y) (hv:vsub q (Act.tv a t)=some v) (hr:Rep g w y v)
 (hst:∀p e z xs,(tm1 t).sub (q++p)≠some (.own true e z xs)) (hno:y≠.no):Ends F g w S a { S with tm:=upd tm1 d y } (a.put (some d) v) w:=by
 have hs:∀p x,y.sub p=some x->(S.tm t).sub (q++p)=some x:=fun p x hx=>by rw[rj_,hy];exact hx
 have hvs:∀p u,vsub p v=some u->vsub (q++p) (Act.tv a t)=some u:=fun p u hu=>by rw[tV_,hv];exact hu
 have ho:∀p k,zD_ y v p k->Own F g w S a (.t t) (q++p) k:=fun p k ⟨e,z,xs,u,q1,q2,q3⟩=>⟨_,_,⟨rfl,rfl⟩,.inl ⟨e,z,xs,u,hs p _ q1,hvs p _ q2,q3⟩⟩
 have hnl:∀p d e0 e z xs,y.sub p≠some (.lent d e0 e z xs):=fun p d e0 e z xs hx=>h.notl t (q++p) d e0 e z xs (hs p _ hx)
 refine⟨g,h.put hless htv hd hdv hr hno (fun p b o hx=>h.ptr (.t t) _ _ (q++p) b o ⟨rfl,rfl⟩ (hs p _ hx)) hnl (fun p x hx=>h.ept t (q++p) x (hs p _ hx)) (fun p x u hx hu=>h.link t (q++p) x u (hs p _ hx) (hvs p _ hu)) (fun p k q1=>?_) (fun p p' k q1 q2=>?_) (fun p k m ⟨e2,z2,xs2,u2,q1,q2,q3,q4⟩ l d e z xs v' h1 h2 h3=>?_),
  ⟨rfl,rfl,rfl,zzl_ _,fun _ _ _=>⟨rfl,rfl⟩,fun k hk=>.inl ?_⟩,fun _ _=>rfl⟩
 .obtain⟨k1,k2,k3⟩:=h.ownI _ _ _ (ho p k q1)
  refine⟨k1,k2,k3,fun r p' hr ho'=>?_⟩
  obtain⟨rfl,rfl⟩:=h.uniq _ _ _ _ _ (zf_ hless h.notl ho') (ho p k q1)
  obtain⟨x,v,⟨rfl,rfl⟩,ho'⟩:=ho'
  rcases ho' with ⟨e,z,xs,_,q,_⟩|⟨_,q,_⟩
  .exact hst _ e z xs q
  .obtain⟨d',e,z,xs,h1,_⟩:=z4_ q
   have h1':tm1 t=_:=h1
   exact absurd ((hless t).sub_of (p:=[]) (by rw[h1'];rfl) rfl (by simp)) (h.notl t [] d' _ e z xs)
 .exact List.append_cancel_left (h.uniq _ _ _ _ _ (ho p k q1) (ho p' k q2)).2
 .exact h.lentl l d e z xs v' k h1 h2 h3 (.t t) (q++p) m ⟨_,_,⟨rfl,rfl⟩,.inl ⟨e2,z2,xs2,u2,hs p _ q1,hvs p _ q2,q3,q4⟩⟩
 .rcases hk with ⟨r,p,hk⟩|hk
  .rcases xm_ h hless hd hdv hno hnl hk with ⟨_,q⟩|q
   .exact .inl ⟨_,_,ho _ _ q⟩
   .exact .inl ⟨r,p,q⟩
  .exact .inr hk
theorem rH_{y:V}{v:Value}(hr:Rep g w y v)(ht:∀vs,y≠.tup vs)(hn:yb_ y=false):∀p e z xs,y.sub p≠some (.own true e z xs):=by
 intro p e z xs hs
 cases y with
 | agg cs =>
   cases p with
   |nil=>simp[V.sub]at hs
   | cons i p =>
     simp only[V.sub,zza_]at hs
     obtain⟨u,hj,hs⟩:=hs
     cases hr with
     | agg hl h1 h =>
       rename_i vs
       have hi:i<vs.size:=by rw[<-hl];exact(zzc_.1 hj).1
       have hlf:=(h i u vs[i] hj (by simp[hi])).leaf_one (h1 _ (by simp))
       cases p with
       | nil =>
         simp[V.sub]at hs
         subst hs
         have:cs.any y2_=true:=List.any_eq_true.2 ⟨_,zzd_ hj,rfl⟩
         simp only[yb_]at hn
         rw[this]at hn
         cases hn
       |cons j p=>exact zV_ hlf hs
 |tup vs=>exact ht vs rfl
 | own m e' z' xs' =>
   cases p with
   |nil=>simp[V.sub]at hs;obtain⟨rfl,_⟩:=hs;simp[yb_]at hn
   |cons i p=>simp[V.sub]at hs
 |_=>cases p<;>simp[V.sub]at hs
theorem ob_{vs:List V}{i:Nat}{y:V}(hi:vs[i]?=some y):Less (.tup (vs.set i (spent y))) (.tup vs):=by
 have hil:=(zzc_.1 hi).1
 refine⟨fun g w v h=>?_,fun p x hs hl=>?_,fun h=>by cases h⟩
 .cases h with
  | tup hl h =>
    refine .tup (by simpa using hl) (fun j u c hu hc=>?_)
    rw[List.getElem?_set]at hu
    split at hu
    .next e =>
     subst e
     injection hu with hu
     subst hu
     exact(Less.spent y).rep g w c (h i y c hi hc)
    .exact h j u c hu hc
 .cases p with
  |nil=>simp[V.sub]at hs;subst hs;simp[leaf]at hl
  | cons j p =>
    simp only[V.sub,zza_]at hs ⊢
    obtain⟨u,h1,h2⟩:=hs
    rw[List.getElem?_set]at h1
    split at h1
    .next e =>
     subst e
     injection h1 with h1
     subst h1
     rcases(Less.spent y).sub p x h2 hl with q|q
     .exact .inl q
     .exact .inr ⟨y,hi,q⟩
    .exact .inr ⟨u,h1,h2⟩
theorem lf_(h:Rel F g w S a){o:Oper}{t i:Nat}{d:Nat}(ho:o.op=.extract (.tmp t) i)(ht:t∉F.sv)(hd:d<F.N)(hdv:d∉F.sv){vs:List V}{y:V}(hx:S.tm t=.tup vs)(hi:vs[i]?=some y)(hk:y1_ y=true)(hnt:p0_ y=false) :
 QEnds P F g w S a o d y (if yb_ y then upd S.tm t (.tup (vs.set i (spent y))) else S.tm):=by
 have hr:=h.rep (.t t) _ _ ⟨rfl,rfl⟩
 rw[hx]at hr
 generalize hv:Act.tv a t=vt at hr
 cases hr with
 | tup hl hrep =>
   rename_i cs
   have hil:i<cs.size:=by rw[<-hl];exact(zzc_.1 hi).1
   have hri:=hrep i y cs[i] hi (by simp[hil])
   have hev:a.eval (.tmp t)=.tuple cs:=hv
   refine⟨cs[i],w,by simp[execOp,ho,hev,Instr.extract,hil],?_⟩
   have hno:y≠.no:=fun e=>by subst e;simp[y1_]at hk
   have hsub:(S.tm t).sub [i]=some y:=by rw[hx];simp[V.sub,hi]
   have hvs:vsub [i] (Act.tv a t)=some cs[i]:=by rw[hv];simp[vsub,hil]
   have hil':=(zzc_.1 hi).1
   .have hto':∀vs',y≠.tup vs':=fun vs' e=>by subst e;simp[p0_]at hnt
    split
    .refine tF_ h hd hdv (q:=[i]) (fun u=>?_) (vd_ ht) hsub hvs hri (fun p e z xs hs=>?_) hno
     .by_cases he:u=t
      .subst he;rw[zm_,hx];exact ob_ hi
      .rw[y9_ _ _ he];exact Less.refl _
     .rw[zm_]at hs
      simp only[List.singleton_append,V.sub,List.getElem?_set_self hil',zzt_]at hs
      exact uX_ hri p e z xs hs
    .next hn =>
     refine tF_ h hd hdv (q:=[i]) (fun u=>Less.refl _) (fun _ _=>rfl) hsub hvs hri (fun p e z xs hs=>?_) hno
     rw[hx]at hs
     simp only[List.singleton_append,V.sub,hi,zzt_]at hs
     exact rH_ hri hto' (by simpa using hn) p e z xs hs
theorem Rel.alloc(h:Rel F g w S a)(o:Obj):Rel F g (w.alloc o) S a:=by
 have hb:∀k,k<w.heap.size->(w.alloc o).heap[k]?=w.heap[k]?:=fun k hk=>Below.heap_alloc w o k hk
 have hI:∀b q,q<g.I b->q<g.I b/\(w.alloc o).cell? ⟨b,q,none⟩=w.cell? ⟨b,q,none⟩:=fun b q hq=>⟨hq,yyb_ (a:=⟨b,q,none⟩) (hb b (h.Ilt b (by omega)))⟩
 have hrl:∀ {e z:Nat} {xs:List V} {v:Value},Rep g w (.own true e z xs) v->Rep g (w.alloc o) (.own true e z xs) v:=by
  intro e z xs v hr
  refine hr.keep hI (fun p k ho=>hb k ?_) (fun _ _ _ _=>rfl)
  obtain⟨e',z',xs',u,q1,q2,q3⟩:=ho
  cases p with
  |cons i p=>simp[V.sub]at q1
  | nil =>
    simp[vsub]at q2
    subst q2
    cases hr with
    | own vals h0 hc hm hh hs hz hi hcell hrep =>
      simp only[rb]at q3
      split at q3
      .cases q3
      .cases q3;exact(zzm_.1 hh).1
    |own0=>rename_i A;cases A<;>simp[rb]at q3
 refine h.grow hI (fun _ _=>rfl) (fun b hb'=>⟨?_,?_⟩) (fun r p k ho=>⟨hb k (h.ownI r p k ho).2.1,(h.ownI r p k ho).1⟩) (fun l d e z xs v hl hv=>hrl (h.lentr l d e z xs v hl hv).1) (by simp) (fun k hk=>by have:=h.Ilt k hk;simp;omega)
 .cases hcs:S.bx[b]? with
  |none=>have:=List.getElem?_eq_none_iff.1 hcs;omega
  |some cs=>obtain⟨vs,ty,q1,_⟩:=h.box b cs hcs;exact hb _ (zzm_.1 q1).1
 .cases hcs:S.bx[b]? with
  |none=>have:=List.getElem?_eq_none_iff.1 hcs;omega
  |some cs=>obtain⟨_,_,_,_,q⟩:=h.box b cs hcs;exact q
theorem wn_(h:Rel F g w S a){o:Obj}{r:Root}{p:List Nat}{k:Nat}(ho:Own F g (w.alloc o) S a r p k):Own F g w S a r p k:=by
 obtain⟨x,v,hh,ho⟩:=ho
 refine⟨x,v,?_,ho⟩
 cases r with
 |t t=>exact hh
 | l l =>
   refine⟨hh.1,?_⟩
   rw[<-hh.2]
   refine(y3_ hh.1 (fun _ _=>rfl) (fun b hb=>?_)).symm
   cases hcs:S.bx[b]? with
   |none=>have:=List.getElem?_eq_none_iff.1 hcs;omega
   |some cs=>obtain⟨vs,ty,q1,_⟩:=h.box b cs hcs;exact Below.heap_alloc w o _ (zzm_.1 q1).1
theorem sY_(h:Rel F g w S a)(o:Obj):Fw F g w S a g (w.alloc o) S a :=
 ⟨rfl,rfl,rfl,by simp,fun k hk _=>⟨Below.heap_alloc w o k hk,rfl⟩,fun k ho=>.inl (by
  rcases ho with ⟨r,p,ho⟩|ho
  .exact .inl ⟨r,p,wn_ h ho⟩
  .exact .inr ho)⟩
theorem r4_(h:Rel F g w S a){tm1:Nat->V}(hless:∀t,Less (tm1 t) (S.tm t))(htv:∀t∈F.sv,tm1 t=S.tm t){d:Nat}(hd:d<F.N)(hdv:d∉F.sv){e z:Nat}{xs:List V}{cs:Array Value}{cap:Nat}
 (hy:Rep g (w.alloc (.cells cs e)) (.own true e z xs) (.slice (some ⟨w.heap.size,0,none⟩) xs.length cap)) :
 Ends F g w S a { S with tm:=upd tm1 d (.own true e z xs) } (a.put (some d) (.slice (some ⟨w.heap.size,0,none⟩) xs.length cap)) (w.alloc (.cells cs e)):=by
 have h1:=h.alloc (.cells cs e)
 have hkk:∀k,rb (.slice (some ⟨w.heap.size,0,none⟩) xs.length cap)=some k->k=w.heap.size:=by
  intro k hk
  simp only[rb]at hk
  split at hk
  .cases hk
  .cases hk;rfl
 obtain⟨h2,h3⟩:=uo_ h1 hless htv hd hdv hy (fun k hk=>by
  have:=hkk k hk
  subst this
  refine⟨?_,by simp,fun b hb e=>?_,fun r p' _ ho=>?_,fun l d e' z' xs' v' hl hv' hk'=>?_⟩
  .rcases yyo_ (g.I w.heap.size) with q|q
   .exact q
   .have:=h.Ilt _ q;omega
  .cases hcs:S.bx[b]? with
   |none=>have:=List.getElem?_eq_none_iff.1 hcs;omega
   |some cs=>obtain⟨vs,ty,q1,_⟩:=h.box b cs hcs;have:=(zzm_.1 q1).1;omega
  .have:=(h.ownI r p' _ (wn_ h (zf_ hless h.notl ho))).2.1
   omega
  ·have hl0:z8_ F g (w.alloc (.cells cs e)) a l=z8_ F g w a l:=y3_ hl (fun _ _=>rfl) (fun b hb=>by
    cases hcs:S.bx[b]? with
    |none=>have:=List.getElem?_eq_none_iff.1 hcs;omega
    |some cs'=>obtain⟨vs,ty,q1,_⟩:=h.box b cs' hcs;exact Below.heap_alloc w _ _ (zzm_.1 q1).1)
   rw[hl0]at hv'
   have hr:=(h.lentr l d e' z' xs' v' hl hv').1
   cases hr with
   | own vals h0 hc hm hh hs hz hi hcell hrep =>
     simp only[rb]at hk'
     split at hk'
     .cases hk'
     .cases hk';have:=(zzm_.1 hh).1;omega
   |own0=>rename_i A;cases A<;>simp[rb]at hk')
 refine⟨g,h2,⟨rfl,rfl,rfl,by simp,fun k hk _=>⟨Below.heap_alloc w _ k hk,rfl⟩,fun k ho=>?_⟩,fun _ _=>rfl⟩
 rcases h3 k ho with q|q
 .rcases q with ⟨r,p,q⟩|q
  .exact .inl (.inl ⟨r,p,wn_ h q⟩)
  .exact .inl (.inr q)
 .exact .inr (by have:=hkk k q;omega)
end
end
section
section
variable{P:Program}{F:Fr}{g:Gh}{w:World}{S:St}{a:Act}
theorem yn_{t:TypeId}{z:Value}(h:wX_ P t=some z):∃i,P.info? t=some i/\i.zero=some z/\z.cells.size=i.size/\∀c∈z.cells.toList,c.oneCell'=true:=by
 unfold wX_ at h
 simp only[zza_]at h
 obtain⟨i,h1,z',h2,h3⟩:=h
 split at h3
 .next hc =>
  injection h3 with h3
  subst h3
  obtain⟨hs,ha⟩:=hc
  refine⟨i,h1,h2,hs,fun c hc=>?_⟩
  rw[Array.all_eq_true']at ha
  exact ha c (by simpa using hc)
 .cases h3
theorem wv_(z:Value):cellsOf (ofC z)=z.cells.toList.map .s:=by
 cases z<;>simp[ofC,cellsOf,Value.cells]
theorem uu_(z:Array Value)(n j:Nat)(hj:j<n)(hz:0<z.size):(madeCells z n)[j]?=some (z[j%z.size]'(Nat.mod_lt _ hz)):=by
 have:j%z.size<z.size:=Nat.mod_lt _ hz
 simp[madeCells,hj,this]
theorem pM_{n m:Nat}{e k:Nat}{z:Value}{w:World}(hz:0<z.cells.size)(h1:∀c∈z.cells.toList,c.oneCell'=true)(hnm:n<=m)(hn:m<=maxLen)(hn0:0<m)(hh:w.heap[k]?=some (.cells (madeCells z.cells (m*z.cells.size)) e (0,0))) :
 Rep g w (.own true e z.cells.size (List.replicate n (ofC z))) (.slice (some ⟨k,0,none⟩) n m):=by
 have hzs:∀x∈List.replicate n (ofC z),(cellsOf x).length=z.cells.size:=by
  intro x hx
  rw[List.eq_of_mem_replicate hx,wv_]
  simp
 have hfl:=zd_ hzs
 simp only[List.length_replicate]at hfl
 have hget:∀j,j<n*z.cells.size->(flat (List.replicate n (ofC z)))[j]?=some (.s (z.cells[j%z.cells.size]'(Nat.mod_lt _ hz))):=by
  intro j hj
  have hq:j/z.cells.size<n:=Nat.div_lt_of_lt_mul (by rw[Nat.mul_comm];exact hj)
  have hx:(List.replicate n (ofC z))[j/z.cells.size]?=some (ofC z):=by simp[hq]
  have hm:j%z.cells.size<z.cells.size:=Nat.mod_lt _ hz
  have:=xU_ hzs hx hm
  rw[Nat.mul_comm,Nat.div_add_mod]at this
  rw[this,wv_]
  simp[hm]
 have key:Rep g w (.own true e z.cells.size (List.replicate n (ofC z))) (.slice (some ⟨k,0,none⟩) (List.replicate n (ofC z)).length m):=by
  have hmul:n*z.cells.size<=m*z.cells.size:=yyg_ _ hnm
  refine .own (fun j=>z.cells.getD (j%z.cells.size) undef) hn0 (by simpa using hnm) hn hh (by simp[madeCells]) hzs (fun u hu=>?_) (fun j hj=>?_) (fun j u hu=>?_)
  .obtain⟨j,hj,rfl⟩:=List.getElem_of_mem hu
   have:=hget j (by omega)
   rw[zzf_ hj]at this
   injection this with this
   rw[this];rfl
  .rw[uu_ _ _ _ (by omega) hz]
   simp[Nat.mod_lt _ hz]
  .have hj:j<n*z.cells.size:=by rw[<-hfl];exact(zzc_.1 hu).1
   rw[hget j hj]at hu
   injection hu with hu
   subst hu
   have hm:j%z.cells.size<z.cells.size:=Nat.mod_lt _ hz
   have:z.cells.getD (j%z.cells.size) undef=z.cells[j%z.cells.size]:=by simp[hm]
   rw[this]
   exact .s (h1 _ (by simp))
 simpa using key
theorem q_mk(h:Rel F g w S a){o:Oper}{t e:TypeId}{n c:Operand}{p q:Opd}{i:TypeInfo}{z:Value}{d:Nat}(ho:o.op=.makeSlice t n c)(ht:P.underlying t=some (.slice e))(hi:P.info? e=some i)(hz:wX_ P e=some z)
 (hn:opd F n=some p) (hc:opd F c=some q) (hd:d<F.N) (hdv:d∉F.sv) {y:V} (hy:mkV S e i.size i.bytes z p q=some y):QEnds P F g w S a o d y S.tm:=by
 obtain⟨i',hi',hz',hs,h1⟩:=yn_ hz
 rw[hi]at hi'
 cases hi'
 unfold mkV at hy
 split at hy
 .next A B hA hB =>
  split at hy
  .next hcond =>
   obtain⟨hAB,h0,hz0,hml,hby⟩:=hcond
   cases hy
   obtain⟨k1,e1⟩:=v5_ h hn hA
   obtain⟨k2,e2⟩:=v5_ h hc hB
   have h0B:0<=B:=Int.le_trans h0 hAB
   have h63:B<=9223372036854775807:=by simp only[maxLen]at hml;omega
   have hb':(i.bytes:Int)*B<=281474976710656:=by
    have:((B.toNat*i.bytes:Nat):Int)<=140737488355328:=by omega
    rw[Int.natCast_mul,Int.toNat_of_nonneg h0B,Int.mul_comm]at this
    omega
   have hr:=run_make (P:=P) w t e i z ht hi hz' k1 k2 A B h0 hAB hb' h63
   have hrun:(execOp a.eval o).run P w=.ok (.value (.slice (some ⟨w.heap.size,0,none⟩) A.toNat B.toNat)) (w.alloc (.cells (madeCells z.cells (B.toNat*i.size)) e)):=by
    simp[execOp,ho,e1,e2,hr]
   have hAB':A.toNat<=B.toNat:=by omega
   refine⟨_,_,hrun,?_⟩
   simp only[wW_]
   rcases yyo_ B.toNat with hz0'|hpos
   .have hzA:A.toNat=0:=by omega
    rw[hz0',hzA]
    simp only[List.replicate_zero]
    have ha:=h.alloc (.cells (madeCells z.cells (0*i.size)) e)
    exact Ends.of (sY_ h _) (fun _ _=>rfl) (zzl_ _) (xM_ ha hd hdv e i.size (some ⟨w.heap.size,0,none⟩))
   .rw[<-hs]at hz0 ⊢
    have hrep:=pM_ (g:=g) (e:=e) hz0 h1 hAB' hml hpos (heap_alloc_new w (.cells (madeCells z.cells (B.toNat*z.cells.size)) e))
    have key:=r4_ h (fun t=>Less.refl _) (fun _ _=>rfl) hd hdv (xs:=List.replicate A.toNat (ofC z)) (cap:=B.toNat) (by simpa using hrep)
    simpa using key
  .cases hy
 .cases hy
theorem t4_(t ty e:TypeId)(i:TypeInfo)(z:Value)(size bytes:Nat)(ht:P.underlying t=some (.slice e))(hi:P.info? e=some i)(hz:i.zero=some z)
 (hsize:i.size=size) (hby:i.bytes=bytes) (hzs:z.cells.size=size) (h16:bytes<=65536)
 (v:Value) (n:Nat) (xs:List Value) (hown:w.ownsRow 0 e size v n xs)
 (A:Addr) (m c:Nat) (news:List Value) (hl:news.length=m*size) (hnews:∀j u,news[j]?=some u->w.cell? (A.add j)=some u) (h1:∀u∈news,u.oneCell'=true)
 (h63:n+m<=maxLen) (hbytes:(n+m)*bytes<=140806207832064) :
 ∃ v' w', (Builtin.append_ #[t, t] ty #[v, .slice (some A) m c]).run P w = .ok v' w' ∧ w'.ownsRow 0 e size v' (n + m) (xs ++ news) ∧ w.grownBy w' v.ownBlock ∧ (∀ k, v'.ownBlock = some k → v.ownBlock = some k ∨ w.heap.size ≤ k) ∧
   (∀k,v.ownBlock=some k->w'.heap[k]?=w.heap[k]?\/∀cur,w.heap[k]?=some (.cells cur e (0,0))->∃cur',w'.heap[k]?=some (.cells cur' e (0,0))/\cur'.size=cur.size/\∀j,j<n*size->cur'[j]?=cur[j]?):=by
 subst hsize
 subst hby
 have hlen:(xs++news).length=(n+m)*i.size:=by rw[zzr_,hown.1,hl,yyn_]
 have h63':((n+m:Nat):Int)<=9223372036854775807:=by simp only[maxLen]at h63;omega
 have made:∀(old:Nat),old<n+m ->
  (w.drew.alloc (.cells (xs.toArray++news.toArray++Builtin.zeroCells z.cells (grownCap w (n+m) old e-(n+m))) e)).ownsRow 0 e i.size
   (.slice (some ⟨w.heap.size,0,none⟩) (n+m) (grownCap w (n+m) old e)) (n+m) (xs++news):=by
  intro old _
  refine⟨hlen,.inr ⟨w.heap.size,_,_,rfl,zzn_ _,heap_alloc_new w.drew _,grownCap_ge w (n+m) old e,grownCap_le_maxLen w (n+m) old e h63,?_,?_⟩⟩
  .have hge:=grownCap_ge w (n+m) old e
   simp only[Array.size_append,List.size_toArray,size_zeroCells,hzs]
   rw[hown.1,hl,<-Nat.add_mul,<-Nat.add_mul]
   congr 1
   omega
  .rw[<-hlen]
   simp only[Array.toList_append,zzq_]
   rw[<-List.append_assoc]
   exact List.take_left
 have grew:∀(o:Obj) (row:Option Nat),w.grownBy (w.drew.alloc o) row:=fun o row=>⟨rfl,rfl,rfl,by simp,fun k hk _=>Below.heap_alloc w.drew _ k hk⟩
 rcases hown.2 with ⟨rfl,rfl⟩|⟨g,cap,cur,rfl,hbg,hg,hnc,hcm,hcs,htake⟩
 .have hx:xs=[]:=yyj_ (by simpa using hown.1)
  subst hx
  rcases yyo_ m with hm|hm
  .subst hm
   have hn:news=[]:=yyj_ (by simpa using hl)
   subst hn
   refine⟨.slice none 0 0,w,?_,World.ownsRow_nil w 0 e i.size,⟨rfl,rfl,rfl,zzl_ _,fun _ _ _=>rfl⟩,fun k hk=>.inl hk,fun k hk=>.inl rfl⟩
   simp[Builtin.append_,run_underlying ht,sizeOf,typeInfo,hi,Builtin.lenOf,Builtin.firstCells,loadCells,loadCellsFrom]
  .have hr:=run_append_nil (P:=P) w t ty e i z ht hi hz A m c news hl hnews hm (by omega) (by have:=hbytes;simp only[Nat.zero_add]at this;omega)
   have hm':=made 0 (by omega)
   simp only[Nat.zero_add,List.nil_append,Array.empty_append]at hm' ⊢
   exact⟨_,_,hr,hm',grew _ _,fun k hk=>.inr (by simp[Value.ownBlock]at hk;omega),fun k hk=>by simp[Value.ownBlock]at hk⟩
 .have hglt:g<w.heap.size:=(zzm_.1 hg).1
  by_cases hroom:n+m<=cap
  .have hfit:n*i.size+news.length<=cur.size:=by rw[hl,hcs,<-Nat.add_mul];exact yyg_ _ hroom
   have hr:=run_append_room (P:=P) w t ty e i ht hi g n cap cur hg A m c news hl hnews h1 hroom hfit
   refine⟨_,_,hr,⟨hlen,.inr ⟨g,cap,_,rfl,hbg,setRow_heap w g cur _ e _ hg,hroom,hcm,?_,?_⟩⟩,⟨rfl,rfl,rfl,by simp,fun k _ hk=>setRow_other w g k _ (fun e=>hk (by simp[Value.ownBlock,e]))⟩,fun k hk=>.inl hk,fun k hk=>.inr (fun cur2 hc2=>?_)⟩
   .simp only[List.size_toArray,zzr_,List.length_take,List.length_drop,Array.length_toList]
    omega
   .rw[htake,<-hlen]
    exact List.take_left
   .simp only[Value.ownBlock,yya_]at hk
    subst hk
    rw[hg]at hc2
    cases hc2
    refine⟨_,setRow_heap w g cur _ e _ hg,?_,fun j hj=>?_⟩
    .simp only[List.size_toArray,zzr_,List.length_take,List.length_drop,Array.length_toList]
     omega
    .have hjc:j<cur.size:=by omega
     have:j<(cur.toList.take (n*i.size)).length:=by simp;omega
     simp only[List.getElem?_toArray,zzq_]
     rw[zzo_ this,zzu_,if_pos hj]
     simp
  .have hr:=run_append_grow (P:=P) w t ty e i z ht hi hz ⟨g,0,none⟩ n cap xs hown.1 (hown.cells (g:=g) rfl) A m c news hl hnews (by omega) h63' (wo_ (by omega) h16 hbytes)
   refine⟨_,_,hr,made cap (by omega),grew _ _,fun k hk=>.inr (by simp[Value.ownBlock]at hk;omega),fun k hk=>.inl ?_⟩
   simp only[Value.ownBlock,yya_]at hk
   subst hk
   exact Below.heap_alloc w.drew _ _ hglt
end
end
section
section
variable{P:Program}{F:Fr}{g:Gh}{w:World}{S:St}{a:Act}
theorem Rep.owns{e z:Nat}{xs:List V}{v:Value}(h:Rep g w (.own true e z xs) v) :
 (∃cells:List Value,w.ownsRow 0 e z v xs.length cells/\(∀(j:Nat) (u:V),(flat xs)[j]?=some u->∃c,cells[j]?=some c/\Rep g w u c)/\rb v=v.ownBlock)\/(xs=[]/\∃A,v=.slice A 0 0):=by
 cases h with
 | own vals h0 hc hm hh hs hz hi hcell hrep =>
   rename_i k cap cur
   have hfl:=zd_ hz
   have hle:xs.length*z<=cap*z:=yyg_ z hc
   refine .inl ⟨cur.toList.take (xs.length*z),⟨by simp;omega,.inr ⟨k,cap,cur,rfl,zzn_ _,hh,hc,hm,hs,rfl⟩⟩,fun j u hu=>?_,by simp[rb,Value.ownBlock];omega⟩
   have hj:j<xs.length*z:=by rw[<-hfl];exact(zzc_.1 hu).1
   refine⟨vals j,?_,hrep j u hu⟩
   rw[zzu_,if_pos hj]
   have:=hcell j (by omega)
   simpa using this
 |own0=>exact .inr ⟨rfl,_,rfl⟩
theorem Rep.of_owns{e z:Nat}{xs:List V}{v:Value}{cells:List Value}(h:w.ownsRow 0 e z v xs.length cells)(hz:∀x∈xs,(cellsOf x).length=z)(hi:∀u∈flat xs,immC u=true)(hr:∀(j:Nat) (u:V),(flat xs)[j]?=some u->∃c,cells[j]?=some c/\Rep g w u c):Rep g w (.own true e z xs) v:=by
 rcases h.2 with ⟨rfl,hn⟩|⟨k,cap,cur,hv,_,hg,hnc,hcm,hcs,ht⟩
 .have:xs=[]:=yyj_ hn
  subst this
  exact .own0
 .rcases yyo_ cap with h0|h0
  .subst h0
   have:xs=[]:=yyj_ (by omega)
   subst this
   rw[hv]
   exact .own0
  .rw[hv]
   have hfl:=zd_ hz
   refine .own (fun j=>cells.getD j undef) h0 hnc hcm hg hcs hz hi (fun j hj=>?_) (fun j u hu=>?_)
   .obtain⟨c,hc,_⟩:=hr j ((flat xs)[j]) (zzf_ hj)
    have:cells.getD j undef=c:=by simp[List.getD,hc]
    rw[this]
    rw[<-ht,zzu_]at hc
    split at hc
    .simpa using hc
    .cases hc
   .obtain⟨c,hc,hcr⟩:=hr j u hu
    have:cells.getD j undef=c:=by simp[List.getD,hc]
    rw[this]
    exact hcr
structure AppOk(g:Gh)(w:World)(e z n:Nat)(v:Value)(ys:List V)(v':Value)(w':World):Prop where
 rep:Rep g w' (.own true e z ys) v'
 os:w'.os=w.os
 tape:w'.tape=w.tape
 output:w'.output=w.output
 size:w.heap.size<=w'.heap.size
 block:∀k,k<w.heap.size->rb v≠some k->w'.heap[k]?=w.heap[k]?
 at_:∀k,rb v'=some k->rb v=some k\/w.heap.size<=k
 front:∀k,rb v=some k->w'.heap[k]?=w.heap[k]?\/∀cur,w.heap[k]?=some (.cells cur e (0,0))->∃cur',w'.heap[k]?=some (.cells cur' e (0,0))/\cur'.size=cur.size/\∀j,j<n*z->cur'[j]?=cur[j]?
theorem Reads.at{z:Nat}{xs:List V}{v:Value}(h:Reads g w z xs v):∃A c news,v=.slice A xs.length c/\news.length=xs.length*z/\At w A news/\(∀u∈news,u.oneCell'=true)/\(∀(j:Nat) (u:V),(flat xs)[j]?=some u->∃c,news[j]?=some c/\Rep g w u c):=by
 obtain⟨A,c,vals,h0,h1,h2,h3,h4,h5,h6,h7⟩:=h
 have hfl:=zd_ h4
 refine⟨A,c,(List.range (flat xs).length).map vals,h0,by simp[hfl],fun j u hj=>?_,fun u hu=>?_,fun j u hu=>?_⟩
 .rw[zzs_]at hj
  rcases yym_ j (flat xs).length with e|e
  .rw[List.getElem?_range e]at hj
   cases hj
   obtain⟨b,q,e1,e2⟩:=h6 j e
   have hb:b<w.heap.size:=by
    unfold World.cell? at e2
    cases hh:w.heap[b]? with
    |none=>simp[hh]at e2
    |some _=>exact(zzm_.1 hh).1
   exact⟨b,q,e1,hb,e2⟩
  .rw[List.getElem?_eq_none (by simpa using e)]at hj;cases hj
 .simp only[List.mem_map,List.mem_range]at hu
  obtain⟨j,hj,rfl⟩:=hu
  exact(h7 j _ (zzf_ hj)).one (h5 _ (yyp_ hj))
 .have hj:=(zzc_.1 hu).1
  exact⟨vals j,by simp[hj],h7 j u hu⟩
theorem pI_{t ty e:TypeId}{i:TypeInfo}{zv:Value}{z:Nat}(ht:P.underlying t=some (.slice e))(hi:P.info? e=some i)(hzv:i.zero=some zv)(hsz:i.size=z)(hzs:zv.cells.size=z)(hz0:0<z)(h16:i.bytes<=65536)
 {v u:Value} {xs ys:List V} {z':Nat} (hv:Rep g w (.own true e z xs) v) (hu:Reads g w z' ys u) (hzz:z'=z\/ys=[]) (h63:xs.length+ys.length<=maxLen) (hby:(xs.length+ys.length)*i.bytes<=y4_) (hI:∀k,rb v=some k->g.I k=0) (hlt:∀k,0<g.I k->k<w.heap.size)
 (hxz:∀x∈xs,(cellsOf x).length=z) (hxi:∀x∈flat xs,immC x=true) :
 ∃v' w',(Builtin.append_ #[t,t] ty #[v,u]).run P w=.ok v' w'/\AppOk g w e z xs.length v (xs++ys) v' w':=by
 have hu':Reads g w z ys u:=by
  rcases hzz with rfl|rfl
  .exact hu
  .obtain⟨A,c,vals,q1,q2,q3,q4,_,_,_,_⟩:=hu
   exact⟨A,c,vals,q1,q2,q3,q4,by simp,by simp[flat],fun j hj=>by simp[flat]at hj,fun j x hx=>by simp[flat]at hx⟩
 have hyz:∀x∈ys,(cellsOf x).length=z:=by obtain⟨_,_,_,_,_,_,_,q,_⟩:=hu';exact q
 have hyi:∀x∈flat ys,immC x=true:=by obtain⟨_,_,_,_,_,_,_,_,q,_⟩:=hu';exact q
 obtain⟨A,c,news,rfl,hl,hat,hone,hnr⟩:=hu'.at
 have hzall:∀x∈xs++ys,(cellsOf x).length=z:=fun x hx=>(zzw_.1 hx).elim (hxz x) (hyz x)
 have hiall:∀x∈flat (xs++ys),immC x=true:=fun x hx=>by rw[yT_]at hx;exact(zzw_.1 hx).elim (hxi x) (hyi x)
 have hflx:=zd_ hxz
 -- the elements stay
 have fin:∀(v':Value) (w':World) (cells:List Value),cells.length=xs.length*z->(∀(j:Nat) (x:V),(flat xs)[j]?=some x->∃c,cells[j]?=some c/\Rep g w x c)->w'.ownsRow 0 e z v' (xs.length+ys.length) (cells++news) ->
  (∀k,k<w.heap.size->rb v≠some k->w'.heap[k]?=w.heap[k]?)->Rep g w' (.own true e z (xs++ys)) v':=by
  intro v' w' cells hcl hcr ho hb
  have hk:∀ {x:V} {c:Value},immC x=true->Rep g w x c->Rep g w' x c:=by
   intro x c hx hr
   refine hr.keep (fun b q hq=>⟨hq,yyb_ (a:=⟨b,q,none⟩) (hb b (hlt b (by omega)) (fun e=>?_))⟩) (fun p k ho=>?_) (fun _ _ _ _=>rfl)
   .have:=hI b e;omega
   .obtain⟨e',z',xs',_,q1,_⟩:=ho
    cases p with
    |nil=>simp[V.sub]at q1;subst q1;simp[immC]at hx
    |cons i p=>cases x<;>simp[V.sub]at q1<;>simp[immC]at hx
  refine Rep.of_owns (by rw[zzr_];exact ho) hzall hiall (fun j x hx=>?_)
  have hxm:=hiall x (zzd_ hx)
  rw[yT_]at hx
  rcases yym_ j (flat xs).length with hj|hj
  .rw[zzo_ hj]at hx
   obtain⟨c,q1,q2⟩:=hcr j x hx
   exact⟨c,by rw[zzo_ (by omega)];exact q1,hk hxm q2⟩
  .rw[zzv_ hj]at hx
   obtain⟨c,q1,q2⟩:=hnr _ x hx
   exact⟨c,by rw[zzv_ (by omega),hcl,<-hflx];exact q1,hk hxm q2⟩
 subst hsz
 rcases hv.owns with ⟨cells,ho,hcr,hrb⟩|⟨rfl,A0,rfl⟩
 .cases A with
  | none =>
    have hn:=hat.none_nil
    subst hn
    have hys:ys.length=0:=by
     rcases yyo_ ys.length with q|q
     .exact q
     .have:=Nat.mul_pos q hz0;simp at hl;omega
    have hys':ys=[]:=yyj_ hys
    subst hys'
    refine⟨v,w,t5_ w 0 t ty e i i.size ht hi v _ cells ho c,?_,rfl,rfl,rfl,zzl_ _,fun _ _ _=>rfl,fun k hk=>.inl hk,fun k _=>.inl rfl⟩
    rw[List.append_nil]
    exact hv
  | some ad =>
    obtain⟨v',w',hrun,q1,q2,q3,q4⟩:=t4_ (P:=P) (w:=w) t ty e i zv i.size i.bytes ht hi hzv rfl rfl hzs h16 v _ cells ho ad ys.length c news hl hat.cells hone h63 (by simp only[y4_]at hby;exact hby)
    have hb:∀k,k<w.heap.size->rb v≠some k->w'.heap[k]?=w.heap[k]?:=fun k hk hn=>q2.block k hk (fun e=>hn (by rw[hrb];exact e.symm))
    refine⟨v',w',hrun,fin v' w' cells ho.1 hcr q1 hb,q2.os,q2.tape,q2.output,q2.size,hb,fun k hk=>?_,fun k hk=>q4 k (hrb ▸ hk)⟩
    rw[hrb]
    refine q3 k ?_
    cases v'<;>simp[rb]at hk
    rename_i A' _ _
    cases A'<;>simp at hk
    simp[Value.ownBlock,hk.2]
 .have hn0:rb (.slice A0 0 0)=none:=by cases A0<;>simp[rb]
  rcases yyo_ ys.length with hm|hm
  .have hys':ys=[]:=yyj_ hm
   subst hys'
   refine⟨_,w,t3_ w t ty e i ht hi A0 A 0 c,.own0,rfl,rfl,rfl,zzl_ _,fun _ _ _=>rfl,fun k hk=>.inl hk,fun k _=>.inl rfl⟩
  .cases A with
   | none =>
     have hn:=hat.none_nil
     subst hn
     have:=Nat.mul_pos hm hz0
     simp at hl
     omega
   | some ad =>
     have key:∃v' w',(Builtin.append_ #[t,t] ty #[.slice A0 0 0,.slice (some ad) ys.length c]).run P w=.ok v' w'/\w'.ownsRow 0 e i.size v' ys.length news/\w.grownBy w' none/\(∀k,v'.ownBlock=some k->w.heap.size<=k):=by
      cases A0 with
      | none =>
        obtain⟨v',w',hrun,q1,q2,q3⟩:=s5_ (P:=P) w 0 t ty e i zv i.size i.bytes ht hi hzv rfl rfl hzs h16 (.slice none 0 0) 0 [] (World.ownsRow_nil w 0 e i.size) ad ys.length c news hl hat.cells hone (by simpa using h63) (by simp only[y4_]at hby;simpa using hby) (zzn_ _)
        refine⟨v',w',hrun,by simpa using q1,q2,fun k hk=>?_⟩
        rcases q3 k hk with q|q
        .simp[Value.ownBlock]at q
        .exact q
      | some b0 =>
        obtain⟨v',w',hrun,q1,q2⟩:=t6_ (P:=P) w t ty e i zv i.size i.bytes ht hi hzv rfl rfl hzs h16 b0 0 0 [] (by simp) (fun j u hj=>by simp at hj) ad ys.length c news hl hat.cells (by omega) (by simpa using h63) (by simp only[y4_]at hby;simpa using hby)
        refine⟨v',w',hrun,o0_ (by simpa using q1) (zzn_ _),q2,fun k hk=>?_⟩
        exact(q1.lt k hk).1
     obtain⟨v',w',hrun,q1,q2,q3⟩:=key
     have hb:∀k,k<w.heap.size->rb (.slice A0 0 0)≠some k->w'.heap[k]?=w.heap[k]?:=fun k hk _=>q2.block k hk (by simp)
     refine⟨v',w',hrun,fin v' w' [] (by simp) (fun j x hx=>by simp[flat]at hx) (by simpa using q1) hb,q2.os,q2.tape,q2.output,q2.size,hb,fun k hk=>.inr (q3 k ?_),fun k hk=>by rw[hn0]at hk;cases hk⟩
     cases v'<;>simp[rb]at hk
     rename_i A' _ _
     cases A'<;>simp at hk
     simp[Value.ownBlock,hk.2]
end
end
section
section
variable{P:Program}{F:Fr}{g:Gh}{w w':World}{S:St}{a:Act}
theorem yL_{e z:Nat}{xs:List V}{v:Value}{k:Nat}(h:Rep g w (.own true e z xs) v)(hk:rb v=some k):k<w.heap.size:=by
 cases h with
 | own vals h0 hc hm hh hs hz hi hcell hrep =>
   simp only[rb]at hk
   split at hk
   .cases hk
   .cases hk;exact(zzm_.1 hh).1
 |own0=>rename_i A;cases A<;>simp[rb]at hk
theorem qF_{e z:Nat}{xs:List V}{v:Value}(h:Rep g w (.own true e z xs) v):(∀x∈xs,(cellsOf x).length=z)/\(∀x∈flat xs,immC x=true):=by
 cases h with
 |own vals h0 hc hm hh hs hz hi hcell hrep=>exact⟨hz,hi⟩
 |own0=>exact⟨by simp,by simp[flat]⟩
theorem zU_(h:Rel F g w S a){b:Nat}(hb:b<S.bx.length):g.φ b<w.heap.size/\g.I (g.φ b)=0:=by
 cases hcs:S.bx[b]? with
 |none=>have:=List.getElem?_eq_none_iff.1 hcs;omega
 |some cs=>obtain⟨vs,ty,q1,_,q3⟩:=h.box b cs hcs;exact⟨(zzm_.1 q1).1,q3⟩
theorem r6_(h:Rel F g w S a){tm1:Nat->V}(hless:∀t,Less (tm1 t) (S.tm t))(htv:∀t∈F.sv,tm1 t=S.tm t){d:Nat}(hd:d<F.N)(hdv:d∉F.sv){e z:Nat}{xs ys:List V}{v v':Value}(hv:Rep g w (.own true e z xs) v)
 (hfree:∀k,rb v=some k->wN_ F g w S a k/\g.I k=0/\(∀b,b<S.bx.length->g.φ b≠k)/\(∀r p,¬Own F g w { S with tm:=tm1 } a r p k) /\
  (∀l d e' z' xs' v',S.at l=some (.lent d S.ep e' z' xs')->z8_ F g w a l=some v'->rb v'=some k->xs'.length*z'<=xs.length*z))
 (hlen:xs.length*z<=ys.length*z) (ha:AppOk g w e z xs.length v ys v' w'):Ends F g w S a { S with tm:=upd tm1 d (.own true e z ys) } (a.put (some d) v') w':=by
 have h1:=h.less hless htv
 have hI:∀b o,o<g.I b->o<g.I b/\w'.cell? ⟨b,o,none⟩=w.cell? ⟨b,o,none⟩:=by
  intro b o ho
  refine⟨ho,yyb_ (a:=⟨b,o,none⟩) (ha.block b (h.Ilt b (by omega)) (fun e=>?_))⟩
  have:=(hfree b e).2.1
  omega
 have hat:∀l,({ S with tm:=tm1 }:St).at l=S.at l:=fun l=>by cases l<;>rfl
 have hlr:∀l d' e' z' xs' u,S.at l=some (.lent d' S.ep e' z' xs')->z8_ F g w a l=some u->Rep g w' (.own true e' z' xs') u:=by
  intro l d' e' z' xs' u hl hu
  have hr:=(h.lentr l d' e' z' xs' u hl hu).1
  by_cases hk:∃k,rb u=some k/\rb v=some k
  .obtain⟨k,hk1,hk2⟩:=hk
   rcases ha.front k hk2 with hf|hf
   ·exact hr.keep hI (fun p k' ⟨_,_,_,u',q1,q2,q3⟩=>by
     cases p with
     |cons i p=>simp[V.sub]at q1
     |nil=>simp[vsub]at q2;subst q2;rw[hk1]at q3;cases q3;exact hf) (fun _ _ _ _=>rfl)
   .have hle:=(hfree k hk2).2.2.2.2 l d' e' z' xs' u hl hu hk1
    cases hr with
    |own0=>exact .own0
    | own vals h0 hc hm hh hs hz hi hcell hrep =>
      rename_i k' cap cur
      have:k'=k:=by
       simp only[rb]at hk1
       split at hk1
       .cases hk1
       .cases hk1;rfl
      subst this
      have hfl:=zd_ hz
      -- the row's type
      have hee:∃cur0,w.heap[k']?=some (.cells cur0 e (0,0)):=by
       cases hv with
       |own0=>rename_i A;cases A<;>simp[rb]at hk2
       | own vals2 h02 hc2 hm2 hh2 hs2 hz2 hi2 hcell2 hrep2 =>
         simp only[rb]at hk2
         split at hk2
         .cases hk2
         .cases hk2;exact⟨_,hh2⟩
      obtain⟨cur0,hee⟩:=hee
      rw[hh]at hee
      cases hee
      obtain⟨cur',c1,c2,c3⟩:=hf cur hh
      refine .own vals h0 hc hm c1 (by rw[c2];exact hs) hz hi (fun j hj=>by rw[c3 j (by omega)];exact hcell j hj) (fun j x hx=>?_)
      have hxm:=hi x (zzd_ hx)
      refine(hrep j x hx).keep hI (fun p k ho=>?_) (fun _ _ _ _=>rfl)
      obtain⟨e',z',xs',_,q1,_⟩:=ho
      cases p with
      |nil=>simp[V.sub]at q1;subst q1;simp[immC]at hxm
      |cons i p=>cases x<;>simp[V.sub]at q1<;>simp[immC]at hxm
  .refine hr.keep hI (fun p k' ⟨_,_,_,u',q1,q2,q3⟩=>?_) (fun _ _ _ _=>rfl)
   cases p with
   |cons i p=>simp[V.sub]at q1
   | nil =>
     simp[vsub]at q2
     subst q2
     exact ha.block k' (yL_ hr q3) (fun e=>hk ⟨k',q3,e⟩)
 have h2:Rel F g w' { S with tm:=tm1 } a:=by
  refine h1.grow hI (fun _ _=>rfl) (fun b hb=>?_) (fun r p k ho=>?_) (fun l d' e' z' xs' u hl hu=>hlr l d' e' z' xs' u ((hat l) ▸ hl) hu) ha.size (fun k hk=>zzk_ (h.Ilt k hk) ha.size)
  .obtain⟨q1,q2⟩:=zU_ h hb
   exact⟨ha.block _ q1 (fun e=>(hfree _ e).2.2.1 b hb rfl),q2⟩
  .obtain⟨q1,q2,_⟩:=h1.ownI r p k ho
   exact⟨ha.block k q2 (fun e=>(hfree k e).2.2.2.1 r p ho),q1⟩
 have hvl:∀l x,S.at l=some x->z8_ F g w' a l=z8_ F g w a l:=fun l x hl=>y3_ hl (fun _ _=>rfl) (fun b hb=>ha.block _ (zU_ h hb).1 (fun e=>(hfree _ e).2.2.1 b hb rfl))
 have hownw:∀r p k,Own F g w' { S with tm:=tm1 } a r p k->Own F g w { S with tm:=tm1 } a r p k:=by
  intro r p k ⟨x,u,hh,ho⟩
  refine⟨x,u,?_,ho⟩
  cases r with
  |t t=>exact hh
  |l l=>exact⟨hh.1,(hvl l x ((hat l) ▸ hh.1)) ▸ hh.2⟩
 obtain⟨h3,h4⟩:=uo_ (tm1:=tm1) h2 (fun t=>Less.refl _) (fun _ _=>rfl) hd hdv ha.rep (fun k hk=>by
  rcases ha.at_ k hk with hk'|hk'
  .obtain⟨_,q1,q2,q3,q4⟩:=hfree k hk'
   refine⟨q1,yL_ ha.rep hk,q2,fun r p' _ ho=>q3 r p' (hownw r p' k ho),fun l d' e' z' xs' u hl hu hku=>?_⟩
   have hl':=(hat l) ▸ hl
   rw[hvl l _ hl']at hu
   exact yyd_ (q4 l d' e' z' xs' u hl' hu hku) hlen
  .refine⟨?_,yL_ ha.rep hk,fun b hb e=>by have:=(zU_ h hb).1;omega,fun r p' _ ho=>?_,fun l d' e' z' xs' u hl hu hku=>?_⟩
   .rcases yyo_ (g.I k) with q|q
    .exact q
    .have:=h.Ilt k q;omega
   .have:=(h1.ownI r p' k (hownw r p' k ho)).2.1
    omega
   .have hl':=(hat l) ▸ hl
    rw[hvl l _ hl']at hu
    have:=yL_ (h.lentr l d' e' z' xs' u hl' hu).1 hku
    omega)
 refine⟨g,h3,⟨ha.os,ha.tape,ha.output,ha.size,fun k hk ho=>⟨ha.block k hk (fun e=>ho (hfree k e).1),rfl⟩,fun k ho=>?_⟩,fun _ _=>rfl⟩
 rcases h4 k ho with q|q
 .rcases q with ⟨r,p,q⟩|q
  .exact .inl (.inl ⟨r,p,zf_ hless h.notl (hownw r p k q)⟩)
  .exact .inl (.inr q)
 .rcases ha.at_ k q with q|q
  .exact .inl (hfree k q).1
  .exact .inr q
theorem pJ_{t ty e:TypeId}{i:TypeInfo}{zv:Value}{z:Nat}(ht:P.underlying t=some (.slice e))(hi:P.info? e=some i)(hzv:i.zero=some zv)(hsz:i.size=z)(hzs:zv.cells.size=z)(hz0:0<z)(h16:i.bytes<=65536)
 {v u:Value} {xs ys:List V} {z':Nat} (hv:Rep g w (.list z xs) v) (hcap:∀A N c,v=.slice A N c->c=N) (hu:Reads g w z' ys u) (hzz:z'=z) (hxn:xs≠[]) (hyn:ys≠[]) (h63:xs.length+ys.length<=maxLen) (hby:(xs.length+ys.length)*i.bytes<=y4_) (hlt:∀k,0<g.I k->k<w.heap.size) :
 ∃v' w',(Builtin.append_ #[t,t] ty #[v,u]).run P w=.ok v' w'/\AppOk g w e z 0 (.slice none 0 0) (xs++ys) v' w':=by
 subst hzz
 have hyz:∀x∈ys,(cellsOf x).length=z':=by obtain⟨_,_,_,_,_,_,_,q,_⟩:=hu;exact q
 have hyi:∀x∈flat ys,immC x=true:=by obtain⟨_,_,_,_,_,_,_,_,q,_⟩:=hu;exact q
 have hr:=hv.reads_list
 have hxz:∀x∈xs,(cellsOf x).length=z':=by obtain⟨_,_,_,_,_,_,_,q,_⟩:=hr;exact q
 have hxi:∀x∈flat xs,immC x=true:=by obtain⟨_,_,_,_,_,_,_,_,q,_⟩:=hr;exact q
 obtain⟨A,c,news,rfl,hl,hat,hone,hnr⟩:=hu.at
 obtain⟨B,cb,olds,rfl,hlo,hato,honeo,hor⟩:=hr.at
 have hcb:cb=xs.length:=hcap _ _ _ rfl
 have hxp:0<xs.length:=List.length_pos_iff.2 hxn
 have hyp:0<ys.length:=List.length_pos_iff.2 hyn
 have hflx:=zd_ hxz
 cases A with
 |none=>have hn:=hat.none_nil;subst hn;have:=Nat.mul_pos hyp hz0;simp at hl;omega
 |some ad =>
 cases B with
 |none=>have hn:=hato.none_nil;subst hn;have:=Nat.mul_pos hxp hz0;simp at hlo;omega
 |some bd =>
 subst hsz
 obtain⟨v',w',hrun,q1,q2⟩:∃v' w',(Builtin.append_ #[t,t] ty #[.slice (some bd) xs.length cb,.slice (some ad) ys.length c]).run P w=.ok v' w'/\w'.ownsRow w.heap.size e i.size v' (xs.length+ys.length) (olds++news)/\w.grownBy w' none:=by
  have hlen:(olds++news).length=(xs.length+ys.length)*i.size:=by rw[zzr_,hlo,hl,yyn_]
  have hge:=grownCap_ge w (xs.length+ys.length) cb e
  have hcm:grownCap w (xs.length+ys.length) cb e<=maxLen:=grownCap_le_maxLen w (xs.length+ys.length) cb e h63
  have hr:=run_append_grow (P:=P) w t ty e i zv ht hi hzv bd xs.length cb olds hlo hato.cells ad ys.length c news hl hat.cells (by omega) (by simp only[maxLen]at h63;omega) (wo_ (by omega) h16 hby)
  refine⟨_,_,hr,⟨hlen,.inr ⟨w.heap.size,_,_,rfl,zzl_ _,heap_alloc_new w.drew _,hge,hcm,?_,?_⟩⟩,⟨rfl,rfl,rfl,by simp,fun k hk _=>Go.heap_alloc_old w.drew _ hk⟩⟩
  .simp only[Array.size_append,List.size_toArray,size_zeroCells,hzs,hlo,hl,<-Nat.add_mul]
   congr 1
   omega
  .simp only[Array.toList_append,zzq_]
   rw[<-List.append_assoc,<-hlen]
   exact List.take_left
 have hb:∀k,k<w.heap.size->w'.heap[k]?=w.heap[k]?:=fun k hk=>q2.block k hk (by simp)
 have hk:∀ {x:V} {c:Value},immC x=true->Rep g w x c->Rep g w' x c:=by
  intro x c hx hr
  refine hr.keep (fun b q hq=>⟨hq,yyb_ (a:=⟨b,q,none⟩) (hb b (hlt b (by omega)))⟩) (fun p k ho=>?_) (fun _ _ _ _=>rfl)
  obtain⟨e',z',xs',_,q1,_⟩:=ho
  cases p with
  |nil=>simp[V.sub]at q1;subst q1;simp[immC]at hx
  |cons i p=>cases x<;>simp[V.sub]at q1<;>simp[immC]at hx
 have hiall:∀x∈flat (xs++ys),immC x=true:=fun x hx=>by rw[yT_]at hx;exact(zzw_.1 hx).elim (hxi x) (hyi x)
 refine⟨v',w',hrun,?_,q2.os,q2.tape,q2.output,q2.size,fun k hk' _=>hb k hk',fun k hk'=>.inr ?_,fun k hk'=>by simp[rb]at hk'⟩
 .have q1':w'.ownsRow 0 e i.size v' (xs.length+ys.length) (olds++news):=⟨q1.1,q1.2.imp id fun ⟨gg,cap,cur,a1,_,a3⟩=>⟨gg,cap,cur,a1,zzn_ _,a3⟩⟩
  refine Rep.of_owns (by rw[zzr_];exact q1') (fun x hx=>(zzw_.1 hx).elim (hxz x) (hyz x)) hiall (fun j x hx=>?_)
  have hxm:=hiall x (zzd_ hx)
  rw[yT_]at hx
  rcases yym_ j (flat xs).length with hj|hj
  .rw[zzo_ hj]at hx
   obtain⟨c',p1,p2⟩:=hor j x hx
   exact⟨c',by rw[zzo_ (by omega)];exact p1,hk hxm p2⟩
  .rw[zzv_ hj]at hx
   obtain⟨c',p1,p2⟩:=hnr _ x hx
   exact⟨c',by rw[zzv_ (by omega),hlo,<-hflx];exact p1,hk hxm p2⟩
 .rcases q1.2 with ⟨rfl,_⟩|⟨gg,cap,cur,rfl,hge,_⟩
  .simp[rb]at hk'
  .simp only[rb]at hk'
   split at hk'
   .cases hk'
   .cases hk';exact hge
theorem lk_(h:Rel F g w S a){o:Oper}{x y:Operand}{p q:Opd}{t e:TypeId}{i:TypeInfo}{zv:Value}{d:Nat}(ho:o.op=.call { callee:=.builtin .append,args:=#[x,y],argTypes:=#[t,t] })(ht:P.underlying t=some (.slice e))(hi:P.info? e=some i)(hz:wX_ P e=some zv)
 (hx:opd F x=some p) (hy:opd F y=some q) (hd:d<F.N) (hdv:d∉F.sv) {r:V} {tm1:Nat->V} (hr:appV S d e i.size i.bytes p q=some (r,tm1)):QEnds P F g w S a o d r tm1:=by
 obtain⟨i',hi',hz',hs,_⟩:=yn_ hz
 rw[hi]at hi'
 cases hi'
 unfold appV at hr
 simp only[zza_]at hr
 obtain⟨⟨xs,tmb⟩,hb,⟨z',ys⟩,hc,hr⟩:=hr
 split at hr
 .next hcond =>
  obtain⟨hzz,hz0,h16,h63,hby⟩:=hcond
  cases hr
  have hu:=yQ_ h (y5_ h hy) hc
  have hokx:=y5_ h hx
  have fin:∀ {tm2:Nat->V},(∀t,Less (tm2 t) (S.tm t))->(∀t∈F.sv,tm2 t=S.tm t)->upd tm2 d (.own true e i.size (xs++ys))=upd tmb d (.own true e i.size (xs++ys))->Rep g w (.own true e i.size xs) (a.eval x) ->
   (∀k,rb (a.eval x)=some k->wN_ F g w S a k/\g.I k=0/\(∀b,b<S.bx.length->g.φ b≠k)/\(∀r p,¬Own F g w { S with tm:=tm2 } a r p k) /\
    (∀l d e' z' xs' v',S.at l=some (.lent d S.ep e' z' xs')->z8_ F g w a l=some v'->rb v'=some k->xs'.length*z'<=xs.length*i.size))->QEnds P F g w S a o d (.own true e i.size (xs++ys)) tmb:=by
   intro tm2 hl1 hl2 hup hrep hfree
   obtain⟨hxz,hxi⟩:=qF_ hrep
   obtain⟨v',w',hrun,hok⟩:=pI_ (P:=P) (ty:=o.type) ht hi hz' rfl hs hz0 h16 hrep hu hzz h63 hby (fun k hk=>(hfree k hk).2.1) h.Ilt hxz hxi
   refine⟨v',w',?_,?_⟩
   .simp[execOp,ho,resolve,invoke,builtin,hrun]
   .rw[<-hup]
    exact r6_ h hl1 hl2 hd hdv hrep hfree (by rw[zzr_,yyn_];omega) hok
  unfold uJ_ at hb
  generalize hlk:z7_ S p=lk at *
  split at hb
  .cases hb
   have hv:=hokx.rep.of_s rfl
   refine fin (fun t=>Less.refl _) (fun _ _=>rfl) rfl ?_ (fun k hk=>?_)
   .rw[hv];exact .own0
   .rw[hv]at hk;simp[rb]at hk
  .next e' z'' xs' =>
   split at hb
   .next t' =>
    split at hb
    .next hee =>
     obtain⟨rfl,rfl⟩:=hee
     cases hb
     obtain⟨rfl,ht'⟩:=xo_ hx
     simp only[z7_]at hlk
     have hown:∀k,rb (a.eval (.tmp t'))=some k->Own F g w S a (.t t') [] k:=fun k hk=>⟨_,_,⟨rfl,rfl⟩,.inl ⟨e',_,xs,_,by rw[hlk];rfl,rfl,hk⟩⟩
     refine fin zz_ (vd_ ht') rfl hokx.rep (fun k hk=>?_)
     obtain⟨q1,q2,q3⟩:=h.ownI _ _ _ (hown k hk)
     refine⟨.inl ⟨_,_,hown k hk⟩,q1,q3,fun r p ho'=>?_,fun l d2 e2 z2 xs2 v2 h1 h2 h3=>h.lentl l d2 e2 z2 xs2 v2 k h1 h2 h3 (.t t') [] _ ⟨_,_,⟨rfl,rfl⟩,.inl ⟨e',_,xs,_,by rw[hlk];rfl,rfl,hk,rfl⟩⟩⟩
     obtain⟨rfl,rfl⟩:=h.uniq _ _ _ _ _ (zf_ zz_ h.notl ho') (hown k hk)
     obtain⟨x,v,⟨rfl,rfl⟩,ho'⟩:=ho'
     simp only[zm_]at ho'
     rcases ho' with ⟨_,_,_,_,q,_⟩|⟨_,q,_⟩
     .simp[V.sub]at q
     .simp[zi_]at q
    .cases hb
   .cases hb
  .next e' z'' xs' =>
   split at hb
   .next hee =>
    obtain⟨rfl,rfl⟩:=hee
    cases hb
    have hrl:Rep g w (.list i.size xs) (a.eval x):=by have hrep:=hokx.rep;cases hrep with|ownf h _=>exact h
    have hcap:∀A N c,a.eval x=.slice A N c->c=N:=by have hrep:=hokx.rep;cases hrep with|ownf _ _ hf=>exact hf rfl
    by_cases hys:ys=[]
    .subst hys
     simp only[appR,if_true]
     obtain⟨A,c,vals,hv,c1,_⟩:=hrl.reads_list
     obtain⟨A2,c2,news,hu2,hl2,hat2,hone2,_⟩:=hu.at
     have hl0:news=[]:=yyj_ (by simpa using hl2)
     subst hl0
     have hsrc:Src P i.size t (a.eval y) 0 [] w:=by
      rw[hu2]
      cases A2 with
      |none=>exact Src.ofNil w ht c2
      |some ad=>exact Src.ofSlice w ht ad 0 c2 [] (by simp) (fun j u hj=>by simp at hj) (fun u hu=>by cases hu)
     have hrun:=run_append_nothing (P:=P) w t t o.type e i ht hi A xs.length c c1 (a.eval y) hsrc
     refine⟨a.eval x,w,?_,zl_ h hd hdv hokx.rep rfl (fun b o he=>by cases he) (zzn_ _) trivial⟩
     rw[<-hv]at hrun
     simp[execOp,ho,resolve,invoke,builtin,hrun]
    .have e1:appR (.own false FULL i.size xs) e i.size xs ys=.own true e i.size (xs++ys):=by simp only[appR,if_neg hys]
     rw[e1]
     by_cases hxs:xs=[]
     .subst hxs
      obtain⟨A,c,vals,hv,c1,_⟩:=hrl.reads_list
      have hc0:c=0:=hcap _ _ _ hv
      have hn:rb (a.eval x)=none:=by rw[hv,hc0];cases A<;>simp[rb]
      refine fin (fun t=>Less.refl _) (fun _ _=>rfl) rfl ?_ (fun k hk=>by rw[hn]at hk;cases hk)
      rw[hv,hc0]
      exact .own0
     .have hzz':z'=i.size:=hzz.resolve_right hys
      obtain⟨v',w',hrun,hok⟩:=pJ_ (P:=P) (ty:=o.type) ht hi hz' rfl hs hz0 h16 hrl hcap hu hzz' hxs hys h63 hby h.Ilt
      refine⟨v',w',?_,?_⟩
      .simp[execOp,ho,resolve,invoke,builtin,hrun]
      .exact r6_ h (fun t=>Less.refl _) (fun _ _=>rfl) hd hdv (.own0 (e:=e) (z:=i.size) (A:=none)) (fun k hk=>by simp[rb]at hk) (by simp) hok
   .cases hb
  .next l e1 =>
   split at hb
   .next hee =>
    split at hb
    .next d' e0 e' z'' xs' hl =>
     split at hb
     .next hcond =>
      obtain⟨rfl,rfl,rfl,rfl⟩:=hcond
      split at hb
      .next hno =>
       cases hb
       have hrow:S.row l=some (i.size,xs):=by simp[St.row,hl]
       have hval:=(hokx.link hee).2 _ _ hrow
       have hrep:=(h.lentr l d' e' i.size xs _ hl hval).1
       have hlt:zi_ S (.lent d' S.ep e' i.size xs)=true:=by simp[zi_,hno]
       have hown:∀k,rb (a.eval x)=some k->Own F g w S a (.l l) [] k:=fun k hk=>⟨_,_,⟨hl,hval⟩,.inr ⟨rfl,hlt,hk⟩⟩
       have hls:∀t,Less (upd S.tm d' .gone t) (S.tm t):=zz_
       refine fin hls (vd_ hdv) (ul_ _ _ _ _) hrep (fun k hk=>?_)
       obtain⟨q1,q2,q3⟩:=h.ownI _ _ _ (hown k hk)
       refine⟨.inl ⟨_,_,hown k hk⟩,q1,q3,fun r p ho'=>?_,fun l2 d2 e2 z2 xs2 v2 h1 h2 h3=>h.lentl l2 d2 e2 z2 xs2 v2 k h1 h2 h3 (.l l) [] _ ⟨_,_,⟨hl,hval⟩,.inr ⟨rfl,d',e',i.size,xs,rfl,hno,hk,rfl⟩⟩⟩
       obtain⟨rfl,rfl⟩:=h.uniq _ _ _ _ _ (zf_ hls h.notl ho') (hown k hk)
       obtain⟨y',v,⟨hy1,_⟩,ho'⟩:=ho'
       have hy2:S.at l=some y':=by rw[<-hy1];cases l<;>rfl
       rw[hl]at hy2
       injection hy2 with hy2
       subst hy2
       rcases ho' with ⟨_,_,_,_,q,_⟩|⟨_,q,_⟩
       .simp[V.sub]at q
       .obtain⟨d3,_,_,_,q5,q6⟩:=z4_ q
        injection q5 with q5
        subst q5
        simp only[zm_]at q6
        cases q6
      .cases hb
     .cases hb
    .cases hb
   .cases hb
  .cases hb
 .cases hr
end
end
section
def yW_:V->Bool
 |.s _|.list _ _|.own _ _ _ _|.ptr _ _|.ip _=>true
 |_=>false
theorem ty_{g:Gh}{w:World}{x:V}{v:Value}(hm:yW_ x=true)(hr:Rep g w x v):v.oneCell'=true:=by
 cases x<;>simp[yW_]at hm<;>cases hr<;>first|assumption|rfl|exact pY_|skip
 all_goals (rename_i h;cases h<;>first|assumption|rfl)
theorem qm_{g:Gh}{w:World}{x:V}{v:Value}(hm:yW_ x=true)(hown:¬ ∃e z xs,x=.own true e z xs)(hr:Rep g w x v):Rep g w (immL x) v:=by
 cases x<;>first|exact hr|skip
 rename_i m e z xs
 cases m
 .cases hr with
  |ownf h _ _=>exact h
 .exact absurd ⟨e,z,xs,rfl⟩ hown
section
variable{P:Program}{F:Fr}{g:Gh}{w:World}{S:St}{a:Act}
structure Took(F:Fr)(g:Gh)(w:World)(S:St)(a:Act)(tm1:Nat->V)(y:V)(v:Value):Prop where
 rep:Rep g w y v
 notup:∀vs,y≠.tup vs
 lf:∀p x,y.sub p=some x->leaf x=true->yW_ x=true
 ptr:∀p b o,y.sub p=some (.ptr b o)->b<S.bx.length
 less:∀t,Less (tm1 t) (S.tm t)
 tv:∀t∈F.sv,tm1 t=S.tm t
 own:∀p k m,wQ_ y v p k m->(∃r q,OwnX F g w S a r q k m)/\∀r q,¬Own F g w { S with tm:=tm1 } a r q k
 inj:∀p p' k,zD_ y v p k->zD_ y v p' k->p=p'
theorem Rep.subhdr{z:Nat}{xs:List V}{vl v:Value}{lo n:Nat}(h:Rep g w (.list z xs) vl)(hs:rf_ z lo n vl v)(hn:lo+n<=xs.length):Rep g w (.list z ((xs.drop lo).take n)) v:=by
 cases h with
 | list vals hc hm hA hzs hi hcell hrep =>
   rename_i A0 c0
   obtain⟨A,c,rfl,q1,q2,q3,q4⟩:=hs
   have hlen:((xs.drop lo).take n).length=n:=by simp;omega
   have hz':∀x∈(xs.drop lo).take n,(cellsOf x).length=z:=fun x hx=>hzs x (yyl_ (List.mem_of_mem_take hx))
   have hfl:flat ((xs.drop lo).take n)=((flat xs).drop (lo*z)).take (n*z):=by
    rw[xL_ hzs,wr_ (fun x hx=>hzs x (yyl_ hx))]
   have hfl1:=zd_ hzs
   have hfl2:=zd_ hz'
   rw[hlen]at hfl2
   have hsz:lo*z+n*z<=xs.length*z:=by rw[<-Nat.add_mul];exact yyg_ z hn
   have key:Rep g w (.list z ((xs.drop lo).take n)) (.slice A ((xs.drop lo).take n).length c):=by
    refine .list (fun j=>vals (lo*z+j)) (by omega) q2 q3 hz' (fun u hu=>hi u ?_) (fun j hj=>?_) (fun j u hu=>?_)
    .rw[hfl]at hu
     exact yyl_ (List.mem_of_mem_take hu)
    .rw[hfl2]at hj
     have hp:0<n:=by
      rcases yyo_ n with e|e
      .rw[e]at hj;simp at hj
      .exact e
     obtain⟨b,q,N,cap,e1,e2⟩:=q4 hp
     simp only[Value.slice.injEq]at e1
     obtain⟨b',q',e3,e4,e5⟩:=hcell (lo*z+j) (by omega)
     rw[e1.1]at e3
     injection e3 with e3
     injection e3 with e3 e6
     subst e3
     subst e6
     refine⟨b,q+lo*z,e2,?_,?_⟩
     .rw[Nat.add_assoc];exact e4
     .rw[Nat.add_assoc];exact e5
    ·have:(flat xs)[lo*z+j]?=some u:=by
      rw[hfl,zzu_]at hu
      split at hu
      .rw[zzA_]at hu;exact hu
      .cases hu
     exact hrep _ u this
   rw[hlen]at key
   exact key
theorem sW_(h:Rel F g w S a){x y:V}{v:Value}(hr:Rep g w x v)(hl:Link F g w S a x v)(hy:yh_ S x=some y):Rep g w y v/\yW_ y=true/\(∀e z xs,y=.own true e z xs->x=y)/\(∀b o,y=.ptr b o->x=y):=by
 cases x with
 |s u=>simp[yh_]at hy;subst hy;exact⟨hr,rfl,by simp,by simp⟩
 |list z xs=>simp[yh_]at hy;subst hy;exact⟨hr,rfl,by simp,by simp⟩
 | own m e z xs =>
   cases m
   .simp only[yh_]at hy
    split at hy
    .cases hy;exact⟨hr,rfl,by simp,by simp⟩
    .cases hy
     cases hr with
     |ownf h _=>exact⟨h,rfl,by simp,by simp⟩
   .simp[yh_]at hy;subst hy;exact⟨hr,rfl,by simp,by simp⟩
 |ptr b o=>simp[yh_]at hy;subst hy;exact⟨hr,rfl,by simp,by simp⟩
 |ip cs=>simp[yh_]at hy;subst hy;exact⟨hr,rfl,by simp,by simp⟩
 | view l e =>
   simp only[yh_]at hy
   split at hy
   .next he =>
    split at hy
    .next e' z xs hat =>
     cases hy
     have hrow:S.row l=some (z,xs):=by simp[St.row,hat]
     have hv:=(hl he).2 z xs hrow
     have hr':=h.rep (.l l) _ _ ⟨hat,hv⟩
     cases hr' with
     |ownf h _=>exact⟨h,rfl,by simp,by simp⟩
    .cases hy
   .cases hy
 | sview l e lo n =>
   simp only[yh_]at hy
   split at hy
   .next he =>
    split at hy
    .next e' z xs hat =>
     split at hy
     .next hn =>
      cases hy
      have hrow:S.row l=some (z,xs):=by simp[St.row,hat]
      obtain⟨vl,hv,hs⟩:=(hl he).2 z xs hrow
      have hr':=h.rep (.l l) _ _ ⟨hat,hv⟩
      cases hr' with
      |ownf h _=>exact⟨h.subhdr hs hn,rfl,by simp,by simp⟩
     .cases hy
    .cases hy
   .cases hy
 |_=>simp[yh_]at hy
theorem rL_{cs ys:List V}(h:yR_ S cs=some ys):ys.length=cs.length/\∀(j:Nat) (y:V),ys[j]?=some y->∃x,cs[j]?=some x/\yh_ S x=some y:=by
 induction cs generalizing ys with
 |nil=>simp[yR_]at h;subst h;exact⟨rfl,fun j y hj=>by simp at hj⟩
 | cons c r ih =>
   simp only[yR_,zza_]at h
   obtain⟨y,h1,q,h2,h3⟩:=h
   injection h3 with h3
   subst h3
   obtain⟨h4,h5⟩:=ih h2
   refine⟨by simp[h4],fun j y' hj=>?_⟩
   cases j with
   |zero=>simp at hj;subst hj;exact⟨c,by simp,h1⟩
   |succ j=>simp at hj;obtain⟨x,k1,k2⟩:=h5 j y' hj;exact⟨x,by simpa using k1,k2⟩
theorem wK_{x:V}(h:yW_ x=true):leaf x=true:=by cases x<;>simp[yW_]at h<;>rfl
theorem p5_(h:Rel F g w S a){x y:V}{v:Value}(hr:Rep g w x v)(hl:∀p u c,x.sub p=some u->vsub p v=some c->Link F g w S a u c)(hy:give S x=some y) :
 Rep g w y v/\(∀vs,y≠.tup vs)/\(∀p u,y.sub p=some u->leaf u=true->yW_ u=true)/\(∀p e z xs,y.sub p=some (.own true e z xs)->x.sub p=some (.own true e z xs))/\(∀p b o,y.sub p=some (.ptr b o)->x.sub p=some (.ptr b o)):=by
 by_cases hag:∃cs,x=.agg cs
 .obtain⟨cs,rfl⟩:=hag
  simp only[give,zza_]at hy
  obtain⟨ys,h1,h2⟩:=hy
  injection h2 with h2
  subst h2
  obtain⟨hlen,hget⟩:=rL_ h1
  cases hr with
  | agg hsz hone hrep =>
    rename_i vs
    have hcell:∀(j:Nat) (y:V),ys[j]?=some y->∃x c,cs[j]?=some x/\vs[j]?=some c/\Rep g w y c/\yW_ y=true/\(∀e z xs,y=.own true e z xs->x=y)/\(∀b o,y=.ptr b o->x=y):=by
     intro j y hj
     obtain⟨x,k1,k2⟩:=hget j y hj
     have hjs:j<vs.size:=by rw[<-hsz];exact(zzc_.1 k1).1
     have hc:vs[j]?=some vs[j]:=by simp[hjs]
     have:=sW_ h (hrep j x _ k1 hc) (hl [j] x vs[j] (by simp[V.sub,k1]) (by simp[vsub,hjs])) k2
     exact⟨x,vs[j],k1,hc,this⟩
    have hsub:∀p u,(V.agg ys).sub p=some u->leaf u=true->∃j,p=[j]/\ys[j]?=some u:=by
     intro p u hs hlf
     cases p with
     |nil=>simp[V.sub]at hs;subst hs;simp[leaf]at hlf
     | cons j p =>
       simp only[V.sub,zza_]at hs
       obtain⟨y,k1,k2⟩:=hs
       cases p with
       |nil=>simp[V.sub]at k2;subst k2;exact⟨j,rfl,k1⟩
       | cons i p =>
         obtain⟨_,_,_,_,_,k3,_⟩:=hcell j y k1
         exact absurd k2 (zV_ (wK_ k3))
    refine⟨.agg (by omega) hone (fun j u c hu hc=>?_),by simp,fun p u hs hlf=>?_,fun p e z xs hs=>?_,fun p b o hs=>?_⟩
    .obtain⟨x,c',_,k2,k3,_⟩:=hcell j u hu
     rw[hc]at k2
     cases k2
     exact k3
    .obtain⟨j,rfl,k⟩:=hsub p u hs hlf
     obtain⟨_,_,_,_,_,k3,_⟩:=hcell j u k
     exact k3
    .obtain⟨j,rfl,k⟩:=hsub p _ hs rfl
     obtain⟨x,_,k1,_,_,_,k4,_⟩:=hcell j _ k
     simp[V.sub,k1,k4 e z xs rfl]
    .obtain⟨j,rfl,k⟩:=hsub p _ hs rfl
     obtain⟨x,_,k1,_,_,_,_,k5⟩:=hcell j _ k
     simp[V.sub,k1,k5 b o rfl]
 ·have hy':yh_ S x=some y:=by
   cases x<;>first|exact hy|exact absurd ⟨_,rfl⟩ hag
  obtain⟨k1,k2,k3,k4⟩:=sW_ h hr (hl [] x v rfl rfl) hy'
  have hlf:=wK_ k2
  refine⟨k1,fun vs e=>by subst e;simp[yW_]at k2,fun p u hs _=>?_,fun p e z xs hs=>?_,fun p b o hs=>?_⟩
  .cases p with
   |nil=>simp[V.sub]at hs;subst hs;exact k2
   |cons i p=>exact absurd hs (zV_ hlf)
  .cases p with
   |nil=>simp[V.sub]at hs;rw[k3 e z xs hs,hs];rfl
   |cons i p=>exact absurd hs (zV_ hlf)
  .cases p with
   |nil=>simp[V.sub]at hs;rw[k4 b o hs,hs];rfl
   |cons i p=>exact absurd hs (zV_ hlf)
theorem rh_(h:Rel F g w S a){x:Operand}{q:Opd}(hx:opd F x=some q){y:V}{tm1:Nat->V}(hy:ym_ S S.tm q=some (y,tm1)):Took F g w S a tm1 y (a.eval x):=by
 unfold ym_ at hy
 simp only[zza_]at hy
 obtain⟨y0,h1,y1,h2,h3⟩:=hy
 cases h3
 cases q with
 | c v =>
   obtain⟨rfl,hv⟩:=qI_ hx
   simp only[wJ_,us_ hv]at h1
   cases h1
   simp only[give,yh_]at h2
   cases h2
   refine⟨.s hv,by simp,fun p x hs _=>?_,fun p b o hs=>by cases p<;>simp[V.sub]at hs,fun t=>Less.refl _,fun _ _=>rfl,fun p k m hk=>?_,fun p p' k hk=>?_⟩
   .cases p with
    |nil=>simp[V.sub]at hs;subst hs;rfl
    |cons i p=>simp[V.sub]at hs
   .obtain⟨e,z,xs,_,q,_⟩:=hk;cases p<;>simp[V.sub]at q
   .obtain⟨e,z,xs,_,q,_⟩:=hk;cases p<;>simp[V.sub]at q
 | t t =>
   obtain⟨rfl,ht⟩:=xo_ hx
   simp only[wJ_]at h1
   cases h1
   obtain⟨k1,k2,k3,k4,k5⟩:=p5_ h (h.rep (.t t) _ _ ⟨rfl,rfl⟩) (fun p u c hs hc=>h.link t p u c hs hc) h2
   have hnt:∀vs,S.tm t≠.tup vs:=fun vs e=>by rw[e]at h2;simp[give,yh_]at h2
   have hox:∀p k m,wQ_ y (a.eval (.tmp t)) p k m->OwnX F g w S a (.t t) p k m:=fun p k m ⟨e,z,xs,u,q1,q2,q3,q4⟩=>⟨_,_,⟨rfl,rfl⟩,.inl ⟨e,z,xs,u,k4 p e z xs q1,q2,q3,q4⟩⟩
   have ho:∀p k,zD_ y (a.eval (.tmp t)) p k->Own F g w S a (.t t) p k:=fun p k ⟨e,z,xs,u,q1,q2,q3⟩=>⟨_,_,⟨rfl,rfl⟩,.inl ⟨e,z,xs,u,k4 p e z xs q1,q2,q3⟩⟩
   refine⟨k1,k2,k3,fun p b o hs=>h.ptr (.t t) _ _ p b o ⟨rfl,rfl⟩ (k5 p b o hs),yY_ _ _,vT_ _ _ (fun t' e=>by cases e;exact ht),fun p k m hk=>⟨⟨_,_,hox p k m hk⟩,fun r q' ho'=>?_⟩,fun p p' k q1 q2=>(h.uniq _ _ _ _ _ (ho p k q1) (ho p' k q2)).2⟩
   obtain⟨e,z,xs,u,q1,q2,q3,_⟩:=hk
   obtain⟨rfl,rfl⟩:=h.uniq _ _ _ _ _ (zf_ (yY_ _ _) h.notl ho') (ho p k ⟨e,z,xs,u,q1,q2,q3⟩)
   obtain⟨x,v,⟨rfl,rfl⟩,ho'⟩:=ho'
   rcases ho' with ⟨e',z',xs',_,q,_⟩|⟨_,q,_⟩
   .exact vf_ (h.rep (.t t) _ _ ⟨rfl,rfl⟩) hnt _ e' z' xs' q
   .obtain⟨d',e',z',xs',q1,_⟩:=z4_ q
    have q1':zE_ S.tm (.t t) t=_:=q1
    exact absurd ((yY_ S.tm (.t t) t).sub_of (p:=[]) (by rw[q1'];rfl) rfl (by simp)) (h.notl t [] d' _ e' z' xs')
 | v i =>
   obtain⟨t,rfl,hi⟩:=vv_ hx
   have hval:z8_ F g w a (.var i)=some (a.eval (.tmp t)):=by simp[z8_,hi,Act.tv,Act.eval]
   simp only[wJ_]at h1
   split at h1
   .next x hv =>
    split at h1
    .next hf =>
     cases h1
     have hat:S.at (.var i)=some y0:=hv
     have hnv:=h.novw (.var i) y0 hat
     obtain⟨k1,k2,k3,k4,k5⟩:=p5_ h (h.rep (.l (.var i)) y0 _ ⟨hat,hval⟩) (fun p u c hs hc=>by
      have:=hnv p
      cases u<;>first|trivial|exact absurd hs (this.1 _ _)|exact absurd hs (this.2.1 _ _ _ _)|exact absurd hs (this.2.2.1 _ _ _ _)) h2
     have hno:∀p k,¬zD_ y (a.eval (.tmp t)) p k:=fun p k ⟨e,z,xs,u,q1,_⟩=>(xn_ hf (k4 p e z xs q1)).1 e z xs rfl
     exact⟨k1,k2,k3,fun p b o hs=>h.ptr (.l (.var i)) y0 _ p b o ⟨hat,hval⟩ (k5 p b o hs),fun t=>Less.refl _,fun _ _=>rfl,fun p k m ⟨e,z,xs,u,q1,q2,q3,_⟩=>absurd ⟨e,z,xs,u,q1,q2,q3⟩ (hno p k),fun p p' k q=>absurd q (hno p k)⟩
    .cases h1
   .cases h1
end
end
section
theorem sV_(S:St)(tm:Nat->V)(x:V):yh_ { S with tm:=tm } x=yh_ S x:=by
 have hat:∀l,({ S with tm:=tm }:St).at l=S.at l:=fun l=>by cases l<;>rfl
 cases x<;>simp only[yh_,hat]
theorem p6_(S:St)(tm:Nat->V)(cs:List V):yR_ { S with tm:=tm } cs=yR_ S cs:=by
 induction cs with
 |nil=>rfl
 |cons c r ih=>simp only[yR_,sV_,ih]
theorem nF_(S:St)(tm:Nat->V)(x:V):give { S with tm:=tm } x=give S x:=by
 cases x<;>simp only[give,p6_,sV_]
theorem sw_(S:St)(tm:Nat->V)(x:Opd):ym_ { S with tm:=tm } tm x=ym_ S tm x:=by
 cases x<;>simp only[ym_,wJ_,nF_]
def q5_(cs:List Value)(off:Nat)(new:List Value):List Value:=cs.take off++new++cs.drop (off+new.length)
theorem qf_(new:List Value):∀(off k:Nat) (cells:Array Value),off+k+new.length<=cells.size ->
 ((new.zipIdx k).foldl (fun cs (c:Value×Nat)=>cs.setIfInBounds (off+c.2) c.1) cells).toList=cells.toList.take (off+k)++new++cells.toList.drop (off+k+new.length):=by
 induction new with
 |nil=>intro off k cells h;simp
 | cons c r ih =>
   intro off k cells h
   simp only[List.length_cons]at h
   simp only[List.zipIdx_cons,List.foldl_cons]
   rw[show (fun (cs:Array Value) (c:Value×Nat)=>cs.setIfInBounds (off+c.2) c.1)=(fun cs (c:Value×Nat)=>cs.setIfInBounds (off+c.2) c.1) from rfl]
   rw[ih off (k+1) (cells.setIfInBounds (off+k) c) (by simp;omega)]
   have hlt:off+k<cells.size:=by omega
   rw[Array.toList_setIfInBounds]
   have e1:(cells.toList.set (off+k) c).take (off+(k+1))=cells.toList.take (off+k)++[c]:=by
    rw[<-Nat.add_assoc,List.take_succ_eq_append_getElem (by simp;omega),List.take_set_of_le (by omega)]
    simp
   have e2:(cells.toList.set (off+k) c).drop (off+(k+1)+r.length)=cells.toList.drop (off+k+(c::r).length):=by
    rw[List.drop_set_of_lt (by omega)]
    congr 1
    simp
    omega
   rw[e1,e2]
   simp
theorem pe_{place:Nat->Option (Nat×Nat)}{cells:Array Value}{i off n:Nat}{v:Value}{rest:List (Nat×Value)}(hp:place i=some (off,n))(hn:v.cells.size=n)(ho:off+n<=cells.size) :
 Instr.fill place cells ((i,v)::rest)=Instr.fill place (q5_ cells.toList off v.cells.toList).toArray rest:=by
 simp only[Instr.fill,hp]
 have hc:(decide (v.cells.size≠n)||decide (off+v.cells.size>cells.size))=false:=by simp[hn];omega
 rw[if_neg (by simpa using hc)]
 congr 1
 apply Array.toList_inj.1
 have:=qf_ v.cells.toList off 0 cells (by simp;omega)
 simp only[Nat.add_zero]at this
 rw[<-Array.foldl_toList]
 simp only[Array.toList_zipIdx]
 exact this
section
variable{P:Program}{F:Fr}{g:Gh}{w:World}{S:St}{a:Act}
structure Filled(F:Fr)(g:Gh)(w:World)(S:St)(a:Act)(tm1:Nat->V)(cs:List V)(vs:List Value):Prop where
 len:vs.length=cs.length
 cell:∀(c:Nat) (x:V) (u:Value),cs[c]?=some x->vs[c]?=some u->Rep g w x u/\u.oneCell'=true/\yW_ x=true/\∀b o,x=.ptr b o->b<S.bx.length
 own:∀(c:Nat) (e z:Nat) (xs:List V) (u:Value) (k:Nat),cs[c]?=some (.own true e z xs)->vs[c]?=some u->rb u=some k->(∃r q,OwnX F g w S a r q k (xs.length*z))/\∀r q,¬Own F g w { S with tm:=tm1 } a r q k
 inj:∀(c c':Nat) (e z e' z':Nat) (xs xs':List V) (u u':Value) (k:Nat),cs[c]?=some (.own true e z xs)->vs[c]?=some u->rb u=some k->cs[c']?=some (.own true e' z' xs')->vs[c']?=some u'->rb u'=some k->c=c'
theorem OwnX.own{r:Root}{p:List Nat}{k m:Nat}(h:OwnX F g w S a r p k m):Own F g w S a r p k:=by
 obtain⟨x,v,hh,ho⟩:=h
 refine⟨x,v,hh,?_⟩
 rcases ho with ⟨e,z,xs,u,q1,q2,q3,_⟩|⟨h1,d,e,z,xs,rfl,h2,h3,_⟩
 .exact .inl ⟨e,z,xs,u,q1,q2,q3⟩
 .exact .inr ⟨h1,by simp[zi_,h2],h3⟩
theorem tj_{tm1:Nat->V}(hless:∀t,Less (tm1 t) (S.tm t))(hn:∀t p d e0 e z xs,(S.tm t).sub p≠some (.lent d e0 e z xs)){r:Root}{p:List Nat}{k m:Nat}(ho:OwnX F g w { S with tm:=tm1 } a r p k m):OwnX F g w S a r p k m:=by
 obtain⟨x,u,hh,ho⟩:=ho
 cases r with
 | t t =>
   obtain⟨rfl,rfl⟩:=hh
   refine⟨_,_,⟨rfl,rfl⟩,?_⟩
   rcases ho with ⟨e,z,xs,u,q1,q2,q3,q4⟩|⟨rfl,d',e,z,xs,h1,_⟩
   .exact .inl ⟨e,z,xs,u,(hless t).sub_of q1 rfl (by simp),q2,q3,q4⟩
   .have h1':tm1 t=_:=h1
    exact absurd ((hless t).sub_of (p:=[]) (by rw[h1'];rfl) rfl (by simp)) (hn t [] d' _ e z xs)
 | l l =>
   refine⟨x,u,⟨by rw[<-hh.1];cases l<;>rfl,hh.2⟩,?_⟩
   rcases ho with ho|⟨h1,d',e,z,xs,h2,h3,h4⟩
   .exact .inl ho
   .exact .inr ⟨h1,d',e,z,xs,h2,(hless d').no h3,h4⟩
theorem Less.trans{x y z:V}(h:Less x y)(h':Less y z):Less x z :=
 ⟨fun g w v q=>h.rep g w v (h'.rep g w v q),fun p u hs hl=>by
  rcases h.sub p u hs hl with q|q
  .exact .inl q
  .exact h'.sub p u q hl,fun q=>h'.no (h.no q)⟩
theorem wy_{tm1:Nat->V}{y:V}{v:Value}(h:Took F g w S a tm1 y v):v.cells.toList.length=(cellsOf y).length/\∀(o:Nat) (x:V) (u:Value),(cellsOf y)[o]?=some x->v.cells.toList[o]?=some u->∃p,y.sub p=some x/\vsub p v=some u/\u.oneCell'=true/\yW_ x=true/\Rep g w x u/\(p=[o]\/(p=[]/\∀cs,y≠.agg cs)):=by
 have hr:=h.rep
 by_cases hag:∃cs,y=.agg cs
 .obtain⟨cs,rfl⟩:=hag
  cases hr with
  | agg hl h1 hrep =>
    rename_i vs
    refine⟨by simp[Value.cells,cellsOf,hl],fun o x u hx hu=>?_⟩
    simp only[cellsOf]at hx
    simp only[Value.cells]at hu
    have hu':vs[o]?=some u:=by simpa using hu
    have hone:u.oneCell'=true:=h1 u (zzd_ hu)
    have hrx:=hrep o x u hx hu'
    have hs:(V.agg cs).sub [o]=some x:=by simp[V.sub,hx]
    exact⟨[o],hs,by simp[vsub,hu'],hone,h.lf [o] x hs (hrx.leaf_one hone),hrx,.inl rfl⟩
 .have hny:∀cs,y≠.agg cs:=fun cs e=>hag ⟨cs,e⟩
  have hc:cellsOf y=[y]:=by cases y<;>first|rfl|exact absurd rfl (hny _)
  have hlf:leaf y=true:=by
   cases y<;>first|rfl|exact absurd rfl (hny _)|exact absurd rfl (h.notup _)
  have hg:=h.lf [] y rfl hlf
  have hone:v.oneCell'=true:=ty_ hg hr
  have hvc:v.cells=#[v]:=by cases v<;>simp[Value.oneCell']at hone<;>rfl
  refine⟨by simp[hvc,hc],fun o x u hx hu=>?_⟩
  rw[hc]at hx
  rw[hvc]at hu
  cases o with
  |succ o=>simp at hx
  | zero =>
    simp at hx hu
    subst hx
    subst hu
    exact⟨[],rfl,rfl,hone,hg,hr,.inr ⟨rfl,hny⟩⟩
theorem Filled.step{tm0 tm1:Nat->V}{cs:List V}{vs:List Value}{y:V}{v:Value}{off n:Nat}(h:Rel F g w S a)(hless:∀t,Less (tm0 t) (S.tm t))(hf:Filled F g w S a tm0 cs vs)(ht:Took F g w { S with tm:=tm0 } a tm1 y v)(hn:(cellsOf y).length=n)(ho:off+n<=cs.length) :
 Filled F g w S a tm1 (x3_ cs off (cellsOf y)) (q5_ vs off v.cells.toList):=by
 obtain⟨hlen,hcells⟩:=wy_ ht
 have hvl:v.cells.toList.length=n:=by omega
 have hcl:=hf.len
 have hsubO:∀r q k,Own F g w { S with tm:=tm1 } a r q k->Own F g w { S with tm:=tm0 } a r q k:=fun r q k ho=>by
  have hn0:∀t p d e0 e z xs,(({ S with tm:=tm0 }:St).tm t).sub p≠some (.lent d e0 e z xs):=fun t p d e0 e z xs hs=>h.notl t p d e0 e z xs ((hless t).sub_of hs rfl (by simp))
  exact zf_ (S:={ S with tm:=tm0 }) ht.less hn0 ho
 -- where a cell comes from
 have hget:∀(c:Nat) (x:V) (u:Value),(x3_ cs off (cellsOf y))[c]?=some x->(q5_ vs off v.cells.toList)[c]?=some u ->
  (∃o,c=off+o/\(cellsOf y)[o]?=some x/\v.cells.toList[o]?=some u)\/((c<off\/off+n<=c)/\cs[c]?=some x/\vs[c]?=some u):=by
  intro c x u hx hu
  unfold x3_ at hx
  unfold q5_ at hu
  have l1:(cs.take off).length=off:=by simp;omega
  have l2:(vs.take off).length=off:=by simp;omega
  rcases yym_ c off with hc|hc
  .rw[zzq_,zzo_ (by omega),zzu_,if_pos hc]at hx hu
   exact .inr ⟨.inl hc,hx,hu⟩
  .rcases yym_ c (off+n) with hc2|hc2
   .rw[zzq_,zzv_ (by omega),l1,zzo_ (by omega)]at hx
    rw[zzq_,zzv_ (by omega),l2,zzo_ (by omega)]at hu
    exact .inl ⟨c-off,by omega,hx,hu⟩
   .rw[zzv_ (by rw[zzr_,l1,hn];omega),zzA_]at hx
    rw[zzv_ (by rw[zzr_,l2,hvl];omega),zzA_]at hu
    simp only[zzr_,l1,l2,hn,hvl]at hx hu
    have e:off+n+(c-(off+n))=c:=by omega
    rw[e]at hx hu
    exact .inr ⟨.inr hc2,hx,hu⟩
 have hkt:∀(o e z:Nat) (xs:List V) (u:Value) (k:Nat),(cellsOf y)[o]?=some (.own true e z xs)->v.cells.toList[o]?=some u->rb u=some k->∃p,wQ_ y v p k (xs.length*z)/\(p=[o]\/(p=[]/\∀cs,y≠.agg cs)):=by
  intro o e z xs u k hx hu hk
  obtain⟨p,q1,q2,_,_,_,q3⟩:=hcells o _ u hx hu
  exact⟨p,⟨e,z,xs,u,q1,q2,hk,rfl⟩,q3⟩
 refine⟨?_,?_,?_,?_⟩
 .simp[x3_,q5_,hlen];omega
 .intro c x u hx hu
  rcases hget c x u hx hu with ⟨o,_,q1,q2⟩|⟨_,q1,q2⟩
  .obtain⟨p,k1,k2,k3,k4,k5,_⟩:=hcells o x u q1 q2
   exact⟨k5,k3,k4,fun b o' e=>ht.ptr p b o' (e ▸ k1)⟩
  .exact hf.cell c x u q1 q2
 .intro c e z xs u k hx hu hk
  rcases hget c _ u hx hu with ⟨o,_,q1,q2⟩|⟨_,q1,q2⟩
  .obtain⟨p,k1,_⟩:=hkt o e z xs u k q1 q2 hk
   obtain⟨⟨r,q,k2⟩,k3⟩:=ht.own p k _ k1
   exact⟨⟨r,q,tj_ hless h.notl k2⟩,k3⟩
  .obtain⟨k1,k2⟩:=hf.own c e z xs u k q1 q2 hk
   exact⟨k1,fun r q ho=>k2 r q (hsubO r q k ho)⟩
 .intro c c' e z e' z' xs xs' u u' k hx hu hk hx' hu' hk'
  rcases hget c _ u hx hu with ⟨o,hc,q1,q2⟩|⟨_,q1,q2⟩<;>rcases hget c' _ u' hx' hu' with ⟨o',hc',q1',q2'⟩|⟨_,q1',q2'⟩
  .obtain⟨p,k1,k2⟩:=hkt o e z xs u k q1 q2 hk
   obtain⟨p',k1',k2'⟩:=hkt o' e' z' xs' u' k q1' q2' hk'
   obtain⟨a1,a2,a3,a4,a5,a6,a7,_⟩:=k1
   obtain⟨b1,b2,b3,b4,b5,b6,b7,_⟩:=k1'
   have hpp:=ht.inj p p' k ⟨a1,a2,a3,a4,a5,a6,a7⟩ ⟨b1,b2,b3,b4,b5,b6,b7⟩
   have:o=o':=by
    rcases k2 with rfl|⟨rfl,hna⟩<;>rcases k2' with h2|⟨h2,hna'⟩
    .rw[h2]at hpp;injection hpp
    .rw[h2]at hpp;cases hpp
    .rw[h2]at hpp;cases hpp
    .have hc1:cellsOf y=[y]:=by cases y<;>first|rfl|exact absurd rfl (hna _)
     rw[hc1]at q1 q1'
     cases o<;>cases o'<;>simp at q1 q1' ⊢
   omega
  .obtain⟨p,k1,_⟩:=hkt o e z xs u k q1 q2 hk
   obtain⟨⟨r,q,k2⟩,_⟩:=ht.own p k _ k1
   exact absurd k2.own ((hf.own c' e' z' xs' u' k q1' q2' hk').2 r q)
  .obtain⟨p,k1,_⟩:=hkt o' e' z' xs' u' k q1' q2' hk'
   obtain⟨⟨r,q,k2⟩,_⟩:=ht.own p k _ k1
   exact absurd k2.own ((hf.own c e z xs u k q1 q2 hk).2 r q)
  .exact hf.inj c c' e z e' z' xs xs' u u' k q1 q2 hk q1' q2' hk'
end
end
section
section
variable{P:Program}{F:Fr}{g:Gh}{w:World}{S:St}{a:Act}
theorem uC_(h:Rel F g w S a){pl:Nat->Option (Nat×Nat)}:∀(parts:List (Nat×Operand)) (ps:List (Nat×Nat×Opd)) (tm0 tmN:Nat->V) (cs cs' ys:List V) (vs:List Value),wk_ F pl parts=some ps->(∀t,Less (tm0 t) (S.tm t))->(∀t∈F.sv,tm0 t=S.tm t)->Filled F g w S a tm0 cs vs ->
 takes S tm0 (ps.map (·.2.2))=some (ys,tmN)->vA_ cs (ps.map fun p=>(p.1,p.2.1)) ys=some cs' ->
 ∃vs',Instr.fill pl vs.toArray (parts.map fun p=>(p.1,a.eval p.2))=some vs'.toArray/\Filled F g w S a tmN cs' vs'/\(∀t,Less (tmN t) (S.tm t))/\(∀t∈F.sv,tmN t=S.tm t)
 | [], ps, tm0, tmN, cs, cs', ys, vs, hp, hl, ht, hf, hk, hfl => by
   simp[wk_]at hp
   subst hp
   simp[takes]at hk
   obtain⟨rfl,rfl⟩:=hk
   simp[vA_]at hfl
   subst hfl
   exact⟨vs,rfl,hf,hl,ht⟩
 | (i, x) :: parts, ps, tm0, tmN, cs, cs', ys, vs, hp, hl, ht, hf, hk, hfl => by
   simp only[wk_,zza_]at hp
   obtain⟨⟨off,n⟩,p1,q,p2,ps',p3,p4⟩:=hp
   injection p4 with p4
   subst p4
   simp only[List.map_cons,takes,zza_]at hk
   obtain⟨⟨y,tm1⟩,k1,⟨ys',tm2⟩,k2,k3⟩:=hk
   simp only[yya_,yyc_]at k3
   obtain⟨rfl,rfl⟩:=k3
   simp only[List.map_cons,vA_]at hfl
   split at hfl
   .next hc =>
    obtain⟨c1,c2⟩:=hc
    have h0:=h.less hl ht
    have ht1:Took F g w { S with tm:=tm0 } a tm1 y (a.eval x):=rh_ h0 p2 (by simp only[sw_];exact k1)
    have hf1:=Filled.step h hl hf ht1 c1 c2
    obtain⟨vs',r1,r2,r3,r4⟩:=uC_ h parts ps' tm1 tm2 _ cs' ys' _ p3 (fun t=>(ht1.less t).trans (hl t)) (fun t hm=>(ht1.tv t hm).trans (ht t hm)) hf1 k2 hfl
    refine⟨vs',?_,r2,r3,r4⟩
    have hcl:(a.eval x).cells.size=n:=by have:=(wy_ ht1).1;simp at this;omega
    rw[List.map_cons,pe_ p1 hcl (by simp[hf.len];omega)]
    simpa using r1
   .cases hfl
theorem Filled.zero(tm0:Nat->V){zs:List Value}(h1:∀c∈zs,c.oneCell'=true):Filled F g w S a tm0 (zs.map .s) zs:=by
 refine⟨by simp,fun c x u hx hu=>?_,fun c e z xs u k hx=>?_,fun c c' e z e' z' xs xs' u u' k hx=>?_⟩
 .rw[zzs_,hu]at hx
  simp at hx
  subst hx
  have:=h1 u (zzd_ hu)
  exact⟨.s this,this,rfl,fun b o e=>by cases e⟩
 .rw[zzs_]at hx
  cases hz:zs[c]?<;>rw[hz]at hx<;>cases hx
 .rw[zzs_]at hx
  cases hz:zs[c]?<;>rw[hz]at hx<;>cases hx
theorem ux_{cs:List V}{p:List Nat}{x:V}(hg:∀y∈cs,yW_ y=true)(hs:(V.agg cs).sub p=some x)(hl:leaf x=true):∃c,p=[c]/\cs[c]?=some x:=by
 cases p with
 |nil=>simp[V.sub]at hs;subst hs;simp[leaf]at hl
 | cons i p =>
   simp only[V.sub,zza_]at hs
   obtain⟨y,h1,h2⟩:=hs
   cases p with
   |nil=>simp[V.sub]at h2;subst h2;exact⟨i,rfl,h1⟩
   |cons j p=>exact absurd h2 (zV_ (wK_ (hg y (zzd_ h1))))
theorem rK_{x:V}{v:Value}(h:yW_ x=true):Link F g w S a x v:=by cases x<;>simp[yW_]at h<;>trivial
theorem oi_{x:V}(h:yW_ x=true):epOf x=0:=by cases x<;>simp[yW_]at h<;>rfl
theorem Filled.gl{tm1:Nat->V}{cs:List V}{vs:List Value}(hf:Filled F g w S a tm1 cs vs):∀y∈cs,yW_ y=true:=by
 intro y hy
 obtain⟨c,hc,rfl⟩:=List.getElem_of_mem hy
 have hl:=hf.len
 exact(hf.cell c cs[c] (vs[c]'(by omega)) (zzf_ hc) (zzf_ (by omega))).2.2.1
theorem vD_(h:Rel F g w S a){tm1:Nat->V}(hless:∀t,Less (tm1 t) (S.tm t))(htv:∀t∈F.sv,tm1 t=S.tm t){cs:List V}{vs:List Value}(hf:Filled F g w S a tm1 cs vs){d:Nat}(hd:d<F.N)(hdv:d∉F.sv) :
 Ends F g w S a { S with tm:=upd tm1 d (.agg cs) } (a.put (some d) (.agg vs.toArray)) w:=by
 have hgl:=hf.gl
 have hsub:=fun p x hs hl=>ux_ (cs:=cs) (p:=p) (x:=x) hgl hs hl
 have hrep:Rep g w (.agg cs) (.agg vs.toArray):=by
  refine .agg (by simp[hf.len]) (fun c hc=>?_) (fun j u c hu hc=>(hf.cell j u c hu (by simpa using hc)).1)
  simp at hc
  obtain⟨j,hj,rfl⟩:=List.getElem_of_mem hc
  have hl:=hf.len
  exact(hf.cell j (cs[j]'(by omega)) vs[j] (zzf_ (by omega)) (zzf_ hj)).2.1
 have hoi:∀p k m,wQ_ (.agg cs) (.agg vs.toArray) p k m->∃c e z xs u,p=[c]/\cs[c]?=some (.own true e z xs)/\vs[c]?=some u/\rb u=some k/\m=xs.length*z:=by
  intro p k m ⟨e,z,xs,u,q1,q2,q3,q4⟩
  obtain⟨c,rfl,q5⟩:=hsub p _ q1 rfl
  simp only[vsub,zza_]at q2
  obtain⟨u',q6,q7⟩:=q2
  injection q7 with q7
  subst q7
  exact⟨c,e,z,xs,u',rfl,q5,by simpa using q6,q3,q4⟩
 have hoi':∀p k,zD_ (.agg cs) (.agg vs.toArray) p k->∃m,wQ_ (.agg cs) (.agg vs.toArray) p k m:=fun p k ⟨e,z,xs,u,q1,q2,q3⟩=>⟨_,e,z,xs,u,q1,q2,q3,rfl⟩
 have hnl:∀p d e0 e z xs,(V.agg cs).sub p≠some (.lent d e0 e z xs):=fun p d e0 e z xs hs=>by
  obtain⟨c,_,q⟩:=hsub p _ hs rfl
  have:=hgl _ (zzd_ q)
  simp[yW_]at this
 refine⟨g,h.put hless htv hd hdv hrep (by simp) (fun p b o hs=>?_) hnl (fun p x hs=>?_) (fun p x u hs hu=>?_) (fun p k q=>?_) (fun p p' k q q'=>?_) (fun p k m q l d e z xs v' h1 h2 h3=>?_),⟨rfl,rfl,rfl,zzl_ _,fun _ _ _=>⟨rfl,rfl⟩,fun k ho=>.inl ?_⟩,fun _ _=>rfl⟩
 .obtain⟨c,_,q⟩:=hsub p _ hs rfl
  have hl:=hf.len
  have hc:=(zzc_.1 q).1
  exact(hf.cell c _ (vs[c]'(by omega)) q (zzf_ (by omega))).2.2.2 b o rfl
 .by_cases hl:leaf x=true
  .obtain⟨c,_,q⟩:=hsub p x hs hl
   rw[oi_ (hgl x (zzd_ q))]
   exact zzn_ _
  .cases x<;>simp[leaf]at hl<;>exact zzn_ _
 .by_cases hl:leaf x=true
  .obtain⟨c,_,q⟩:=hsub p x hs hl
   exact rK_ (hgl x (zzd_ q))
  .cases x<;>simp[leaf]at hl<;>trivial
 .obtain⟨m,q⟩:=hoi' p k q
  obtain⟨c,e,z,xs,u,rfl,q1,q2,q3,_⟩:=hoi p k m q
  obtain⟨⟨r,q',k1⟩,k2⟩:=hf.own c e z xs u k q1 q2 q3
  obtain⟨k3,k4,k5⟩:=h.ownI _ _ _ k1.own
  exact⟨k3,k4,k5,fun r p' _=>k2 r p'⟩
 .obtain⟨m,q⟩:=hoi' p k q
  obtain⟨m',q'⟩:=hoi' p' k q'
  obtain⟨c,e,z,xs,u,rfl,q1,q2,q3,_⟩:=hoi p k m q
  obtain⟨c',e',z',xs',u',rfl,q1',q2',q3',_⟩:=hoi p' k m' q'
  rw[hf.inj c c' e z e' z' xs xs' u u' k q1 q2 q3 q1' q2' q3']
 .obtain⟨c,e2,z2,xs2,u,rfl,q1,q2,q3,rfl⟩:=hoi p k m q
  obtain⟨⟨r,q',k1⟩,_⟩:=hf.own c e2 z2 xs2 u k q1 q2 q3
  exact h.lentl l d e z xs v' k h1 h2 h3 r q' _ k1
 .rcases ho with ⟨r,p,ho⟩|ho
  .rcases xm_ h hless hd hdv (by simp) hnl ho with ⟨_,q⟩|q
   .obtain⟨m,q⟩:=hoi' p k q
    obtain⟨c,e,z,xs,u,rfl,q1,q2,q3,_⟩:=hoi p k m q
    obtain⟨⟨r,q',k1⟩,_⟩:=hf.own c e z xs u k q1 q2 q3
    exact .inl ⟨r,q',k1.own⟩
   .exact .inl ⟨r,p,q⟩
  .exact .inr ho
theorem sa_{fs:List Field}{pl:List (Nat×Nat)}(h:vq_ P fs=some pl):fs.mapM (fun f=>(P.info? f.type).map fun i=>(f.offset,i.size))=some pl:=by
 induction fs generalizing pl with
 |nil=>simp[vq_]at h;subst h;rfl
 | cons f r ih =>
   simp only[vq_,zza_]at h
   obtain⟨n,h1,q,h2,h3⟩:=h
   injection h3 with h3
   subst h3
   unfold sizeT at h1
   obtain⟨i,hi,hin⟩:=zzb_.1 h1
   simp[List.mapM_cons,hi,hin,ih h2]
theorem mk_(h:Rel F g w S a){o:Oper}{t:TypeId}{parts:Array (Nat×Operand)}{z:Value}{ps:List (Nat×Nat×Opd)}{pl:Nat->Option (Nat×Nat)}{d:Nat}(ho:o.op=.build t parts)(hz:wX_ P t=some z)(hps:wk_ F pl parts.toList=some ps)
 (hpl:∀(vs:List (Nat×Value)) (cells:Array Value),Instr.fill pl z.cells vs=some cells->P.built t vs=some cells) (hd:d<F.N) (hdv:d∉F.sv) {ys cs:List V} {tm1:Nat->V}
 (hk:takes S S.tm (ps.map (·.2.2))=some (ys,tm1)) (hf:vA_ (z.cells.toList.map .s) (ps.map fun p=>(p.1,p.2.1)) ys=some cs):QEnds P F g w S a o d (.agg cs) tm1:=by
 obtain⟨_,_,_,_,h1⟩:=yn_ hz
 obtain⟨vs',r1,r2,r3,r4⟩:=uC_ h parts.toList ps S.tm tm1 _ cs ys z.cells.toList hps (fun t=>Less.refl _) (fun _ _=>rfl) (Filled.zero _ h1) hk hf
 refine⟨.agg vs'.toArray,w,?_,vD_ h r3 r4 r2 hd hdv⟩
 have hb:=hpl _ _ (by simpa using r1)
 have:(parts.map fun (p:Nat×Operand)=>(p.1,a.eval p.2)).toList=parts.toList.map fun p=>(p.1,a.eval p.2):=by simp
 simp only[execOp,ho]
 rw[Sem.run_bind,run_build w t _ _ (by rw[this];exact hb)]
 simp
end
end
end Go.Proofs.Ytnbppaolinopeaa
