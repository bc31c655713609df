/- Parts of the proof of a law of chapter 30, put behind one another. -/
import Derived.Test.YtnbppaolinopeaaZD
import Derived.WalkKit
import Derived.RegionTactic
import Derived.Deep.Draws
import Derived.Deep.RegionLaw
import Derived.Lib.Hide
import Derived.Lib.Overlaps
import Derived.Lib.AppendZerosOnto
import Derived.Laws.IdiomCopy
import Derived.Laws.Externs
import Derived.Laws.NewBlocks
import Derived.Shelf.RegionOpenPlain
import Derived.Below
import Derived.Deep.LoopGhost
import Derived.Great.BuildSlice
set_option linter.unusedVariables false
set_option maxHeartbeats 64000000
set_option maxRecDepth 100000
set_option linter.unusedSimpArgs false
namespace Go.Proofs.Ytnbppaolinopeaa
open Go.RowKit Go.Proofs
section
theorem qC_(to k e s:Int):(pc to k e s).length=19/\∀c∈pc to k e s,c.oneCell'=true:=⟨rfl,zzh_.1 rfl⟩
theorem w5_(k e s:Int):∀c∈mc k e s,c.oneCell'=true:=zzh_.1 rfl
theorem Tk.scal(t:Tk):∀c∈t.c,c.oneCell'=true:=zzh_.1 rfl
theorem Tk.one(t:Tk):One t.v (.agg t.c.toArray):=One.agg t.scal
theorem yF_(x:Int):One (.s (.int .i64 x)) (.int .i64 x):=One.s rfl
section
variable{t:Tk}{n:Nat}{i:Int}{e:Int}
theorem vb_(h:t.ok n i):Yes 34 #[.agg t.c.toArray,.int .i64 i,.int .i64 n]:=rV_ (us:=[.agg t.c.toArray,.int .i64 i,.int .i64 n]) (.cons t.one (.cons (yF_ _) (.cons (yF_ _) .nil))) (re_ h)
theorem vC_(he:0<=e/\e<=1073741824):Yes 44 #[.int .i64 e]:=rV_ (us:=[.int .i64 e]) (.cons (yF_ _) .nil) (uk_ e he)
theorem qH_{x:Int}(h:Othr n i x):Yes 41 #[.int .i64 x,.int .i64 i,.int .i64 n]:=rV_ (us:=[.int .i64 x,.int .i64 i,.int .i64 n]) (.cons (yF_ _) (.cons (yF_ _) (.cons (yF_ _) .nil))) (sM_ x i n h)
theorem o2_(t:Tk)(i n e:Int):Ones [t.v,.s (.int .i64 i),.s (.int .i64 n),.s (.int .i64 e)] [.agg t.c.toArray,.int .i64 i,.int .i64 n,.int .i64 e]:=.cons t.one (.cons (yF_ _) (.cons (yF_ _) (.cons (yF_ _) .nil)))
theorem qJ_(t:Tk)(i n e k s:Int):Ones [t.v,.s (.int .i64 i),.s (.int .i64 n),.s (.int .i64 e),.agg ((mc k e s).map .s)] [.agg t.c.toArray,.int .i64 i,.int .i64 n,.int .i64 e,.agg (mc k e s).toArray]:=.cons t.one (.cons (yF_ _) (.cons (yF_ _) (.cons (yF_ _) (.cons (One.agg (w5_ _ _ _)) .nil))))
theorem tn_:∀cs:List Value,(none:Option (List Value))=some cs->cs.length=19/\∀c∈cs,c.oneCell'=true:=fun _ h=>by cases h
theorem sA_(to k e s:Int):∀cs:List Value,some (pc to k e s)=some cs->cs.length=19/\∀c∈cs,c.oneCell'=true:=fun _ h=>by cases h;exact qC_ _ _ _ _
theorem nW_(h:t.ok n i)(he:0<=e/\e<=1073741824)(hw:t.want=false)(hu:t.using_=false):PC Try.prog 43 [t.v,.s (.int .i64 i),.s (.int .i64 n),.s (.int .i64 e)] (fun r=>r=.tup [(w1_ t).v,.list 19 ((xA_ t i).map (·.v e)),.s (.int .i64 0)]):=by
 have hV:=vb_ h
 have hE:=vC_ he
 obtain⟨has,want,us,last,next⟩:=t
 simp only at hw hu
 subst hw
 subst hu
 cases has
 .have:=xv_ (o2_ ⟨false,false,false,last,next⟩ i n e) (sA_ _ _ _ _) (fun w=>want_ask w i n last next e hV hE)
  simpa[w1_,xA_,psV,Ms.v,Ms.k,Ms.s] using this
 .have:=xv_ (o2_ ⟨true,false,false,last,next⟩ i n e) tn_ (fun w=>want_has w i n last next e hV hE)
  simpa[w1_,xA_,psV] using this
theorem nY_(h:t.ok n i)(he:0<=e/\e<=1073741824)(hu:t.using_=true):PC Try.prog 42 [t.v,.s (.int .i64 i),.s (.int .i64 n),.s (.int .i64 e)] (fun r=>r=.tup [(xx_ t).v,.list 19 ((xy_ t).map (·.v e)),.s (.int .i64 0)]):=by
 have hV:=vb_ h
 have hE:=vC_ he
 have hh:=h.uh hu
 have hw:t.want=false:=by
  cases q:t.want
  .rfl
  .rw[h.wh q]at hh;cases hh
 clear h
 obtain⟨has,want,us,last,next⟩:=t
 simp only at hw hu hh
 subst hw
 subst hu
 subst hh
 by_cases hx:next=-1
 .subst hx
  have:=xv_ (o2_ ⟨true,false,true,last,-1⟩ i n e) tn_ (fun w=>pm_ w i n last e hV hE)
  simpa[xx_,xy_,psV] using this
 .have:=xv_ (o2_ ⟨true,false,true,last,next⟩ i n e) (sA_ _ _ _ _) (fun w=>done_pass w i n last next e hx hV hE)
  simpa[xx_,xy_,psV,hx,Ms.v,Ms.k,Ms.s] using this
theorem pz_{m:Ms}(h:t.ok n i)(he:0<=e/\e<=1073741824)(htok:m.tok=true->t.want=true)(hreq:m.tok=false->Othr n i m.org):PC Try.prog 39 [t.v,.s (.int .i64 i),.s (.int .i64 n),.s (.int .i64 e),m.mv e] (fun r=>r=.tup [(hearT t m).v,.list 19 ((hearM t m).map (·.v e)),.s (.int .i64 0)]):=by
 have hV:=vb_ h
 have hE:=vC_ he
 cases hm:m.tok
 .have hO:=qH_ (hreq hm)
  have hmv:m.mv e=.agg ((mc 12 e m.org).map .s):=by simp[Ms.mv,Ms.k,Ms.s,hm]
  rw[hmv]
  clear h htok hreq
  obtain⟨has,want,us,last,next⟩:=t
  by_cases hl:last=-1
  .subst hl
   cases has
   .have:=xv_ (qJ_ ⟨false,want,us,-1,next⟩ i n e 12 m.org) tn_ (fun w=>rG_ w want us i n next e m.org hV hE hO)
    simpa[hearT,hearM,psV,hm] using this
   .cases us
    .have:=xv_ (qJ_ ⟨true,want,false,-1,next⟩ i n e 12 m.org) (sA_ _ _ _ _) (fun w=>p3_ w want i n next e m.org hV hE hO)
     simpa[hearT,hearM,psV,hm,Ms.v,Ms.k,Ms.s] using this
    .have:=xv_ (qJ_ ⟨true,want,true,-1,next⟩ i n e 12 m.org) tn_ (fun w=>rF_ w want i n next e m.org hV hE hO)
     simpa[hearT,hearM,psV,hm] using this
  .have:=xv_ (qJ_ ⟨has,want,us,last,next⟩ i n e 12 m.org) (sA_ _ _ _ _) (fun w=>oh_ w has want us i n last next e m.org hl hV hE hO)
   simpa[hearT,hearM,psV,hm,hl,Ms.v,Ms.k,Ms.s] using this
 .have hw:=htok hm
  have hh:=h.wh hw
  have hu:t.using_=false:=by
   cases q:t.using_
   .rfl
   .rw[h.uh q]at hh;cases hh
  clear h htok hreq
  have hmv:m.mv e=.agg ((mc 13 e 0).map .s):=by simp[Ms.mv,Ms.k,Ms.s,hm]
  rw[hmv]
  obtain⟨has,want,us,last,next⟩:=t
  simp only at hw hu hh
  subst hw
  subst hu
  subst hh
  have:=xv_ (qJ_ ⟨false,true,false,last,next⟩ i n e 13 0) tn_ (fun w=>og_ w i n last next e hV hE)
  simpa[hearT,hearM,psV,hm] using this
end
end
def a13b:ACode :=
 (.seq (qP 0 [
 qN 5 (.box 9 (.v 0)),
 qN 9 (.box 18 (.v 4)),
 qN 10 (.allo [(.int .i64 0),(.bool false),(.bool false),(.slice none 0 0),(.bool false),(.bool false),(.bool false),(.int .i64 0),(.int .i64 0)]),
 qV 5 (.c (.slice none 0 0)),
 qV 6 (qI 0)])
 (.seq (.seq (qP 1 [
 qN 18 (qL 9 5),
 qN 19 (qm 1),
 qN 20 (qm 2),
 qN 21 (.call 15 [(T 18),(T 19),(T 20)]),
 qN 22 (.un .not (T 21))])
 (.cond (T 22)
 (.seq (qP 2 [
 qN 23 (.call 21 [(qI 2)]),
 qN 24 (.ext 23 0),
 qN 25 (.ext 23 1),
 qN 26 (.ext 23 2),
 qS 9 (T 10) (T 24),
 qV 5 (T 25),
 qV 6 (T 26)])
 .ret)
 .skip))
 (.seq (.seq (qP 3 [
 qN 27 (qL 9 5),
 qN 28 (qm 1),
 qN 29 (qm 2),
 qN 30 (qm 3),
 qN 31 (qL 18 9),
 qN 32 (.call 25 [(T 27),(T 28),(T 29),(T 30),(T 31)]),
 qV 7 (T 32)])
 (.seq (qP 4 [
 qN 33 (qm 7),
 qN 34 (qi .neq 33 0)])
 (.cond (T 34)
 (.seq (qP 5 [
 qN 35 (qm 7),
 qN 36 (.call 21 [(T 35)]),
 qN 37 (.ext 36 0),
 qN 38 (.ext 36 1),
 qN 39 (.ext 36 2),
 qS 9 (T 10) (T 37),
 qV 5 (T 38),
 qV 6 (T 39)])
 .ret)
 .skip)))
 (.seq (qP 6 [
 qN 40 (qL 9 5),
 qN 41 (.call 26 [(T 40)]),
 qS 9 (T 5) (T 41)])
 (.seq (.seq (qP 7 [
 qN 42 (qf 0 9),
 qN 43 (ql 1 42)])
 (.block 0
 (.seq (.block 4
 (.seq (.block 3
 (.seq (.block 2
 (.seq (.block 1
 (.seq (.seq (.seq (qP 8 [
 qN 45 (qi .eql 43 14),
 qV 8 (T 45)])
 (.cond (.v 8)
 (.exit 1)
 .skip))
 (.seq (.seq (qP 9 [
 qN 47 (qi .eql 43 15),
 qV 9 (T 47)])
 (.cond (.v 9)
 (.exit 2)
 .skip))
 (.seq (qP 10 [
 qN 49 (qi .eql 43 13),
 qV 10 (T 49)])
 (.cond (.v 10)
 (.exit 3)
 .skip))))
 (.exit 4)))
 (.seq (.seq (qR 11 [.freeze (.cell 0 3)] [
 qN 51 (qL 9 5),
 qN 52 (qm 1),
 qN 53 (qm 3),
 qN 54 (qf 11 9),
 qN 55 (ql 1 54),
 qN 56 (.call 27 [(T 51),(T 52),(T 53),(T 55)]),
 qN 50 (qt 56),
 qN 57 (.ext 50 0),
 qN 58 (.ext 50 1),
 qN 14 (.allo [(.int .i64 0),(.bool false),(.bool false),(.slice none 0 0),(.bool false),(.bool false),(.bool false),(.int .i64 0),(.int .i64 0)]),
 qS 9 (T 14) (T 57),
 qV 11 (T 58)])
 (.seq (qR 12 [.lend (.cell 3 0) 59,.lend (.cell 3 1) 59,.lend (.cell 3 2) 59,.lend (.cell 3 3) 59,.lend (.cell 3 4) 59,.lend (.cell 3 5) 59,.lend (.cell 3 6) 59,.lend (.cell 3 7) 59,.lend (.cell 3 8) 59] [
 qN 59 (qL 9 14),
 qN 60 (qm 11),
 qS 9 (T 10) (T 59),
 qV 5 (T 60),
 qV 6 (qI 0)])
 .ret))
 (.exit 0))))
 (.seq (.seq (.seq (qP 13 [
 qN 61 (qf 2 5),
 qN 62 (ql 1 61),
 qN 63 (.un .not (T 62))])
 (.cond (T 63)
 (.seq (qP 14 [
 qN 64 (.call 21 [(qI 14)]),
 qN 65 (.ext 64 0),
 qN 66 (.ext 64 1),
 qN 67 (.ext 64 2),
 qS 9 (T 10) (T 65),
 qV 5 (T 66),
 qV 6 (T 67)])
 .ret)
 .skip))
 (.seq (qP 15 [
 qN 68 (qf 3 5),
 qN 69 (ql 1 68),
 qN 70 (qm 3),
 qN 71 (.ia 1 (T 69) (T 70)),
 ⟨.none,.st 1 (T 71) (.c (.bool true)),none⟩])
 (.seq (.seq (qR 16 [.freeze (.cell 0 3)] [
 qN 72 (qf 3 5),
 qN 73 (ql 1 72),
 qN 74 (.call 28 [(T 73)]),
 qN 75 (.un .not (T 74))])
 (.cond (T 75)
 (.seq (qR 17 [.lend (.cell 0 0) 76,.lend (.cell 0 1) 76,.lend (.cell 0 2) 76,.lend (.cell 0 3) 76,.lend (.cell 0 4) 76,.lend (.cell 0 5) 76,.lend (.cell 0 6) 76,.lend (.cell 0 7) 76,.lend (.cell 0 8) 76] [
 qN 76 (qL 9 5),
 qS 9 (T 10) (T 76),
 qV 5 (.c (.slice none 0 0)),
 qV 6 (qI 0)])
 .ret)
 .skip))
 (.seq (qP 18 [
 qN 78 (qL 9 5),
 qN 79 (.call 23 [(T 78)]),
 qN 77 (qt 79),
 qN 80 (.ext 77 0),
 qN 81 (.ext 77 1),
 qN 16 (.allo [(.int .i64 0),(.bool false),(.bool false),(.slice none 0 0),(.bool false),(.bool false),(.bool false),(.int .i64 0),(.int .i64 0)]),
 qS 9 (T 16) (T 80),
 qV 12 (T 81)])
 (.seq (qP 19 [
 qN 82 (qL 9 16),
 qN 83 (qm 12),
 qS 9 (T 10) (T 82),
 qV 5 (T 83),
 qV 6 (qI 0)])
 .ret)))))
 (.exit 0))))
 (.seq (qP 20 [
 qN 84 (qf 2 5),
 qN 85 (ql 1 84)])
 (.cond (T 85)
 (.seq (qP 21 [
 qN 86 (.call 21 [(qI 14)]),
 qN 87 (.ext 86 0),
 qN 88 (.ext 86 1),
 qN 89 (.ext 86 2),
 qS 9 (T 10) (T 87),
 qV 5 (T 88),
 qV 6 (T 89)])
 .ret)
 .skip))))
 (.seq (.seq (qP 22 [
 qN 90 (qf 1 5),
 qN 91 (ql 1 90)])
 (.cond (T 91)
 (.seq (qP 23 [
 qN 92 (.call 21 [(qI 19)]),
 qN 93 (.ext 92 0),
 qN 94 (.ext 92 1),
 qN 95 (.ext 92 2),
 qS 9 (T 10) (T 93),
 qV 5 (T 94),
 qV 6 (T 95)])
 .ret)
 .skip))
 (.exit 0)))))
 (.seq (qR 24 [.freeze (.cell 0 3)] [
 qN 96 (qL 9 5),
 qN 97 (qm 1),
 qN 98 (qm 2),
 qN 99 (qL 18 9),
 qN 100 (.call 29 [(T 96),(T 97),(T 98),(T 99)]),
 qN 101 (.ext 100 0),
 qN 102 (.ext 100 1),
 qN 103 (.ext 100 2),
 qS 9 (T 10) (T 101),
 qV 5 (T 102),
 qV 6 (T 103)])
 .ret))))))
theorem c13b:zC_ Try.prog 13 F13=some (5,zs_ a13b,[.c 10 9 true,.v 5,.v 6])/\zq_ a13b=true:=⟨by kernel_rfl,by kernel_rfl⟩
def a23b:ACode :=
 (.seq (qP 0 [
 qN 1 (.box 9 (.v 0)),
 qN 2 (.allo [(.int .i64 0),(.bool false),(.bool false),(.slice none 0 0),(.bool false),(.bool false),(.bool false),(.int .i64 0),(.int .i64 0)]),
 qV 1 (.c (.slice none 0 0))])
 (.seq (qP 1 [
 qN 5 (qf 2 1),
 ⟨.none,.st 1 (T 5) (.c (.bool false)),none⟩])
 (.seq (qP 2 [
 qN 6 (qf 3 1),
 ⟨.none,.st 1 (T 6) (.c (.slice none 0 0)),none⟩])
 (.seq (qP 3 [
 qN 7 (qf 4 1),
 qN 8 (qf 0 7),
 ⟨.none,.st 1 (T 8) (.c (.bool true)),none⟩])
 (.seq (.seq (qP 4 [
 qN 9 (qf 4 1),
 qN 10 (qf 1 9),
 qN 11 (ql 1 10)])
 (.cond (T 11)
 (.seq (qP 5 [
 qN 12 (qf 4 1),
 qN 13 (qf 2 12),
 ⟨.none,.st 1 (T 13) (.c (.bool true)),none⟩])
 (.seq (qP 6 [
 qN 14 (qf 4 1),
 qN 15 (qf 1 14),
 ⟨.none,.st 1 (T 15) (.c (.bool false)),none⟩])
 (.seq (qR 7 [.lend (.cell 0 0) 16,.lend (.cell 0 1) 16,.lend (.cell 0 2) 16,.lend (.cell 0 3) 16,.lend (.cell 0 4) 16,.lend (.cell 0 5) 16,.lend (.cell 0 6) 16,.lend (.cell 0 7) 16,.lend (.cell 0 8) 16] [
 qN 16 (qL 9 1),
 qS 9 (T 2) (T 16),
 qV 1 (.c (.slice none 0 0))])
 .ret)))
 .skip))
 (.seq (.seq (qP 8 [
 qN 17 (qf 4 1),
 qN 18 (qf 4 17),
 qN 19 (ql 1 18),
 qN 20 (.bin .eql (T 19) (.c (.int .i64 (-1))))])
 (.cond (T 20)
 (.seq (qR 9 [.lend (.cell 0 0) 21,.lend (.cell 0 1) 21,.lend (.cell 0 2) 21,.lend (.cell 0 3) 21,.lend (.cell 0 4) 21,.lend (.cell 0 5) 21,.lend (.cell 0 6) 21,.lend (.cell 0 7) 21,.lend (.cell 0 8) 21] [
 qN 21 (qL 9 1),
 qS 9 (T 2) (T 21),
 qV 1 (.c (.slice none 0 0))])
 .ret)
 .skip))
 (.seq (qP 10 [
 qN 22 (qf 4 1),
 qN 23 (qf 4 22),
 qN 24 (ql 1 23),
 qN 25 (qf 0 1),
 qN 26 (ql 1 25),
 qN 27 (.call 24 [(T 24),(qI 13),(T 26)]),
 qN 28 (.bls 64 19 (.agg #[(.int .i64 0),(.int .i64 0),(.int .i64 0),(.int .i64 0),(.int .i64 0),(.int .i64 0),(.string (ByteArray.mk #[])),(.int .i64 0),(.int .i64 0),(.int .i64 0),(.int .i64 0),(.int .i64 0),(.int .i64 0),(.int .i64 0),(.int .i64 0),(.bool false),(.slice none 0 0),(.slice none 0 0),(.slice none 0 0)]) 1 [(0,(T 27))]),
 qV 2 (T 28)])
 (.seq (qP 11 [
 qN 29 (qf 4 1),
 qN 30 (qf 0 29),
 ⟨.none,.st 1 (T 30) (.c (.bool false)),none⟩])
 (.seq (qP 12 [
 qN 31 (qf 4 1),
 qN 32 (qf 4 31),
 ⟨.none,.st 1 (T 32) (.c (.int .i64 (-1))),none⟩])
 (.seq (qR 13 [.freeze (.var 2)] [
 qN 33 (qL 9 1),
 qN 34 (qm 2),
 qS 9 (T 2) (T 33),
 qV 1 (T 34)])
 .ret))))))))))
theorem c23b:zC_ Try.prog 23 F23=some (1,zs_ a23b,[.c 2 9 true,.v 1])/\zq_ a23b=true:=⟨by kernel_rfl,by kernel_rfl⟩
def a27b:ACode :=
 (.seq (qP 0 [
 qN 4 (.box 9 (.v 0)),
 qN 8 (.allo [(.int .i64 0),(.bool false),(.bool false),(.slice none 0 0),(.bool false),(.bool false),(.bool false),(.int .i64 0),(.int .i64 0)]),
 qV 4 (.c (.slice none 0 0))])
 (.seq (qP 1 [
 qN 12 (qL 9 4),
 qN 13 (qm 3),
 qN 14 (.call 22 [(T 12),(T 13)]),
 qS 9 (T 4) (T 14)])
 (.seq (qP 2 [
 qN 15 (qm 2),
 qN 16 (qf 4 4),
 qN 17 (qf 3 16),
 qS 1 (T 17) (T 15)])
 (.seq (qP 3 [
 qN 18 (qm 2),
 qN 19 (qm 3),
 qN 20 (.call 24 [(T 18),(qI 15),(T 19)]),
 qN 21 (.bls 64 19 (.agg #[(.int .i64 0),(.int .i64 0),(.int .i64 0),(.int .i64 0),(.int .i64 0),(.int .i64 0),(.string (ByteArray.mk #[])),(.int .i64 0),(.int .i64 0),(.int .i64 0),(.int .i64 0),(.int .i64 0),(.int .i64 0),(.int .i64 0),(.int .i64 0),(.bool false),(.slice none 0 0),(.slice none 0 0),(.slice none 0 0)]) 1 [(0,(T 20))]),
 qV 5 (T 21)])
 (.seq (.seq (qP 4 [
 qN 22 (qf 4 4),
 qN 23 (qf 1 22),
 qN 24 (ql 1 23)])
 (.cond (T 24)
 (.seq (qP 5 [
 qN 25 (qm 2),
 qN 26 (qm 3),
 qN 27 (.call 24 [(T 25),(qI 12),(T 26)]),
 qN 11 (.allo [(.int .i64 0),(.int .i64 0),(.int .i64 0),(.int .i64 0),(.int .i64 0),(.int .i64 0),(.string (ByteArray.mk #[])),(.int .i64 0),(.int .i64 0),(.int .i64 0),(.int .i64 0),(.int .i64 0),(.int .i64 0),(.int .i64 0),(.int .i64 0),(.bool false),(.slice none 0 0),(.slice none 0 0),(.slice none 0 0)]),
 qS 19 (T 11) (T 27)])
 (.seq (qP 6 [
 qN 28 (qm 1),
 qN 29 (qf 1 11),
 qN 30 (qf 12 29),
 qS 1 (T 30) (T 28)])
 (.seq (qR 7 [.lend (.var 5) 34] [
 qN 31 (qm 5),
 qN 32 (qL 19 11),
 qN 33 (.bls 64 19 (.agg #[(.int .i64 0),(.int .i64 0),(.int .i64 0),(.int .i64 0),(.int .i64 0),(.int .i64 0),(.string (ByteArray.mk #[])),(.int .i64 0),(.int .i64 0),(.int .i64 0),(.int .i64 0),(.int .i64 0),(.int .i64 0),(.int .i64 0),(.int .i64 0),(.bool false),(.slice none 0 0),(.slice none 0 0),(.slice none 0 0)]) 1 [(0,(T 32))]),
 qN 34 (.app 64 19 208 (T 31) (T 33)),
 qV 5 (T 34)])
 (qP 8 [
 qN 35 (qf 4 4),
 qN 36 (qf 3 35),
 ⟨.none,.st 1 (T 36) (.c (.int .i64 (-1))),none⟩]))))
 .skip))
 (.seq (qR 9 [.freeze (.var 5)] [
 qN 37 (qL 9 4),
 qN 38 (qm 5),
 qS 9 (T 8) (T 37),
 qV 4 (T 38)])
 .ret))))))
theorem c27b:zC_ Try.prog 27 F27=some (4,zs_ a27b,[.c 8 9 true,.v 4])/\zq_ a27b=true:=⟨by kernel_rfl,by kernel_rfl⟩
def a10b:ACode :=
 (.seq (qP 0 [
 qN 3 (.box 9 (.v 0)),
 qN 6 (.allo [(.int .i64 0),(.bool false),(.bool false),(.slice none 0 0),(.bool false),(.bool false),(.bool false),(.int .i64 0),(.int .i64 0)]),
 qV 3 (.c (.slice none 0 0)),
 qV 4 (qI 0)])
 (.seq (.seq (qP 1 [
 qN 14 (qL 9 3),
 qN 15 (qm 1),
 qN 16 (qm 2),
 qN 17 (.call 15 [(T 14),(T 15),(T 16)]),
 qN 18 (.un .not (T 17))])
 (.cond (T 18)
 (.seq (qP 2 [
 qN 19 (.call 21 [(qI 2)]),
 qN 20 (.ext 19 0),
 qN 21 (.ext 19 1),
 qN 22 (.ext 19 2),
 qS 9 (T 6) (T 20),
 qV 3 (T 21),
 qV 4 (T 22)])
 .ret)
 .skip))
 (.seq (qP 3 [
 qN 23 (qf 0 3),
 qN 24 (ql 1 23),
 qN 25 (qi .add 24 1),
 qV 5 (T 25)])
 (.seq (.block 0
 (.loop
 (.seq (.seq (qP 4 [
 qN 26 (qm 5),
 qN 27 (qm 2),
 qN 28 (qb .rem 26 27),
 qN 29 (qm 1),
 qN 30 (qb .neq 28 29)])
 (.cond (T 30)
 .skip
 (.exit 0)))
 (.block 1
 (qP 5 [
 qN 31 (qm 5),
 qN 32 (qi .add 31 1),
 qV 5 (T 32)])))))
 (.seq (.seq (qP 6 [
 qN 33 (qm 5),
 qN 34 (qi .gtr 33 1073741824)])
 (.cond (T 34)
 (.seq (qP 7 [
 qN 35 (.call 21 [(qI 16)]),
 qN 36 (.ext 35 0),
 qN 37 (.ext 35 1),
 qN 38 (.ext 35 2),
 qS 9 (T 6) (T 36),
 qV 3 (T 37),
 qV 4 (T 38)])
 .ret)
 .skip))
 (.seq (qP 8 [
 qN 39 (qL 9 3),
 qN 40 (qm 5),
 qN 41 (.call 22 [(T 39),(T 40)]),
 qS 9 (T 3) (T 41)])
 (.seq (.seq (qP 9 [
 qN 42 (qm 2),
 qN 43 (qi .eql 42 1)])
 (.cond (T 43)
 (.seq (qR 10 [.freeze (.cell 0 3)] [
 qN 45 (qL 9 3),
 qN 46 (.call 23 [(T 45)]),
 qN 44 (qt 46),
 qN 47 (.ext 44 0),
 qN 48 (.ext 44 1),
 qN 10 (.allo [(.int .i64 0),(.bool false),(.bool false),(.slice none 0 0),(.bool false),(.bool false),(.bool false),(.int .i64 0),(.int .i64 0)]),
 qS 9 (T 10) (T 47),
 qV 6 (T 48)])
 (.seq (qR 11 [.lend (.cell 2 0) 49,.lend (.cell 2 1) 49,.lend (.cell 2 2) 49,.lend (.cell 2 3) 49,.lend (.cell 2 4) 49,.lend (.cell 2 5) 49,.lend (.cell 2 6) 49,.lend (.cell 2 7) 49,.lend (.cell 2 8) 49] [
 qN 49 (qL 9 10),
 qN 50 (qm 6),
 qS 9 (T 6) (T 49),
 qV 3 (T 50),
 qV 4 (qI 0)])
 .ret))
 .skip))
 (.seq (qP 12 [
 qN 51 (qf 2 3),
 ⟨.none,.st 1 (T 51) (.c (.bool true)),none⟩])
 (.seq (qP 13 [
 qN 52 (qm 2),
 qN 53 (.mk 4 1 1 (.bool false) (T 52) (T 52)),
 qN 54 (qf 3 3),
 qS 1 (T 54) (T 53)])
 (.seq (qP 14 [
 qN 55 (qf 3 3),
 qN 56 (ql 1 55),
 qN 57 (qm 1),
 qN 58 (.ia 1 (T 56) (T 57)),
 ⟨.none,.st 1 (T 58) (.c (.bool true)),none⟩])
 (.seq (qP 15 [
 qV 7 (.c (.slice none 0 0))])
 (.seq (.seq (qR 16 [.own (.var 7) 64 19] [
 qN 59 (qm 2),
 qN 60 (.mv (qI 0))])
 (.block 2
 (.loop
 (.seq (qP 17 [
 qN 61 (qb .lss 60 59)])
 (.seq (.cond (T 61)
 .skip
 (.exit 2))
 (.seq (.block 3
 (.seq (qP 18 [
 qN 62 (qt 60),
 qV 8 (T 62)])
 (.seq (qP 19 [
 qN 63 (qm 8),
 qN 64 (qm 1),
 qN 65 (qb .neq 63 64)])
 (.cond (T 65)
 (qR 20 [.lend (.var 7) 71] [
 qN 66 (qm 7),
 qN 67 (qm 8),
 qN 68 (qm 5),
 qN 69 (.call 24 [(T 67),(qI 14),(T 68)]),
 qN 70 (.bls 64 19 (.agg #[(.int .i64 0),(.int .i64 0),(.int .i64 0),(.int .i64 0),(.int .i64 0),(.int .i64 0),(.string (ByteArray.mk #[])),(.int .i64 0),(.int .i64 0),(.int .i64 0),(.int .i64 0),(.int .i64 0),(.int .i64 0),(.int .i64 0),(.int .i64 0),(.bool false),(.slice none 0 0),(.slice none 0 0),(.slice none 0 0)]) 1 [(0,(T 69))]),
 qN 71 (.app 64 19 208 (T 66) (T 70)),
 qV 7 (T 71)])
 .skip))))
 (qP 21 [
 qN 72 (qi .add 60 1),
 qN 60 (qt 72)])))))))
 (.seq (qR 22 [.freeze (.var 7),.freeze (.cell 0 3)] [
 qN 73 (qL 9 3),
 qN 74 (qm 7),
 qS 9 (T 6) (T 73),
 qV 3 (T 74),
 qV 4 (qI 0)])
 .ret)))))))))))))
theorem c10b:zC_ Try.prog 10 F10=some (3,zs_ a10b,[.c 6 9 true,.v 3,.v 4])/\zq_ a10b=true:=⟨by kernel_rfl,by kernel_rfl⟩
end Go.Proofs.Ytnbppaolinopeaa
namespace Go.Proofs.Ytnbppaolinopeaa.RG
structure Rs where
 ep:Nat
 lost:Bool
 ask:Bool
 prom:List Bool
 tk:Tk
deriving DecidableEq
inductive Kd where
 |req|tok|prm|prd
deriving DecidableEq
structure Rm where
 k:Kd
 e:Nat
 s:Int
deriving DecidableEq
abbrev Out:=List (Int×Rm)
def toRm(e:Nat)(m:Ms):Int×Rm:=(m.to,if m.tok=true then ⟨.tok,e,0⟩ else ⟨.req,e,m.org⟩)
def posts(e:Nat)(l:List Ms):Out:=l.map (toRm e)
def promised(r:Rs)(e:Nat):Rs:=⟨e,false,false,[],⟨false,r.tk.using_||r.tk.want,false,-1,-1⟩⟩
def made(r:Rs):Rs×Out :=
 if r.tk.want=true then ({ r with ask:=false,prom:=[],tk:={ r.tk with has:=true,using_:=true,want:=false } },[])
 else if r.tk.next=-1 then ({ r with ask:=false,prom:=[],tk:={ r.tk with has:=true } },[])
 else ({ r with ask:=false,prom:=[],tk:={ r.tk with has:=false,next:=-1 } },[(r.tk.next,⟨.tok,r.ep,0⟩)])
def wantR(r:Rs)(i:Nat):Rs×Out :=
 if r.ask=true then ({ r with tk:={ r.tk with want:=true } },[]) else ({ r with tk:=w1_ r.tk },posts r.ep (xA_ r.tk i))
def doneR(r:Rs):Rs×Out:=({ r with tk:=xx_ r.tk },posts r.ep (xy_ r.tk))
def nextE(n i e:Nat):Nat:=e+1+(i+n-(e+1)%n)%n
def beginR(n i:Nat)(r:Rs):Rs×Out :=
 let p:=promised r (nextE n i r.ep)
 if n=1 then made p
 else ({ p with ask:=true,prom:=(List.replicate n false).set i true },((List.range n).filter fun s=>s≠i).map fun (s:Nat)=>((s:Int),⟨.prm,p.ep,0⟩))
def restartR(r:Rs):Rs:=⟨r.ep,true,false,[],⟨false,false,false,-1,-1⟩⟩
def promR(r:Rs)(i j e:Nat):Rs×Out :=
 let p:=promised r e
 if p.tk.want=true then (p,[((j:Int),⟨.prd,e,0⟩),((j:Int),⟨.req,e,i⟩)])
 else ({ p with tk:={ p.tk with last:=j } },[((j:Int),⟨.prd,e,0⟩)])
def prdR(r:Rs)(j:Nat):Rs×Out :=
 let p:={ r with prom:=r.prom.set j true }
 if p.prom.all id=true then made p else (p,[])
def passR(r:Rs)(m:Ms):Rs×Out:=({ r with tk:=hearT r.tk m },posts r.ep (hearM r.tk m))
def passA(r:Rs)(m:Ms):Rs×Out:=({ r with tk:={ hearT { r.tk with want:=true } m with want:=r.tk.want } },posts r.ep (hearM { r.tk with want:=true } m))
def hearR(r:Rs)(i j:Nat)(m:Rm):Option (Rs×Out) :=
 match m.k with
 |.prm=>if m.e<=r.ep then none else some (promR r i j m.e)
 |.prd=>if m.e≠r.ep\/r.ask=false then none else some (prdR r j)
 |.tok=>if m.e≠r.ep\/r.ask=true\/r.lost=true\/r.tk.want=false then none else some (passR r ⟨i,true,0⟩)
 |.req=>if m.e≠r.ep\/r.lost=true then none else if r.ask=true then some (passA r ⟨i,false,m.s⟩) else some (passR r ⟨i,false,m.s⟩)
theorem nextE_lt{n i e:Nat}(hn:0<n):e<nextE n i e/\nextE n i e<=e+n:=by
 unfold nextE
 have:=Nat.mod_lt (i+n-(e+1)%n) hn
 omega
theorem nextE_mod{n i e:Nat}(hi:i<n):nextE n i e%n=i:=by
 unfold nextE
 have h1:=Nat.mod_lt (e+1) (show 0<n by omega)
 have h2:=Nat.div_add_mod (e+1) n
 generalize (e+1)%n=b at h1 h2
 rw[Nat.add_mod_mod]
 have:e+1+(i+n-b)=i+n*((e+1)/n+1):=by
  rw[Nat.mul_add]
  omega
 rw[this,Nat.add_mul_mod_self_left,Nat.mod_eq_of_lt hi]
end Go.Proofs.Ytnbppaolinopeaa.RG
namespace Go.Proofs.Ytnbppaolinopeaa.RG
def idT(n e:Nat)(i:Int):Tk:=if i=((e%n:Nat):Int) then (if e=0 then ⟨true,false,false,-1,-1⟩ else ⟨false,true,false,-1,-1⟩) else ⟨false,false,false,((e%n:Nat):Int),-1⟩
def idTs(n e:Nat):List Tk:=(List.range n).map fun i:Nat=>idT n e i
def idM(n e:Nat):List Ms:=if e=0 then [] else [⟨((e%n:Nat):Int),true,0⟩]
def idG(n e:Nat):Int->Int:=fun x=>if x=((e%n:Nat):Int) then -1 else ((e%n:Nat):Int)
theorem xH_{n e:Nat}{i:Int}(hi:Rng n i):tAt (idTs n e) i=idT n e i:=by
 obtain⟨h0,h1⟩:=hi
 obtain⟨k,rfl⟩:∃k:Nat,i=k:=⟨i.toNat,by omega⟩
 have hk:k<n:=by omega
 simp[tAt,idTs,hk]
theorem p2_{n e:Nat}{i:Int}:(idT n e i).next=-1:=by
 unfold idT
 split
 .split<;>rfl
 .rfl
theorem mD_{n e:Nat}(x:Int):nx n (idTs n e) x=-1:=by
 unfold nx
 split
 .next hx=>rw[xH_ hx,p2_]
 .rfl
theorem pq_{n b:Nat}(hb:b<n)(p:Tk->Bool)(f:Nat->Tk)(h1:p (f b)=true)(h2:∀i,i<n->i≠b->p (f i)=false):((List.range n).map f).countP p=1:=by
 induction n with
 |zero=>omega
 | succ n ih =>
   rw[List.range_succ,List.map_append,List.countP_append]
   by_cases hbn:b=n
   .subst hbn
    have h0:((List.range b).map f).countP p=0:=by
     rw[List.countP_eq_zero]
     intro x hx
     obtain⟨i,hi,rfl⟩:=List.mem_map.1 hx
     have hib:=List.mem_range.1 hi
     rw[h2 i (by omega) (by omega)]
     simp
    rw[h0]
    simp[h1]
   .rw[ih (by omega) (fun i hi=>h2 i (by omega))]
    simp[h2 n (by omega) (fun h=>hbn h.symm)]
theorem r8_{n:Nat}(p:Tk->Bool)(f:Nat->Tk)(h2:∀i,i<n->p (f i)=false):((List.range n).map f).countP p=0:=by
 rw[List.countP_eq_zero]
 intro x hx
 obtain⟨i,hi,rfl⟩:=List.mem_map.1 hx
 rw[h2 i (List.mem_range.1 hi)]
 simp
theorem ln_{n e:Nat}(h1:1<=n)(h4:n<=4):Inv n (idTs n e) (idM n e) (idG n e):=by
 have hb:e%n<n:=Nat.mod_lt _ (by omega)
 have hbz:((e%n:Nat):Int)<n:=by omega
 have hb0:(0:Int)<=((e%n:Nat):Int):=by omega
 refine⟨h1,h4,by simp[idTs],fun i hi=>?_,?_,fun i hi=>?_,fun m hm=>?_,fun i hi hl=>?_,fun i hi=>?_,fun i hi=>⟨i,.refl,mD_ i⟩,fun i r hi hbu k1 k2=>?_,fun m hm ht=>?_⟩
 .rw[xH_ hi]
  have hi2:=hi
  obtain⟨i0,i1⟩:=hi2
  unfold idT
  by_cases q:i=((e%n:Nat):Int)
  .rw[if_pos q]
   by_cases e0:e=0
   .rw[if_pos e0]
    exact⟨h1,h4,hi,fun q=>absurd rfl q,fun q=>absurd rfl q,fun q=>(by cases q),fun q=>(by cases q),fun _=>⟨fun _=>rfl,fun _=>rfl⟩,fun _ _=>⟨rfl,⟨fun _=>rfl,fun _=>rfl⟩⟩⟩
   .rw[if_neg e0]
    exact⟨h1,h4,hi,fun q=>absurd rfl q,fun q=>absurd rfl q,fun q=>(by cases q),fun _=>rfl,fun _=>⟨fun _=>rfl,fun _=>rfl⟩,fun _ q=>(by cases q)⟩
  .rw[if_neg q]
   exact⟨h1,h4,hi,fun _=>⟨hb0,hbz,fun z=>q z.symm⟩,fun q=>absurd rfl q,fun q=>(by cases q),fun q=>(by cases q),fun q=>(by rcases q with q|q<;>cases q),fun _ _=>⟨rfl,⟨fun z=>(by have z':((e%n:Nat):Int)=-1:=z;omega),fun z=>(by cases z)⟩⟩⟩
 .by_cases e0:e=0
  .have hM:idM n e=[]:=by unfold idM;rw[if_pos e0]
   rw[hM,List.countP_nil,Nat.add_zero]
   exact pq_ hb _ _ (by simp[idT,e0]) fun i hi hne=>by
    have:¬((i:Int)=((e%n:Nat):Int)):=by omega
    simp only[idT,if_neg this]
  .have hM:idM n e=[⟨((e%n:Nat):Int),true,0⟩]:=by unfold idM;rw[if_neg e0]
   have h0:(idTs n e).countP (·.has)=0:=r8_ _ _ fun i hi=>by
    unfold idT
    split<;>simp[e0]
   rw[hM,h0]
   rfl
 .rw[xH_ hi]
  have hz:(idTs n e).countP (fun x=>decide (x.next=i))=0:=r8_ _ _ fun k hk=>by
   rw[p2_]
   have:=hi.1
   simp only[decide_eq_false_iff_not]
   omega
  unfold rsn
  rw[hz,Nat.add_zero]
  by_cases e0:e=0
  .have hM:idM n e=[]:=by unfold idM;rw[if_pos e0]
   rw[hM,List.countP_nil]
   have:(idT n e i).want=false:=by unfold idT;split<;>simp[e0]
   rw[this];rfl
  .have hM:idM n e=[⟨((e%n:Nat):Int),true,0⟩]:=by unfold idM;rw[if_neg e0]
   rw[hM]
   by_cases q:i=((e%n:Nat):Int)
   .have:(idT n e i).want=true:=by unfold idT;rw[if_pos q,if_neg e0]
    rw[this]
    simp[Ms.subj,q]
   .have:(idT n e i).want=false:=by unfold idT;rw[if_neg q]
    rw[this]
    have q':¬((e%n:Nat):Int)=i:=fun z=>q z.symm
    simp only[List.countP_cons,List.countP_nil,Ms.subj,if_true,zzp_]
    rw[if_neg q']
    rfl
 .unfold idM at hm
  split at hm
  .cases hm
  .simp at hm
   subst hm
   exact⟨⟨hb0,hbz⟩,fun q=>by cases q⟩
 .rw[xH_ hi]at hl ⊢
  unfold idT at hl ⊢
  unfold idG
  by_cases q:i=((e%n:Nat):Int)
  .rw[if_pos q]at hl
   exact absurd (by split<;>rfl) hl
  .rw[if_neg q,if_neg q]
 .by_cases q:i=((e%n:Nat):Int)
  .exact⟨i,.refl,by unfold idG;rw[if_pos q]⟩
  .exact⟨((e%n:Nat):Int),.one (by unfold idG;rw[if_neg q]) (by omega),by unfold idG;rw[if_pos rfl]⟩
 .have hr:r=i:=k1.last (mD_ i)
  subst hr
  exact .refl
 .unfold idM at hm
  split at hm
  .cases hm
  .simp at hm
   subst hm
   cases ht
end Go.Proofs.Ytnbppaolinopeaa.RG
namespace Go.Proofs.Ytnbppaolinopeaa.RG
abbrev Id:=Nat->List Tk×List Ms×(Int->Int)
def toMs(j:Nat)(m:Rm):Option (Nat×Ms) :=
 match m.k with
 |.tok=>some (m.e,⟨j,true,0⟩)
 |.req=>some (m.e,⟨j,false,m.s⟩)
 |_=>none
def sumN(n:Nat)(f:Nat->Nat):Nat:=((List.range n).map f).sum
def cnt(n:Nat)(M:Nat->Nat->List Rm)(e:Nat)(x:Ms):Nat :=
 sumN n fun i=>sumN n fun j=>(M i j).countP fun m=>decide (toMs j m=some (e,x))
def Rs.holds(r:Rs):Bool:=r.tk.has&&!r.lost&&!r.ask
def TL(t:Tk)(x:Int):Prop:=t.last≠x/\t.next≠x
def ML(m:Ms)(x:Int):Prop:=m.to≠x/\(m.tok=false->m.org≠x)
def Leaf(n:Nat)(t:List Tk)(ml:List Ms)(x:Int):Prop:=(∀y,Rng n y->TL (tAt t y) x)/\∀m∈ml,ML m x
structure RInv(n:Nat)(R:Nat->Rs)(M:Nat->Nat->List Rm)(D:Id):Prop where
 n1:1<=n
 n4:n<=4
 inv:∀e,Inv n (D e).1 (D e).2.1 (D e).2.2
 /-- an epoch that was not begun -/
 fresh:∀e,(R (e%n)).ep<e->D e=(idTs n e,idM n e,idG n e)
 /-- a site that has not promised e stands in e's ideal system as at the beginning -/
 join:∀e s,s<n->(R s).ep<e->s≠e%n->tAt (D e).1 s=idT n e s
 leaf:∀e x,x<n->(R x).ep<e->x≠e%n->Leaf n (D e).1 (D e).2.1 x
 /-- epochs are begun by their sites -/
 owns:∀s,s<n->(R s).ep<=(R ((R s).ep%n)).ep
 ownm:∀i j,i<n->j<n->∀m∈M i j,m.e<=(R (m.e%n)).ep
 same:∀s,s<n->(R s).lost=false->(R s).ask=false->(R s).tk=tAt (D (R s).ep).1 s
 gone:∀s,s<n->(R s).lost=true->(R s).ask=false/\(R s).tk=⟨false,false,false,-1,-1⟩
 asks:∀s,s<n->(R s).ask=true->(R s).ep%n=s/\(R s).prom.length=n/\(R s).prom[s]?=some true/\(R s).prom.all id=false/\(tAt (D (R s).ep).1 s).want=true/\(R s).tk={ tAt (D (R s).ep).1 s with want:=(R s).tk.want }
 noprom:∀s,s<n->(R s).ask=false->(R s).prom=[]
 /-- messages are ideal ones -/
 msgs:∀e x,cnt n M e x+(if (R (e%n)).ask=true/\(R (e%n)).ep=e/\x=⟨((e%n:Nat):Int),true,0⟩ then 1 else 0)<=(D e).2.1.count x
 /-- who asks for promises, who promised -/
 prm:∀i j,i<n->j<n->∀m∈M i j,m.k=.prm->m.e%n=i/\i≠j
 prd:∀i j,i<n->j<n->∀m∈M i j,m.k=.prd->m.e<=(R i).ep/\i≠j
 did:∀b,b<n->(R b).ask=true->∀s,s<n->(R b).prom[s]?=some true->(R b).ep<=(R s).ep
 /-- a token that is there: all have promised its epoch -/
 made:∀s,s<n->(R s).holds=true->∀x,x<n->(R s).ep<=(R x).ep
 madm:∀i j,i<n->j<n->∀m∈M i j,m.k=.tok->∀x,x<n->m.e<=(R x).ep
 other:∀i j,i<n->j<n->M i j≠[]->i≠j
section
variable{n:Nat}{R:Nat->Rs}{M:Nat->Nat->List Rm}{D:Id}
theorem RInv.one(h:RInv n R M D){s x:Nat}(hs:s<n)(hx:x<n)(h1:(R s).holds=true)(h2:(R x).holds=true):s=x:=by
 have e1:=h.made s hs h1 x hx
 have e2:=h.made x hx h2 s hs
 unfold Rs.holds at h1 h2
 simp only[zzg_,yyh_]at h1 h2
 have a1:=h.same s hs h1.1.2 h1.2
 have a2:=h.same x hx h2.1.2 h2.2
 have ee:(R s).ep=(R x).ep:=by omega
 rw[ee]at a1
 have hI:=h.inv (R x).ep
 have o:=hI.one
 have hl:=hI.len
 apply Classical.byContradiction
 intro hne
 have c1:(tAt (D (R x).ep).1 s).has=true:=by rw[<-a1];exact h1.1.1
 have c2:(tAt (D (R x).ep).1 x).has=true:=by rw[<-a2];exact h2.1.1
 -- two of them count two
 have key:∀(t:List Tk) (a b:Nat),a<t.length->b<t.length->a≠b->(tAt t a).has=true->(tAt t b).has=true->2<=t.countP (·.has):=by
  intro t a b ha hb hab p1 p2
  obtain⟨v,hv⟩:∃v:Tk,v.has=false:=⟨⟨false,false,false,0,0⟩,rfl⟩
  have q:=yc_ (p:=(·.has)) (t:=t) (i:=(a:Int)) (v:=v) (by omega) (by omega)
  have p2':(tAt (t.set (a:Int).toNat v) b).has=true:=by
   rw[yD_ (by omega) (by omega) (by omega),if_neg (by omega)];exact p2
  have m2:=yC_ (p:=(·.has)) (tY_ (t:=t.set (a:Int).toNat v) (i:=(b:Int)) (by omega) (by rw[List.length_set];omega)) p2'
  rw[if_pos p1,if_neg (by rw[hv];simp)]at q
  omega
 have:=key (D (R x).ep).1 s x (by omega) (by omega) hne c1 c2
 omega
end
end Go.Proofs.Ytnbppaolinopeaa.RG
namespace Go.Proofs.Ytnbppaolinopeaa.RG
theorem we_(n:Nat)(f:Nat->Nat):sumN (n+1) f=sumN n f+f n:=by
 unfold sumN
 rw[List.range_succ,List.map_append,List.sum_append]
 simp
theorem vQ_{n:Nat}{f g:Nat->Nat}(h:∀i,i<n->f i=g i):sumN n f=sumN n g:=by
 unfold sumN
 congr 1
 exact List.map_congr_left fun i hi=>h i (List.mem_range.1 hi)
theorem sx_{n:Nat}{f g:Nat->Nat}{i:Nat}(hi:i<n)(h:∀k,k<n->k≠i->g k=f k):sumN n g+f i=sumN n f+g i:=by
 induction n with
 |zero=>omega
 | succ n ih =>
   rw[we_,we_]
   by_cases e:i=n
   .subst e
    rw[vQ_ fun k hk=>h k (by omega) (by omega)]
    omega
   .have:=ih (by omega) fun k hk=>h k (by omega)
    have:=h n (by omega) (fun q=>e q.symm)
    omega
def pop(M:Nat->Nat->List Rm)(i j:Nat):Nat->Nat->List Rm:=fun a b=>if a=i/\b=j then (M a b).tail else M a b
def put1(M:Nat->Nat->List Rm)(i:Nat)(o:Int×Rm):Nat->Nat->List Rm:=fun a b=>if a=i/\(b:Int)=o.1 then M a b++[o.2] else M a b
def put(M:Nat->Nat->List Rm)(i:Nat):Out->Nat->Nat->List Rm
 |[]=>M
 |o::r=>put (put1 M i o) i r
section
variable{n:Nat}{M M':Nat->Nat->List Rm}{e:Nat}{x:Ms}
theorem ps_{i j:Nat}(hi:i<n)(hj:j<n)(h:∀a b,¬(a=i/\b=j)->M' a b=M a b) :
 cnt n M' e x+(M i j).countP (fun m=>decide (toMs j m=some (e,x)))=cnt n M e x+(M' i j).countP (fun m=>decide (toMs j m=some (e,x))):=by
 unfold cnt
 have h1:sumN n (fun b=>(M' i b).countP fun m=>decide (toMs b m=some (e,x)))+(M i j).countP (fun m=>decide (toMs j m=some (e,x))) =
  sumN n (fun b=>(M i b).countP fun m=>decide (toMs b m=some (e,x)))+(M' i j).countP (fun m=>decide (toMs j m=some (e,x))) :=
  sx_ (f:=fun b=>(M i b).countP fun m=>decide (toMs b m=some (e,x))) (g:=fun b=>(M' i b).countP fun m=>decide (toMs b m=some (e,x))) hj fun k _ hk=>by
   show List.countP _ _=List.countP _ _
   rw[h i k fun q=>hk q.2]
 have h2:=sx_ (f:=fun a=>sumN n fun b=>(M a b).countP fun m=>decide (toMs b m=some (e,x))) (g:=fun a=>sumN n fun b=>(M' a b).countP fun m=>decide (toMs b m=some (e,x))) hi fun k _ hk=>by
  refine vQ_ fun b _=>?_
  rw[h k b fun q=>hk q.1]
 omega
theorem sm_{i j:Nat}{m:Rm}{r:List Rm}(hi:i<n)(hj:j<n)(hM:M i j=m::r):cnt n (pop M i j) e x+(if toMs j m=some (e,x) then 1 else 0)=cnt n M e x:=by
 have h:=ps_ (M:=M) (M':=pop M i j) (e:=e) (x:=x) hi hj fun a b q=>by unfold pop;rw[if_neg q]
 have e1:pop M i j i j=r:=by unfold pop;rw[if_pos ⟨rfl,rfl⟩,hM];rfl
 rw[e1,hM,List.countP_cons]at h
 simp only[zzp_]at h
 omega
theorem oq_{i j:Nat}{m:Rm}(hi:i<n)(hj:j<n):cnt n (put1 M i ((j:Int),m)) e x=cnt n M e x+(if toMs j m=some (e,x) then 1 else 0):=by
 have h:=ps_ (M:=M) (M':=put1 M i ((j:Int),m)) (e:=e) (x:=x) hi hj fun a b q=>by
  unfold put1
  rw[if_neg]
  rintro⟨q1,q2⟩
  simp only at q2
  exact q ⟨q1,by omega⟩
 have e1:put1 M i ((j:Int),m) i j=M i j++[m]:=by unfold put1;rw[if_pos ⟨rfl,rfl⟩]
 rw[e1,List.countP_append]at h
 simp only[List.countP_cons,List.countP_nil,zzp_]at h
 omega
theorem s9_{i j a b:Nat}{m:Rm}(h:m∈pop M i j a b):m∈M a b:=by
 unfold pop at h
 split at h
 .exact List.mem_of_mem_tail h
 .exact h
theorem pV_{i a b:Nat}{o:Int×Rm}{m:Rm}(h:m∈put1 M i o a b):m∈M a b\/(a=i/\(b:Int)=o.1/\m=o.2):=by
 unfold put1 at h
 split at h
 .next q =>
  rcases zzw_.1 h with h|h
  .exact .inl h
  .exact .inr ⟨q.1,q.2,by simpa using h⟩
 .exact .inl h
theorem vk_{i a b:Nat}{m:Rm}:∀ {o:Out} {M:Nat->Nat->List Rm},m∈put M i o a b->m∈M a b\/(a=i/\((b:Int),m)∈o)
 |[],_,h=>.inl h
 | x :: r, M, h => by
   rcases vk_ (o:=r) h with h|⟨h1,h2⟩
   .rcases pV_ h with h|⟨q1,q2,q3⟩
    .exact .inl h
    .exact .inr ⟨q1,by rw[q2,q3];simp⟩
   .exact .inr ⟨h1,by simp[h2]⟩
end
end Go.Proofs.Ytnbppaolinopeaa.RG
namespace Go.Proofs.Ytnbppaolinopeaa.RG
def updR(R:Nat->Rs)(s:Nat)(r:Rs):Nat->Rs:=fun x=>if x=s then r else R x
def updD(D:Id)(e:Nat)(v:List Tk×List Ms×(Int->Int)):Id:=fun x=>if x=e then v else D x
theorem updR_s{R:Nat->Rs}{s:Nat}{r:Rs}:updR R s r s=r:=by unfold updR;rw[if_pos rfl]
theorem updR_ne{R:Nat->Rs}{s x:Nat}{r:Rs}(h:x≠s):updR R s r x=R x:=by unfold updR;rw[if_neg h]
theorem zS_{D:Id}{e:Nat}{v:List Tk×List Ms×(Int->Int)}:updD D e v e=v:=by unfold updD;rw[if_pos rfl]
theorem tW_{D:Id}{e x:Nat}{v:List Tk×List Ms×(Int->Int)}(h:x≠e):updD D e v x=D x:=by unfold updD;rw[if_neg h]
def due(n:Nat)(R:Nat->Rs)(e:Nat)(x:Ms):Nat:=if (R (e%n)).ask=true/\(R (e%n)).ep=e/\x=⟨((e%n:Nat):Int),true,0⟩ then 1 else 0
section
variable{n:Nat}{R:Nat->Rs}{M M':Nat->Nat->List Rm}{D D':Id}
theorem RInv.due(h:RInv n R M D)(e:Nat)(x:Ms):cnt n M e x+due n R e x<=(D e).2.1.count x:=h.msgs e x
def Fits(n:Nat)(s:Nat)(r:Rs)(v:Tk):Prop :=
 (r.lost=false/\r.ask=false/\r.tk=v/\r.prom=[])\/(r.lost=true/\r.ask=false/\r.tk=⟨false,false,false,-1,-1⟩/\r.prom=[]) \/
 (r.lost=false/\r.ask=true/\r.ep%n=s/\r.prom.length=n/\r.prom[s]?=some true/\r.prom.all id=false/\v.want=true/\r.tk={ v with want:=r.tk.want })
theorem RInv.upd(h:RInv n R M D){s:Nat}(hs:s<n){r:Rs}(hep:(R s).ep<=r.ep)
 (hinv:Inv n (D' r.ep).1 (D' r.ep).2.1 (D' r.ep).2.2) (hD:∀e,e≠r.ep->D' e=D e)
 (hset:∀x,x<n->x≠s->tAt (D' r.ep).1 x=tAt (D r.ep).1 x)
 (hleaf:∀x,x<n->x≠s->(R x).ep<r.ep->x≠r.ep%n->Leaf n (D' r.ep).1 (D' r.ep).2.1 x)
 (hown:r.ep<=(updR R s r (r.ep%n)).ep) (hfit:Fits n s r (tAt (D' r.ep).1 s))
 (hM:∀a b,a<n->b<n->∀m∈M' a b,m∈M a b\/(a=s/\b≠s/\m.e=r.ep/\(m.k=.prm->m.e%n=s)/\(m.k=.tok->∀x,x<n->r.ep<=(updR R s r x).ep)))
 (hc:∀e,e≠r.ep->∀x,cnt n M' e x<=cnt n M e x)
 (hmsg:∀x,cnt n M' r.ep x+RG.due n (updR R s r) r.ep x<=(D' r.ep).2.1.count x)
 (hdid:r.ask=true->∀x,x<n->r.prom[x]?=some true->r.ep<=(updR R s r x).ep)
 (hmade:r.holds=true->∀x,x<n->r.ep<=(updR R s r x).ep):RInv n (updR R s r) M' D':=by
 have up:∀x,(R x).ep<=(updR R s r x).ep:=fun x=>by
  by_cases q:x=s
  .subst q;rw[updR_s];exact hep
  .rw[updR_ne q];exact zzl_ _
 have hask:r.ask=true->r.lost=false:=fun q=>by
  rcases hfit with ⟨_,z,_⟩|⟨_,z,_⟩|⟨z,_⟩
  .rw[z]at q;cases q
  .rw[z]at q;cases q
  .exact z
 constructor
 case n1=>exact h.n1
 case n4=>exact h.n4
 case inv =>
  intro e
  by_cases q:e=r.ep
  .subst q;exact hinv
  .rw[hD e q];exact h.inv e
 case fresh =>
  intro e he
  by_cases q:e=r.ep
  .subst q;omega
  .rw[hD e q];exact h.fresh e (by have:=up (e%n);omega)
 case join =>
  intro e x hx he hb
  by_cases q:e=r.ep
  .subst q
   have hxs:x≠s:=fun z=>by subst z;rw[updR_s]at he;omega
   rw[hset x hx hxs]
   exact h.join _ x hx (by have:=up x;omega) hb
  .rw[hD e q];exact h.join e x hx (by have:=up x;omega) hb
 case leaf =>
  intro e x hx he hb
  by_cases q:e=r.ep
  .subst q
   have hxs:x≠s:=fun z=>by subst z;rw[updR_s]at he;omega
   exact hleaf x hx hxs (by have:=up x;omega) hb
  .rw[hD e q];exact h.leaf e x hx (by have:=up x;omega) hb
 case owns =>
  intro x hx
  by_cases q:x=s
  .subst q;rw[updR_s];exact hown
  .rw[updR_ne q];have:=h.owns x hx;have:=up ((R x).ep%n);omega
 case ownm =>
  intro i j hi hj m hm
  rcases hM i j hi hj m hm with g|⟨g1,g2,g3,g4,g5⟩
  .have:=h.ownm i j hi hj m g;have:=up (m.e%n);omega
  .rw[g3];exact hown
 case same =>
  intro x hx h1 h2
  by_cases q:x=s
  .subst q
   rw[updR_s]at h1 h2 ⊢
   rcases hfit with ⟨_,_,z,_⟩|⟨z,_⟩|⟨_,z,_⟩
   .exact z
   .rw[z]at h1;cases h1
   .rw[z]at h2;cases h2
  .rw[updR_ne q]at h1 h2 ⊢
   rw[h.same x hx h1 h2]
   by_cases k:(R x).ep=r.ep
   .rw[k,hset x hx q]
   .rw[hD _ k]
 case gone =>
  intro x hx h1
  by_cases q:x=s
  .subst q
   rw[updR_s]at h1 ⊢
   rcases hfit with ⟨z,_⟩|⟨_,z1,z2,_⟩|⟨z,_⟩
   .rw[z]at h1;cases h1
   .exact⟨z1,z2⟩
   .rw[z]at h1;cases h1
  .rw[updR_ne q]at h1 ⊢;exact h.gone x hx h1
 case asks =>
  intro x hx h1
  by_cases q:x=s
  .subst q
   rw[updR_s]at h1 ⊢
   rcases hfit with ⟨_,z,_⟩|⟨_,z,_⟩|⟨_,_,z⟩
   .rw[z]at h1;cases h1
   .rw[z]at h1;cases h1
   .exact z
  .rw[updR_ne q]at h1 ⊢
   obtain⟨z1,z2,z3,z4,z5,z6⟩:=h.asks x hx h1
   by_cases k:(R x).ep=r.ep
   .have:=hset x hx q
    rw[<-k]at this
    rw[this]
    exact⟨z1,z2,z3,z4,z5,z6⟩
   .rw[hD _ k]
    exact⟨z1,z2,z3,z4,z5,z6⟩
 case noprom =>
  intro x hx h1
  by_cases q:x=s
  .subst q
   rw[updR_s]at h1 ⊢
   rcases hfit with ⟨_,_,_,z⟩|⟨_,_,_,z⟩|⟨_,z,_⟩
   .exact z
   .exact z
   .rw[z]at h1;cases h1
  .rw[updR_ne q]at h1 ⊢;exact h.noprom x hx h1
 case msgs =>
  intro e x
  by_cases q:e=r.ep
  .subst q;exact hmsg x
  .rw[hD e q]
   have h1:=h.msgs e x
   have h2:=hc e q x
   by_cases k:e%n=s
   .rw[k,updR_s,if_neg (fun z=>q z.2.1.symm)]
    omega
   .rw[updR_ne k]
    omega
 case prm =>
  intro i j hi hj m hm hk
  rcases hM i j hi hj m hm with g|⟨g1,g2,g3,g4,g5⟩
  .exact h.prm i j hi hj m g hk
  .exact⟨by rw[g4 hk,g1],fun z=>g2 (by omega)⟩
 case prd =>
  intro i j hi hj m hm hk
  rcases hM i j hi hj m hm with g|⟨g1,g2,g3,g4,g5⟩
  .have:=h.prd i j hi hj m g hk
   exact⟨by have:=up i;omega,this.2⟩
  .subst g1;rw[updR_s];exact⟨by omega,fun z=>g2 z.symm⟩
 case did =>
  intro b hb h1 x hx h2
  by_cases q:b=s
  .subst q;rw[updR_s]at h1 h2 ⊢;exact hdid h1 x hx h2
  .rw[updR_ne q]at h1 h2 ⊢
   have:=h.did b hb h1 x hx h2;have:=up x;omega
 case made =>
  intro b hb h1 x hx
  by_cases q:b=s
  .subst q;rw[updR_s]at h1 ⊢;exact hmade h1 x hx
  .rw[updR_ne q]at h1 ⊢
   have:=h.made b hb h1 x hx;have:=up x;omega
 case madm =>
  intro i j hi hj m hm hk x hx
  rcases hM i j hi hj m hm with g|⟨g1,g2,g3,g4,g5⟩
  .have:=h.madm i j hi hj m g hk x hx;have:=up x;omega
  .rw[g3];exact g5 hk x hx
 case other =>
  intro i j hi hj hne
  obtain⟨m,hm⟩:=List.exists_mem_of_ne_nil _ hne
  rcases hM i j hi hj m hm with g|⟨g1,g2,_⟩
  .exact h.other i j hi hj (fun z=>by rw[z]at g;cases g)
  .exact fun z=>g2 (by omega)
def Slk(n:Nat)(K:Nat->Ms->Nat)(R:Nat->Rs)(M:Nat->Nat->List Rm)(D:Id)(R':Nat->Rs)(M':Nat->Nat->List Rm)(D':Id):Prop :=
 ∀e,(∀s,s<n->(R' s).ep<=e)->∀x,(D' e).2.1.count x+cnt n M e x+RG.due n R e x+K e x<=(D e).2.1.count x+cnt n M' e x+RG.due n R' e x
theorem RInv.updS(h:RInv n R M D){s:Nat}(hs:s<n){r:Rs}(hep:(R s).ep<=r.ep)
 (hinv:Inv n (D' r.ep).1 (D' r.ep).2.1 (D' r.ep).2.2) (hD:∀e,e≠r.ep->D' e=D e)
 (hset:∀x,x<n->x≠s->tAt (D' r.ep).1 x=tAt (D r.ep).1 x)
 (hleaf:∀x,x<n->x≠s->(R x).ep<r.ep->x≠r.ep%n->Leaf n (D' r.ep).1 (D' r.ep).2.1 x)
 (hown:r.ep<=(updR R s r (r.ep%n)).ep) (hfit:Fits n s r (tAt (D' r.ep).1 s))
 (hM:∀a b,a<n->b<n->∀m∈M' a b,m∈M a b\/(a=s/\b≠s/\m.e=r.ep/\(m.k=.prm->m.e%n=s)/\(m.k=.tok->∀x,x<n->r.ep<=(updR R s r x).ep)))
 (hc:∀e,e≠r.ep->∀x,cnt n M' e x=cnt n M e x)
 (hmsg:∀x,cnt n M' r.ep x+RG.due n (updR R s r) r.ep x<=(D' r.ep).2.1.count x)
 (hdid:r.ask=true->∀x,x<n->r.prom[x]?=some true->r.ep<=(updR R s r x).ep)
 (hmade:r.holds=true->∀x,x<n->r.ep<=(updR R s r x).ep) (K:Nat->Ms->Nat) (hK:∀e,e≠r.ep->∀x,K e x=0)
 (hS:∀x,(D' r.ep).2.1.count x+cnt n M r.ep x+RG.due n R r.ep x+K r.ep x<=(D r.ep).2.1.count x+cnt n M' r.ep x+RG.due n (updR R s r) r.ep x) :
 RInv n (updR R s r) M' D'/\Slk n K R M D (updR R s r) M' D':=by
 refine⟨h.upd hs hep hinv hD hset hleaf hown hfit hM (fun e he x=>Nat.le_of_eq (hc e he x)) hmsg hdid hmade,fun e ht x=>?_⟩
 by_cases q:e=r.ep
 .subst q;exact hS x
 .rw[hD e q,hc e q,hK e q]
  have:RG.due n R e x<=RG.due n (updR R s r) e x:=by
   unfold RG.due
   by_cases k:e%n=s
   .have:=ht s hs
    rw[updR_s]at this
    rw[k,if_neg]
    .exact zzn_ _
    .rintro⟨_,z,_⟩
     omega
   .rw[updR_ne k];exact zzl_ _
  omega
theorem RInv.less(h:RInv n R M D)(hM:∀a b,∀m∈M' a b,m∈M a b)(hc:∀e x,cnt n M' e x<=cnt n M e x):RInv n R M' D where
 n1:=h.n1
 n4:=h.n4
 inv:=h.inv
 fresh:=h.fresh
 join:=h.join
 leaf:=h.leaf
 owns:=h.owns
 ownm:=fun i j hi hj m hm=>h.ownm i j hi hj m (hM i j m hm)
 same:=h.same
 gone:=h.gone
 asks:=h.asks
 noprom:=h.noprom
 msgs:=fun e x=>by have:=h.msgs e x;have:=hc e x;omega
 prm:=fun i j hi hj m hm=>h.prm i j hi hj m (hM i j m hm)
 prd:=fun i j hi hj m hm=>h.prd i j hi hj m (hM i j m hm)
 did:=h.did
 made:=h.made
 madm:=fun i j hi hj m hm=>h.madm i j hi hj m (hM i j m hm)
 other:=fun i j hi hj hne=>by
  obtain⟨m,hm⟩:=List.exists_mem_of_ne_nil _ hne
  exact h.other i j hi hj (fun z=>by have:=hM i j m hm;rw[z]at this;cases this)
theorem RInv.pop(h:RInv n R M D){i j:Nat}{m:Rm}{l:List Rm}(hi:i<n)(hj:j<n)(hM:M i j=m::l) :
 RInv n R (RG.pop M i j) D/\∀e x,toMs j m=some (e,x)->cnt n (RG.pop M i j) e x+RG.due n R e x+1<=(D e).2.1.count x:=by
 have hp:∀e x,cnt n (RG.pop M i j) e x+(if toMs j m=some (e,x) then 1 else 0)=cnt n M e x:=fun e x=>sm_ hi hj hM
 refine⟨h.less (fun a b m hm=>s9_ hm) fun e x=>by have:=hp e x;omega,fun e x he=>?_⟩
 have h1:=hp e x
 rw[if_pos he]at h1
 have:=h.due e x
 omega
end
end Go.Proofs.Ytnbppaolinopeaa.RG
namespace Go.Proofs.Ytnbppaolinopeaa.RG
section
variable{n:Nat}{R:Nat->Rs}{M M':Nat->Nat->List Rm}{D D':Id}
theorem uG_{e:Nat}{x:Ms}{s:Nat}(hs:s<n):∀ {o:Out} {M:Nat->Nat->List Rm},(∀p∈o,Rng n p.1)->cnt n (put M s o) e x=cnt n M e x+o.countP (fun p=>decide (toMs p.1.toNat p.2=some (e,x)))
 |[],M,_=>by simp[put]
 | p :: r, M, h => by
   have h1:=uG_ (e:=e) (x:=x) hs (o:=r) (M:=put1 M s p) fun q hq=>h q (by simp[hq])
   obtain⟨a,b⟩:=h p (by simp)
   obtain⟨k,m⟩:=p
   obtain⟨j,rfl⟩:∃j:Nat,k=j:=⟨k.toNat,by simp only at a;omega⟩
   have h2:=oq_ (M:=M) (e:=e) (x:=x) (m:=m) hs (show j<n by simp only at b;omega)
   show cnt n (put (put1 M s ((j:Int),m)) s r) e x=_
   rw[h1,h2,List.countP_cons]
   simp only[yys_,zzp_]
   omega
theorem q9_{e:Nat}{m:Ms}(h0:0<=m.to)(ho:m.tok=true->m.org=0):toMs (toRm e m).1.toNat (toRm e m).2=some (e,m):=by
 obtain⟨a,b,c⟩:=m
 simp only at h0 ho
 unfold toRm
 cases b with
 | true =>
   simp only[if_true,toMs]
   rw[ho rfl,Int.toNat_of_nonneg h0]
 | false =>
   simp only[yyi_,if_false,toMs]
   rw[Int.toNat_of_nonneg h0]
theorem tL_{e e':Nat}{x:Ms}:∀ {l:List Ms},(∀m∈l,0<=m.to/\(m.tok=true->m.org=0))->(posts e l).countP (fun p=>decide (toMs p.1.toNat p.2=some (e',x)))=if e=e' then l.count x else 0
 |[],_=>by simp[posts]
 | m :: r, h => by
   have h1:=tL_ (e:=e) (e':=e') (x:=x) (l:=r) fun q hq=>h q (by simp[hq])
   have h2:=q9_ (e:=e) (h m (by simp)).1 (h m (by simp)).2
   show (toRm e m::posts e r).countP _=_
   rw[List.countP_cons,h1,h2,List.count_cons]
   by_cases q:e=e'
   .subst q
    rw[if_pos rfl,if_pos rfl]
    by_cases k:m=x
    .subst k;simp
    .have:¬(some (e,m)=some (e,x)):=fun z=>k (by injection z with z;injection z)
     simp[k]
   .have:¬(some (e,m)=some (e',x)):=fun z=>q (by injection z with z;injection z)
    simp[q]
theorem qx_{e:Nat}{l:List Ms}(h:∀m∈l,Rng n m.to):∀p∈posts e l,Rng n p.1:=fun p hp=>by
 unfold posts at hp
 obtain⟨m,hm,rfl⟩:=List.mem_map.1 hp
 exact h m hm
theorem xN_{s:Nat}{r:Rs}{e:Nat}{x:Ms}(hr:r.ask=true->(R s).ask=true/\(R s).ep=r.ep):due n (updR R s r) e x<=due n R e x:=by
 unfold due
 by_cases q:e%n=s
 .subst q
  rw[updR_s]
  by_cases k:r.ask=true/\r.ep=e/\x=⟨((e%n:Nat):Int),true,0⟩
  .obtain⟨k1,k2,k3⟩:=k
   obtain⟨z1,z2⟩:=hr k1
   rw[if_pos ⟨k1,k2,k3⟩,if_pos ⟨z1,by rw[z2,k2],k3⟩]
   exact zzl_ _
  .rw[if_neg k];omega
 .rw[updR_ne q]
  exact zzl_ _
theorem TL.want{t:Tk}{x s:Int}(h:TL t x)(h0:0<=x)(hs:x≠s):TL (w1_ t) x/\∀m∈xA_ t s,ML m x:=by
 unfold w1_ xA_
 split
 .exact⟨h,fun m hm=>by cases hm⟩
 ·exact⟨⟨fun q=>by (have q:(-1:Int)=x:=q);omega,h.2⟩,fun m hm=>by
   rw[List.mem_singleton]at hm
   subst hm
   exact⟨h.1,fun _ q=>hs q.symm⟩⟩
theorem TL.done{t:Tk}{x:Int}(h:TL t x)(h0:0<=x):TL (xx_ t) x/\∀m∈xy_ t,ML m x:=by
 unfold xx_ xy_
 split
 .exact⟨h,fun m hm=>by cases hm⟩
 ·exact⟨⟨h.1,fun q=>by (have q:(-1:Int)=x:=q);omega⟩,fun m hm=>by
   rw[List.mem_singleton]at hm
   subst hm
   exact⟨h.2,fun z=>by cases z⟩⟩
theorem TL.hear{t:Tk}{y:Ms}{x:Int}(h:TL t x)(hy:ML y x):TL (hearT t y) x/\∀m∈hearM t y,ML m x:=by
 unfold hearT hearM
 split
 .exact⟨h,fun m hm=>by cases hm⟩
 .next q =>
  have ho:=hy.2 (by simpa using q)
  split
  ·exact⟨⟨ho,h.2⟩,fun m hm=>by
    rw[List.mem_singleton]at hm
    subst hm
    exact⟨h.1,fun _=>ho⟩⟩
  .split
   ·exact⟨⟨ho,h.2⟩,fun m hm=>by
     rw[List.mem_singleton]at hm
     subst hm
     exact⟨ho,fun z=>by cases z⟩⟩
   .exact⟨⟨ho,ho⟩,fun m hm=>by cases hm⟩
theorem xr_{s:Nat}{r:Rs}{e:Nat}{x:Ms}(h1:r.ask=(R s).ask)(h2:r.ep=(R s).ep):due n (updR R s r) e x=due n R e x:=by
 unfold due
 by_cases q:e%n=s
 .rw[q,updR_s,h1,h2]
 .rw[updR_ne q]
theorem RInv.act(h:RInv n R M D){s:Nat}(hs:s<n){r:Rs}{l:List Ms}{v:Tk}{ml':List Ms}{G':Int->Int}(hep:r.ep=(R s).ep)
 (hI:Inv n ((D (R s).ep).1.set s v) ml' G') (hfit:Fits n s r v)
 (hlf:∀x:Int,0<=x->x≠s->Leaf n (D (R s).ep).1 (D (R s).ep).2.1 x->TL v x/\∀m∈ml',ML m x)
 (hl:∀m∈l,Rng n m.to/\m.to≠s/\(m.tok=true->m.org=0))
 (hmsg:∀x,cnt n M (R s).ep x+l.count x+RG.due n (updR R s r) (R s).ep x<=ml'.count x)
 (hask:r.ask=true->(R s).ask=true/\r.prom=(R s).prom)
 (hall:(r.holds=true\/∃m∈l,m.tok=true)->∀x,x<n->(R s).ep<=(R x).ep) (K:Nat->Ms->Nat) (hK:∀e,e≠(R s).ep->∀x,K e x=0)
 (hS:∀x,ml'.count x+RG.due n R (R s).ep x+K (R s).ep x<=(D (R s).ep).2.1.count x+l.count x+RG.due n (updR R s r) (R s).ep x) :
 RInv n (updR R s r) (put M s (posts (R s).ep l)) (updD D (R s).ep ((D (R s).ep).1.set s v,ml',G'))/\Slk n K R M D (updR R s r) (put M s (posts (R s).ep l)) (updD D (R s).ep ((D (R s).ep).1.set s v,ml',G')):=by
 have hup:∀x,(updR R s r x).ep=(R x).ep:=fun x=>by
  by_cases q:x=s
  .subst q;rw[updR_s];exact hep
  .rw[updR_ne q]
 have hlen:=(h.inv (R s).ep).len
 have hcn:∀e x,cnt n (put M s (posts (R s).ep l)) e x=cnt n M e x+if (R s).ep=e then l.count x else 0:=fun e x=>by
  rw[uG_ hs (qx_ fun m hm=>(hl m hm).1),tL_ fun m hm=>⟨(hl m hm).1.1,(hl m hm).2.2⟩]
 refine h.updS hs (by omega) ?_ (fun e he=>tW_ (by omega)) (fun x hx hne=>?_) (fun x hx hne h1 h2=>?_) ?_ ?_ (fun a b ha hb m hm=>?_) (fun e he x=>?_) (fun x=>?_) (fun k x hx hk=>?_) (fun k x hx=>?_) K (fun e he=>hK e (by omega)) (fun x=>?_)
 .rw[hep,zS_];exact hI
 .rw[hep,zS_]
  show tAt ((D (R s).ep).1.set (s:Int).toNat v) x=_
  rw[yD_ (by omega) (by omega) (by omega),if_neg (by omega)]
 .rw[hep]at h1 h2
  rw[hep,zS_]
  have hL:=h.leaf _ x hx h1 h2
  have hv:=hlf x (by omega) (by omega) hL
  refine⟨fun y hy=>?_,hv.2⟩
  show TL (tAt ((D (R s).ep).1.set (s:Int).toNat v) y) x
  rw[yD_ (by omega) (by omega) hy.1]
  split
  .exact hv.1
  .exact hL.1 y hy
 .rw[hup,hep];exact h.owns s hs
 .rw[hep,zS_]
  have e1:tAt ((D (R s).ep).1.set s v) s=v:=by
   show tAt ((D (R s).ep).1.set (s:Int).toNat v) s=v
   rw[yD_ (by omega) (by omega) (by omega),if_pos rfl]
  show Fits n s r (tAt ((D (R s).ep).1.set s v) s)
  rw[e1]
  exact hfit
 .rcases vk_ hm with g|⟨g1,g2⟩
  .exact .inl g
  .refine .inr ⟨g1,?_⟩
   unfold posts at g2
   obtain⟨y,hy,hye⟩:=List.mem_map.1 g2
   obtain⟨y1,y2,y3⟩:=hl y hy
   unfold toRm at hye
   injection hye with q1 q2
   refine⟨by omega,?_⟩
   cases hk:y.tok with
   | true =>
     rw[if_pos hk]at q2
     subst q2
     exact⟨hep.symm,(fun z=>by cases z),(fun _ x hx=>by rw[hup,hep];exact hall (.inr ⟨y,hy,hk⟩) x hx)⟩
   | false =>
     rw[if_neg (by rw[hk];simp)]at q2
     subst q2
     exact⟨hep.symm,(fun z=>by cases z),(fun z=>by cases z)⟩
 .rw[hcn,if_neg (by omega)];rfl
 .rw[hep,zS_,hcn,if_pos rfl]
  exact hmsg x
 .rw[hup,hep]
  have:=hask k
  rw[this.2]at hk
  exact h.did s hs this.1 x hx hk
 .rw[hup,hep];exact hall (.inl k) x hx
 .rw[hep,zS_,hcn,if_pos rfl]
  have:=hS x
  show List.count x ml'+_+_+_<=_
  omega
end
end Go.Proofs.Ytnbppaolinopeaa.RG
namespace Go.Proofs.Ytnbppaolinopeaa.RG
section
variable{n:Nat}{R:Nat->Rs}{M:Nat->Nat->List Rm}{D:Id}
theorem uh_{α:Type}{P Q W:α->Prop}{a:α}(h:P a/\Q a)(w:W a):∃a,P a/\Q a/\W a:=⟨a,h.1,h.2,w⟩
theorem mz_{l:List Ms}{x:Ms}(h:x∈l):∃k,k<l.length/\msAt l k=x:=by
 obtain⟨k,hk,rfl⟩:=List.getElem_of_mem h
 exact⟨k,hk,by simp[msAt,yyk_,hk]⟩
theorem RInv.plain(h:RInv n R M D){s:Nat}(hs:s<n)(h1:(R s).lost=false)(h2:(R s).ask=false):(R s).tk=tAt (D (R s).ep).1 s/\(R s).tk.ok n s:=by
 have e:=h.same s hs h1 h2
 refine⟨e,?_⟩
 rw[e]
 exact(h.inv (R s).ep).val s ⟨by omega,by omega⟩
theorem RInv.using_(h:RInv n R M D){s:Nat}(hs:s<n)(hu:(R s).tk.using_=true):(R s).lost=false/\(R s).ask=false:=by
 have h1:(R s).lost=false:=by
  cases q:(R s).lost
  .rfl
  .rw[(h.gone s hs q).2]at hu;cases hu
 refine⟨h1,?_⟩
 cases q:(R s).ask
 .rfl
 .obtain⟨_,_,_,_,w,e⟩:=h.asks s hs q
  have hv:=(h.inv (R s).ep).val s ⟨by omega,by omega⟩
  rw[e]at hu
  have:=hv.uh hu
  rw[hv.wh w]at this
  cases this
theorem RInv.want(h:RInv n R M D){s:Nat}(hs:s<n)(h1:(R s).lost=false)(hw:(R s).tk.want=false)(hu:(R s).tk.using_=false) :
 ∃D',RInv n (updR R s (wantR (R s) s).1) (put M s (wantR (R s) s).2) D'/\Slk n (fun _ _=>0) R M D (updR R s (wantR (R s) s).1) (put M s (wantR (R s) s).2) D':=by
 unfold wantR
 by_cases ha:(R s).ask=true
 .refine⟨D,?_⟩
  rw[if_pos ha]
  obtain⟨a1,a2,a3,a4,a5,a6⟩:=h.asks s hs ha
  refine h.updS (r:={ (R s) with tk:={ (R s).tk with want:=true } }) hs (zzl_ _) (h.inv _) (fun e _=>rfl) (fun x _ _=>rfl) (fun x hx _ q1 q2=>h.leaf _ x hx q1 q2) ?_ (.inr (.inr ⟨h1,ha,a1,a2,a3,a4,a5,?_⟩)) (fun a b _ _ m hm=>.inl hm) (fun e _ x=>rfl) (fun x=>?_) (fun k x hx hk=>?_) (fun k x hx=>?_) (fun _ _=>0) (fun _ _ _=>rfl) (fun x=>?_)
  .show (R s).ep<=_
   rw[a1,updR_s]
   exact zzl_ _
  .show ({ (R s).tk with want:=true }:Tk)=_
   rw[a6]
  .refine yyd_ (Nat.add_le_add_left ?_ _) (h.due (R s).ep x)
   exact xN_ fun _=>⟨ha,rfl⟩
  .have:=h.did s hs ha x hx hk
   show (R s).ep<=_
   by_cases q:x=s
   .subst q;rw[updR_s];exact zzl_ _
   .rw[updR_ne q];exact this
  .unfold Rs.holds at k
   simp only[ha]at k
   simp at k
  .have:RG.due n (updR R s { (R s) with tk:={ (R s).tk with want:=true } }) (R s).ep x=RG.due n R (R s).ep x:=xr_ rfl rfl
   show _+_+RG.due n R (R s).ep x+0<=_+_+RG.due n (updR R s { (R s) with tk:={ (R s).tk with want:=true } }) (R s).ep x
   rw[this]
   exact zzl_ _
 .rw[if_neg ha]
  have ha:(R s).ask=false:=by simpa using ha
  obtain⟨e,ok⟩:=h.plain hs h1 ha
  have hI:=(h.inv (R s).ep).want (i:=(s:Int)) ⟨by omega,by omega⟩ (by rw[<-e];exact hw) (by rw[<-e];exact hu)
  rw[<-e,yys_]at hI
  refine⟨_,h.act (l:=xA_ (R s).tk s) (r:={ (R s) with tk:=w1_ (R s).tk }) hs rfl hI (.inl ⟨h1,ha,rfl,h.noprom s hs ha⟩) (fun x h0 hne hL=>?_) (fun m hm=>?_) (fun x=>?_) (fun k=>?_) (fun k x hx=>?_) (fun _ _=>0) (fun _ _ _=>rfl) (fun x=>by rw[xr_ (by rfl) (by rfl),List.count_append];omega)⟩
  .have hT:=(hL.1 s ⟨by omega,by omega⟩).want h0 hne
   rw[<-e]at hT
   exact⟨hT.1,fun m hm=>(zzw_.1 hm).elim (hL.2 m) (hT.2 m)⟩
  .unfold xA_ at hm
   split at hm
   .cases hm
   .next hh =>
    rw[List.mem_singleton]at hm
    subst hm
    have hl:=ok.l fun z=>hh ((ok.idle hu hw).2.1 z)
    exact⟨⟨hl.1,hl.2.1⟩,hl.2.2,fun z=>by cases z⟩
  .have:=h.due (R s).ep x
   have k:RG.due n (updR R s { (R s) with tk:=w1_ (R s).tk }) (R s).ep x<=RG.due n R (R s).ep x:=xN_ fun z=>by
    have z:(R s).ask=true:=z
    rw[ha]at z;cases z
   rw[List.count_append]
   omega
  .have k:(R s).ask=true:=k
   rw[ha]at k;cases k
  .refine h.made s hs ?_ x hx
   rcases k with k|⟨m,hm,hk⟩
   .unfold Rs.holds at k ⊢
    simp only[zzg_]at k ⊢
    refine⟨⟨?_,k.1.2⟩,k.2⟩
    have k:=k.1.1
    unfold w1_ at k
    split at k
    .exact k
    .exact k
   .unfold xA_ at hm
    split at hm
    .cases hm
    .rw[List.mem_singleton]at hm
     subst hm
     cases hk
theorem RInv.done(h:RInv n R M D){s:Nat}(hs:s<n)(hu:(R s).tk.using_=true){V:List Bool}(hV:Vis n (D (R s).ep).1 (D (R s).ep).2.1 (D (R s).ep).2.2 V) :
 ∃D',RInv n (updR R s (doneR (R s)).1) (put M s (doneR (R s)).2) D'/\Slk n (fun _ _=>0) R M D (updR R s (doneR (R s)).1) (put M s (doneR (R s)).2) D'/\∃V',Vis n (D' (R s).ep).1 (D' (R s).ep).2.1 (D' (R s).ep).2.2 V'/\mu (D' (R s).ep).1 V'+1<=mu (D (R s).ep).1 V:=by
 obtain⟨h1,ha⟩:=h.using_ hs hu
 obtain⟨e,ok⟩:=h.plain hs h1 ha
 obtain⟨hI,hV2,hmu⟩:=(h.inv (R s).ep).done hV (i:=(s:Int)) ⟨by omega,by omega⟩ (by rw[<-e];exact hu)
 rw[<-e,yys_]at hI hV2 hmu
 have hhold:(R s).holds=true:=by
  unfold Rs.holds
  rw[ok.uh hu,h1,ha]
  rfl
 refine uh_ (h.act (l:=xy_ (R s).tk) (r:={ (R s) with tk:=xx_ (R s).tk }) hs rfl hI (.inl ⟨h1,ha,rfl,h.noprom s hs ha⟩) (fun x h0 hne hL=>?_) (fun m hm=>?_) (fun x=>?_) (fun k=>?_) (fun k x hx=>h.made s hs hhold x hx) (fun _ _=>0) (fun _ _ _=>rfl) (fun x=>by rw[xr_ (by rfl) (by rfl),List.count_append];omega)) ⟨V,by rw[zS_];exact hV2,by rw[zS_];exact Nat.le_of_eq hmu⟩
 .have hT:=(hL.1 s ⟨by omega,by omega⟩).done h0
  rw[<-e]at hT
  exact⟨hT.1,fun m hm=>(zzw_.1 hm).elim (hL.2 m) (hT.2 m)⟩
 .unfold xy_ at hm
  split at hm
  .cases hm
  .next hh =>
   rw[List.mem_singleton]at hm
   subst hm
   have hl:=ok.x hh
   exact⟨⟨hl.1,hl.2.1⟩,hl.2.2,fun _=>rfl⟩
 .have:=h.due (R s).ep x
  have k:RG.due n (updR R s { (R s) with tk:=xx_ (R s).tk }) (R s).ep x<=RG.due n R (R s).ep x:=xN_ fun z=>by
   have z:(R s).ask=true:=z
   rw[ha]at z;cases z
  rw[List.count_append]
  omega
 .have k:(R s).ask=true:=k
  rw[ha]at k;cases k
end
end Go.Proofs.Ytnbppaolinopeaa.RG
namespace Go.Proofs.Ytnbppaolinopeaa.RG
section
variable{n:Nat}{R:Nat->Rs}{M:Nat->Nat->List Rm}{D:Id}
theorem RInv.ideal(h:RInv n R M D){s:Nat}{x:Ms}(hx:x.to=s){e:Nat}(sp:1<=(D e).2.1.count x){V:List Bool}(hV:Vis n (D e).1 (D e).2.1 (D e).2.2 V) :
 (x.tok=true->(tAt (D e).1 s).want=true)/\(x.tok=false->Othr n s x.org) /\
 ∃ ml' G' V', Inv n ((D e).1.set s (hearT (tAt (D e).1 s) x)) (ml' ++ hearM (tAt (D e).1 s) x) G' ∧ (∀ y, ml'.count y + (if y = x then 1 else 0) = (D e).2.1.count y) ∧
   Vis n ((D e).1.set s (hearT (tAt (D e).1 s) x)) (ml'++hearM (tAt (D e).1 s) x) G' V'/\mu ((D e).1.set s (hearT (tAt (D e).1 s) x)) V'+1=mu (D e).1 V:=by
 obtain⟨k,hk,hkx⟩:=mz_ (List.count_pos_iff.1 sp)
 have hI:=h.inv e
 refine⟨fun ht=>?_,fun ht=>?_,mcut (D e).2.1 k,?_⟩
 .have:=(hI.tok_in hk (by rw[hkx];exact ht)).1
  rw[hkx,hx]at this
  exact this
 .obtain⟨r,c⟩:=hI.came hk (by rw[hkx];exact ht)
  have:=c.ot
  rw[hkx,hx]at this
  exact this
 .obtain⟨G',V',h1,h2,h3⟩:=hI.deliver hV hk
  rw[delT,delM,hkx,hx,yys_]at h1 h2
  rw[delT,hkx,hx,yys_]at h3
  refine⟨G',V',h1,fun y=>?_,h2,h3⟩
  have:=(wp_ hk).count_eq y
  rw[hkx,List.count_cons]at this
  by_cases q:y=x
  .subst q;simp at this;rw[if_pos rfl];omega
  .have q':¬(x=y):=fun z=>q z.symm
   rw[if_neg q]
   simp[q']at this
   omega
theorem tv_{ml ml':List Ms}{x:Ms}(hc:∀y,ml'.count y+(if y=x then 1 else 0)=ml.count y){m:Ms}(hm:m∈ml'):m∈ml:=by
 have h1:=List.count_pos_iff.2 hm
 have h2:=hc m
 exact List.count_pos_iff.1 (by omega)
theorem of_{ml ml':List Ms}{x:Ms}(hc:∀y,ml'.count y+(if y=x then 1 else 0)=ml.count y):x∈ml:=by
 have h2:=hc x
 rw[if_pos rfl]at h2
 exact List.count_pos_iff.1 (by omega)
theorem vy_{n:Nat}{t:List Tk}{ml ml':List Ms}{s:Nat}(hs:s<n){y:Ms}(hc:∀z,ml'.count z+(if z=y then 1 else 0)=ml.count z){x:Int}(hL:Leaf n t ml x):TL (hearT (tAt t s) y) x/\∀m∈ml'++hearM (tAt t s) y,ML m x:=by
 have hT:=(hL.1 s ⟨by omega,by omega⟩).hear (hL.2 y (of_ hc))
 exact⟨hT.1,fun m hm=>(zzw_.1 hm).elim (fun q=>hL.2 m (tv_ hc q)) (hT.2 m)⟩
theorem tw_{t:Tk}{m:Ms}(h:m.tok=false):(hearT t m).want=t.want/\(hearT t m).using_=t.using_/\((hearT t m).has=true->t.has=true):=by
 unfold hearT
 rw[if_neg (by rw[h];simp)]
 split
 .exact⟨rfl,rfl,id⟩
 .split
  .exact⟨rfl,rfl,fun q=>by cases q⟩
  .exact⟨rfl,rfl,id⟩
theorem yj_{n s:Nat}{t:Tk}{m x:Ms}(hok:t.ok n s)(ht:m.tok=true\/Othr n s m.org)(hx:x∈hearM t m):(Rng n x.to/\x.to≠s/\(x.tok=true->x.org=0))/\(x.tok=true->t.has=true/\t.using_=false):=by
 unfold hearM at hx
 by_cases k:m.tok=true
 .rw[if_pos k]at hx;cases hx
 .rw[if_neg k]at hx
  have ho:=ht.resolve_left k
  split at hx
  .next q =>
   rw[List.mem_singleton]at hx
   subst hx
   have:=hok.l q
   exact⟨⟨⟨this.1,this.2.1⟩,this.2.2,fun z=>by cases z⟩,fun z=>by cases z⟩
  .split at hx
   .next q =>
    rw[List.mem_singleton]at hx
    subst hx
    exact⟨⟨⟨ho.1,ho.2.1⟩,ho.2.2,fun _=>rfl⟩,fun _=>q⟩
   .cases hx
theorem RInv.tok(h:RInv n R M D){s:Nat}(hs:s<n)(h1:(R s).lost=false)(ha:(R s).ask=false)
 (sp:∀y,cnt n M (R s).ep y+RG.due n R (R s).ep y+(if y=⟨s,true,0⟩ then 1 else 0)<=(D (R s).ep).2.1.count y)
 (hm:∀x,x<n->(R s).ep<=(R x).ep) {V:List Bool} (hV:Vis n (D (R s).ep).1 (D (R s).ep).2.1 (D (R s).ep).2.2 V) :
 ∃D',RInv n (updR R s (passR (R s) ⟨s,true,0⟩).1) (put M s (passR (R s) ⟨s,true,0⟩).2) D'/\Slk n (fun e y=>if e=(R s).ep/\y=⟨s,true,0⟩ then 1 else 0) R M D (updR R s (passR (R s) ⟨s,true,0⟩).1) (put M s (passR (R s) ⟨s,true,0⟩).2) D'/\∃V',Vis n (D' (R s).ep).1 (D' (R s).ep).2.1 (D' (R s).ep).2.2 V'/\mu (D' (R s).ep).1 V'+1<=mu (D (R s).ep).1 V:=by
 obtain⟨e,ok⟩:=h.plain hs h1 ha
 obtain⟨hw,_,ml',G',V',hI,hc,hV2,hmu⟩:=h.ideal (s:=s) (x:=⟨s,true,0⟩) rfl (e:=(R s).ep) (by have:=sp ⟨s,true,0⟩;rw[if_pos rfl]at this;omega) hV
 rw[<-e]at hI hV2 hmu
 refine uh_ (h.act (l:=hearM (R s).tk ⟨s,true,0⟩) (r:={ (R s) with tk:=hearT (R s).tk ⟨s,true,0⟩ }) hs rfl hI (.inl ⟨h1,ha,rfl,h.noprom s hs ha⟩) (fun x _ _ hL=>by rw[e];exact vy_ hs hc hL) (fun m hm=>(yj_ ok (.inl rfl) hm).1) (fun x=>?_) (fun k=>?_) (fun k x hx=>hm x hx) (fun e y=>if e=(R s).ep/\y=⟨s,true,0⟩ then 1 else 0) (fun e he y=>if_neg fun z=>he z.1) (fun y=>by have:=hc y;rw[xr_ (by rfl) (by rfl),List.count_append];simp only[true_and];omega)) ⟨V',by rw[zS_];exact hV2,by rw[zS_];exact Nat.le_of_eq hmu⟩
 .have h2:=sp x
  have h3:=hc x
  have k:RG.due n (updR R s { (R s) with tk:=hearT (R s).tk ⟨s,true,0⟩ }) (R s).ep x<=RG.due n R (R s).ep x:=xN_ fun z=>by
   have z:(R s).ask=true:=z
   rw[ha]at z;cases z
  rw[List.count_append]
  omega
 .have k:(R s).ask=true:=k
  rw[ha]at k;cases k
theorem RInv.req(h:RInv n R M D){s:Nat}(hs:s<n){o:Int}(h1:(R s).lost=false)(ha:(R s).ask=false)
 (sp:∀y,cnt n M (R s).ep y+RG.due n R (R s).ep y+(if y=⟨s,false,o⟩ then 1 else 0)<=(D (R s).ep).2.1.count y) {V:List Bool} (hV:Vis n (D (R s).ep).1 (D (R s).ep).2.1 (D (R s).ep).2.2 V) :
 ∃D',RInv n (updR R s (passR (R s) ⟨s,false,o⟩).1) (put M s (passR (R s) ⟨s,false,o⟩).2) D'/\Slk n (fun e y=>if e=(R s).ep/\y=⟨s,false,o⟩ then 1 else 0) R M D (updR R s (passR (R s) ⟨s,false,o⟩).1) (put M s (passR (R s) ⟨s,false,o⟩).2) D'/\∃V',Vis n (D' (R s).ep).1 (D' (R s).ep).2.1 (D' (R s).ep).2.2 V'/\mu (D' (R s).ep).1 V'+1<=mu (D (R s).ep).1 V:=by
 obtain⟨e,ok⟩:=h.plain hs h1 ha
 obtain⟨_,ho,ml',G',V',hI,hc,hV2,hmu⟩:=h.ideal (s:=s) (x:=⟨s,false,o⟩) rfl (e:=(R s).ep) (by have:=sp ⟨s,false,o⟩;rw[if_pos rfl]at this;omega) hV
 rw[<-e]at hI hV2 hmu
 have hh:=tw_ (t:=(R s).tk) (m:=⟨s,false,o⟩) rfl
 have hmade:(R s).tk.has=true->∀x,x<n->(R s).ep<=(R x).ep:=fun q=>h.made s hs (by unfold Rs.holds;rw[q,h1,ha];rfl)
 refine uh_ (h.act (l:=hearM (R s).tk ⟨s,false,o⟩) (r:={ (R s) with tk:=hearT (R s).tk ⟨s,false,o⟩ }) hs rfl hI (.inl ⟨h1,ha,rfl,h.noprom s hs ha⟩) (fun x _ _ hL=>by rw[e];exact vy_ hs hc hL) (fun m hm=>(yj_ ok (.inr (ho rfl)) hm).1) (fun x=>?_) (fun k=>?_) (fun k=>hmade ?_) (fun e y=>if e=(R s).ep/\y=⟨s,false,o⟩ then 1 else 0) (fun e he y=>if_neg fun z=>he z.1) (fun y=>by have:=hc y;rw[xr_ (by rfl) (by rfl),List.count_append];simp only[true_and];omega)) ⟨V',by rw[zS_];exact hV2,by rw[zS_];exact Nat.le_of_eq hmu⟩
 .have h2:=sp x
  have h3:=hc x
  have k:RG.due n (updR R s { (R s) with tk:=hearT (R s).tk ⟨s,false,o⟩ }) (R s).ep x<=RG.due n R (R s).ep x:=xN_ fun z=>by
   have z:(R s).ask=true:=z
   rw[ha]at z;cases z
  rw[List.count_append]
  omega
 .have k:(R s).ask=true:=k
  rw[ha]at k;cases k
 .rcases k with k|⟨m,hm,hk⟩
  .unfold Rs.holds at k
   simp only[zzg_]at k
   exact hh.2.2 k.1.1
  .exact((yj_ ok (.inr (ho rfl)) hm).2 hk).1
theorem RInv.reqA(h:RInv n R M D){s:Nat}(hs:s<n){o:Int}(h1:(R s).lost=false)(ha:(R s).ask=true)
 (sp:∀y,cnt n M (R s).ep y+RG.due n R (R s).ep y+(if y=⟨s,false,o⟩ then 1 else 0)<=(D (R s).ep).2.1.count y) {V:List Bool} (hV:Vis n (D (R s).ep).1 (D (R s).ep).2.1 (D (R s).ep).2.2 V) :
 ∃D',RInv n (updR R s (passA (R s) ⟨s,false,o⟩).1) (put M s (passA (R s) ⟨s,false,o⟩).2) D'/\Slk n (fun e y=>if e=(R s).ep/\y=⟨s,false,o⟩ then 1 else 0) R M D (updR R s (passA (R s) ⟨s,false,o⟩).1) (put M s (passA (R s) ⟨s,false,o⟩).2) D'/\∃V',Vis n (D' (R s).ep).1 (D' (R s).ep).2.1 (D' (R s).ep).2.2 V'/\mu (D' (R s).ep).1 V'+1<=mu (D (R s).ep).1 V:=by
 obtain⟨a1,a2,a3,a4,a5,a6⟩:=h.asks s hs ha
 have ok:=(h.inv (R s).ep).val s ⟨by omega,by omega⟩
 have e:({ (R s).tk with want:=true }:Tk)=tAt (D (R s).ep).1 s:=by
  rw[a6,<-a5]
 obtain⟨_,ho,ml',G',V',hI,hc,hV2,hmu⟩:=h.ideal (s:=s) (x:=⟨s,false,o⟩) rfl (e:=(R s).ep) (by have:=sp ⟨s,false,o⟩;rw[if_pos rfl]at this;omega) hV
 have hh:=tw_ (t:=tAt (D (R s).ep).1 s) (m:=⟨s,false,o⟩) rfl
 unfold passA
 rw[e]
 refine uh_ (h.act (l:=hearM (tAt (D (R s).ep).1 s) ⟨s,false,o⟩) (r:={ (R s) with tk:={ hearT (tAt (D (R s).ep).1 s) ⟨s,false,o⟩ with want:=(R s).tk.want } }) hs rfl hI (.inr (.inr ⟨h1,ha,a1,a2,a3,a4,by rw[hh.1,a5],rfl⟩)) (fun x _ _ hL=>vy_ hs hc hL) (fun m hm=>(yj_ ok (.inr (ho rfl)) hm).1) (fun x=>?_) (fun k=>⟨ha,rfl⟩) (fun k=>?_) (fun e y=>if e=(R s).ep/\y=⟨s,false,o⟩ then 1 else 0) (fun e he y=>if_neg fun z=>he z.1) (fun y=>by have:=hc y;rw[xr_ (by rfl) (by rfl),List.count_append];simp only[true_and];omega)) ⟨V',by rw[zS_];exact hV2,by rw[zS_];exact Nat.le_of_eq hmu⟩
 .have h2:=sp x
  have h3:=hc x
  have k:RG.due n (updR R s { (R s) with tk:={ hearT (tAt (D (R s).ep).1 s) ⟨s,false,o⟩ with want:=(R s).tk.want } }) (R s).ep x<=RG.due n R (R s).ep x:=xN_ fun z=>⟨ha,rfl⟩
  rw[List.count_append]
  omega
 .exfalso
  rcases k with k|⟨m,hm,hk⟩
  .unfold Rs.holds at k
   simp only[zzg_,yyh_]at k
   rw[ha]at k
   cases k.2
  .have:=((yj_ ok (.inr (ho rfl)) hm).2 hk).1
   rw[ok.wh a5]at this
   cases this
end
end Go.Proofs.Ytnbppaolinopeaa.RG
namespace Go.Proofs.Ytnbppaolinopeaa.RG
section
variable{n:Nat}{R:Nat->Rs}{M:Nat->Nat->List Rm}{D:Id}
theorem RInv.ideal_made(h:RInv n R M D){s:Nat}(hs:s<n){e:Nat}(sp:1<=(D e).2.1.count ⟨s,true,0⟩){r:Rs}(hr:r.tk={ tAt (D e).1 s with want:=r.tk.want })(he:r.ep=e){V:List Bool}(hV:Vis n (D e).1 (D e).2.1 (D e).2.2 V) :
 ∃ (l : List Ms) (ml' : List Ms) (G' : Int → Int) (V' : List Bool), (RG.made r).2 = posts e l ∧ Inv n ((D e).1.set s (RG.made r).1.tk) (ml' ++ l) G' ∧
   (∀y,ml'.count y+(if y=⟨s,true,0⟩ then 1 else 0)=(D e).2.1.count y)/\(∀m∈l,Rng n m.to/\m.to≠s/\(m.tok=true->m.org=0)) /\
   (∀x:Int,0<=x->TL (tAt (D e).1 s) x->TL (RG.made r).1.tk x/\∀m∈l,ML m x) /\
   Vis n ((D e).1.set s (RG.made r).1.tk) (ml'++l) G' V'/\mu ((D e).1.set s (RG.made r).1.tk) V'+1<=mu (D e).1 V:=by
 obtain⟨hw,_,ml',G',V',hI,hc,hV2,hmu⟩:=h.ideal (s:=s) (x:=⟨s,true,0⟩) rfl (e:=e) sp hV
 replace hw:=hw rfl
 have ok:=(h.inv e).val s ⟨by omega,by omega⟩
 have hl:=(h.inv e).len
 generalize hv:tAt (D e).1 s=v at *
 have hh:=ok.wh hw
 have hu:v.using_=false:=by
  cases q:v.using_
  .rfl
  .have:=ok.uh q;rw[hh]at this;cases this
 have eT:hearT v ⟨s,true,0⟩=v.get:=by unfold hearT;rw[if_pos rfl]
 have eM:hearM v ⟨s,true,0⟩=[]:=by unfold hearM;rw[if_pos rfl]
 rw[eT,eM,List.append_nil]at hI hV2
 rw[eT]at hmu
 obtain⟨vh,vw,vu,vl,vn⟩:=v
 simp only at hh hu hw
 subst hh hu hw
 obtain⟨ep,lo,ak,pr,tk⟩:=r
 simp only at hr he
 obtain⟨th,tw,tu,tl,tn⟩:=tk
 simp only[Tk.mk.injEq]at hr
 obtain⟨rfl,_,rfl,rfl,rfl⟩:=hr
 subst he
 cases tw with
 | true =>
   refine⟨[],ml',G',V',rfl,?_,hc,(fun m hm=>by cases hm),(fun x _ hT=>⟨hT,fun m hm=>by cases hm⟩),?_,Nat.le_of_eq hmu⟩
   .rw[List.append_nil]
    exact hI
   .rw[List.append_nil]
    exact hV2
 | false =>
   have et:tAt ((D ep).1.set s (Tk.get ⟨false,true,false,tl,tn⟩)) s=Tk.get ⟨false,true,false,tl,tn⟩:=by
    have:=yD_ (t:=(D ep).1) (i:=(s:Int)) (x:=(s:Int)) (v:=Tk.get ⟨false,true,false,tl,tn⟩) (by omega) (by omega) (by omega)
    rw[if_pos rfl,yys_]at this
    exact this
   obtain⟨hd,hV3,hmu3⟩:=hI.done hV2 (i:=(s:Int)) ⟨by omega,by omega⟩ (by rw[et];rfl)
   rw[et,yys_,List.set_set]at hd hV3 hmu3
   by_cases hn:tn=-1
   .subst hn
    refine⟨[],ml',G',V',rfl,hd,hc,(fun m hm=>by cases hm),(fun x _ hT=>⟨hT,fun m hm=>by cases hm⟩),hV3,?_⟩
    have:mu ((D ep).1.set s (xx_ (Tk.get ⟨false,true,false,tl,-1⟩))) V'+1<=mu (D ep).1 V:=by omega
    exact this
   ·have eP:(RG.made ⟨ep,lo,ak,pr,⟨false,false,false,tl,tn⟩⟩).1.tk=⟨false,false,false,tl,-1⟩:=by
     unfold RG.made
     simp only[yyi_,if_false]
     rw[if_neg hn]
    rw[show xx_ (Tk.get ⟨false,true,false,tl,tn⟩)=⟨false,false,false,tl,-1⟩ from if_neg hn]at hd hV3 hmu3
    rw[show xy_ (Tk.get ⟨false,true,false,tl,tn⟩)=[⟨tn,true,0⟩] from if_neg hn]at hd hV3
    refine⟨[⟨tn,true,0⟩],ml',G',V',?_,?_,hc,fun m hm=>?_,fun x h0 hT=>?_,?_,?_⟩
    .unfold RG.made
     simp only[yyi_,if_false]
     rw[if_neg hn]
     rfl
    .rw[eP]
     exact hd
    .rw[List.mem_singleton]at hm
     subst hm
     have:=ok.x hn
     exact⟨⟨this.1,this.2.1⟩,this.2.2,fun _=>rfl⟩
    .unfold RG.made
     simp only[yyi_,if_false]
     rw[if_neg hn]
     refine⟨⟨hT.1,fun q=>by (have q:(-1:Int)=x:=q);omega⟩,fun m hm=>?_⟩
     rw[List.mem_singleton]at hm
     subst hm
     exact⟨hT.2,fun z=>by cases z⟩
    .rw[eP];exact hV3
    .rw[eP];omega
theorem RInv.all(h:RInv n R M D){s:Nat}(hs:s<n)(ha:(R s).ask=true)(hall:∀x,x<n->(R s).ep<=(R x).ep){p:List Bool}{V:List Bool}(hV:Vis n (D (R s).ep).1 (D (R s).ep).2.1 (D (R s).ep).2.2 V) :
 ∃D',RInv n (updR R s (RG.made { (R s) with prom:=p }).1) (put M s (RG.made { (R s) with prom:=p }).2) D'/\Slk n (fun _ _=>0) R M D (updR R s (RG.made { (R s) with prom:=p }).1) (put M s (RG.made { (R s) with prom:=p }).2) D'/\∃V',Vis n (D' (R s).ep).1 (D' (R s).ep).2.1 (D' (R s).ep).2.2 V'/\mu (D' (R s).ep).1 V'+1<=mu (D (R s).ep).1 V:=by
 obtain⟨a1,a2,a3,a4,a5,a6⟩:=h.asks s hs ha
 have hd:RG.due n R (R s).ep ⟨s,true,0⟩=1:=by
  unfold RG.due
  rw[a1,if_pos ⟨ha,rfl,rfl⟩]
 have hdx:∀x,RG.due n R (R s).ep x=if x=⟨s,true,0⟩ then 1 else 0:=fun x=>by
  unfold RG.due
  rw[a1]
  by_cases q:x=⟨s,true,0⟩
  .rw[if_pos ⟨ha,rfl,q⟩,if_pos q]
  .rw[if_neg (fun z=>q z.2.2),if_neg q]
 obtain⟨l,ml',G',V',e1,e2,e3,e4,e5,e6,e7⟩:=h.ideal_made hs (e:=(R s).ep) (r:={ (R s) with prom:=p }) (by have:=h.due (R s).ep ⟨s,true,0⟩;omega) a6 rfl hV
 have ne:(RG.made { (R s) with prom:=p }).1.ep=(R s).ep/\(RG.made { (R s) with prom:=p }).1.ask=false/\(RG.made { (R s) with prom:=p }).1.lost=(R s).lost/\(RG.made { (R s) with prom:=p }).1.prom=[]:=by
  unfold RG.made
  split
  .exact⟨rfl,rfl,rfl,rfl⟩
  .split<;>exact⟨rfl,rfl,rfl,rfl⟩
 have hlost:(R s).lost=false:=by
  cases q:(R s).lost
  .rfl
  .have:=(h.gone s hs q).1;rw[ha]at this;cases this
 rw[e1]
 refine uh_ (h.act (l:=l) hs ne.1 e2 (.inl ⟨by rw[ne.2.2.1];exact hlost,ne.2.1,rfl,ne.2.2.2⟩) (fun x h0 _ hL=>?_) e4 (fun x=>?_) (fun k=>?_) (fun _=>hall) (fun _ _=>0) (fun _ _ _=>rfl) (fun x=>?_)) ⟨V',by rw[zS_];exact e6,by rw[zS_];exact e7⟩
 .have:=e5 x h0 (hL.1 s ⟨by omega,by omega⟩)
  exact⟨this.1,fun m hm=>(zzw_.1 hm).elim (fun q=>hL.2 m (tv_ e3 q)) (this.2 m)⟩
 .have h1:=h.due (R s).ep x
  rw[hdx]at h1
  have h2:=e3 x
  have h3:RG.due n (updR R s (RG.made { (R s) with prom:=p }).1) (R s).ep x=0:=by
   unfold RG.due
   rw[a1,updR_s,if_neg]
   rintro⟨z,_⟩
   rw[ne.2.1]at z;cases z
  rw[List.count_append]
  omega
 .rw[ne.2.1]at k;cases k
 .have h2:=e3 x
  rw[hdx,List.count_append]
  omega
theorem o7_(r:Rs):(RG.made r).2.length<=1:=by
 unfold RG.made
 split
 .simp
 .split<;>simp
theorem RInv.prd'(h:RInv n R M D){s j:Nat}(hs:s<n)(ha:(R s).ask=true)(hje:(R s).ep<=(R j).ep){V:List Bool}(hV:Vis n (D (R s).ep).1 (D (R s).ep).2.1 (D (R s).ep).2.2 V) :
 ∃D',RInv n (updR R s (prdR (R s) j).1) (put M s (prdR (R s) j).2) D'/\Slk n (fun _ _=>0) R M D (updR R s (prdR (R s) j).1) (put M s (prdR (R s) j).2) D'/\∃V',Vis n (D' (R s).ep).1 (D' (R s).ep).2.1 (D' (R s).ep).2.2 V'/\2*mu (D' (R s).ep).1 V'+(prdR (R s) j).2.length<=2*mu (D (R s).ep).1 V:=by
 have hdid:∀x,x<n->((R s).prom.set j true)[x]?=some true->(R s).ep<=(R x).ep:=fun x hx hk=>by
  by_cases q:x=j
  .subst q;exact hje
  .rw[List.getElem?_set_ne (fun z=>q z.symm)]at hk
   exact h.did s hs ha x hx hk
 obtain⟨a1,a2,a3,a4,a5,a6⟩:=h.asks s hs ha
 have hgot:((R s).prom.set j true).all id=true->∀x,x<n->((R s).prom.set j true)[x]?=some true:=fun hall x hx=>by
  have hx':x<((R s).prom.set j true).length:=by rw[List.length_set];omega
  have:=zzh_.1 hall _ (yyp_ hx')
  rw[zzf_ hx']
  simpa using this
 unfold prdR
 by_cases hall:((R s).prom.set j true).all id=true
 .simp only
  rw[if_pos hall]
  obtain⟨D',z1,z2,V',z3,z4⟩:=h.all hs ha (p:=(R s).prom.set j true) (fun x hx=>hdid x hx (hgot hall x hx)) hV
  refine⟨D',z1,z2,V',z3,?_⟩
  refine yyd_ (Nat.add_le_add_left (o7_ _) _) ?_
  omega
 .simp only
  rw[if_neg hall]
  have hlost:(R s).lost=false:=by
   cases q:(R s).lost
   .rfl
   .have:=(h.gone s hs q).1;rw[ha]at this;cases this
  have hup:∀x,(updR R s { (R s) with prom:=(R s).prom.set j true } x).ep=(R x).ep:=fun x=>by
   by_cases q:x=s
   .subst q;rw[updR_s]
   .rw[updR_ne q]
  refine uh_ (h.updS (D':=D) (r:={ (R s) with prom:=(R s).prom.set j true }) hs (zzl_ _) (h.inv _) (fun e _=>rfl) (fun x _ _=>rfl) (fun x hx _ q1 q2=>h.leaf _ x hx q1 q2) ?_ (.inr (.inr ⟨hlost,ha,a1,?_,?_,?_,a5,a6⟩)) (fun a b _ _ m hm=>.inl hm) (fun e _ x=>rfl) (fun x=>?_) (fun k x hx hk=>?_) (fun k x hx=>?_) (fun _ _=>0) (fun _ _ _=>rfl) (fun x=>by rw[xr_ (by rfl) (by rfl)];exact zzl_ _)) ⟨V,hV,zzl_ _⟩
  .rw[hup];exact h.owns s hs
  .show ((R s).prom.set j true).length=n
   rw[List.length_set];exact a2
  .show ((R s).prom.set j true)[s]?=some true
   by_cases q:j=s
   .subst q
    rw[List.getElem?_set_self (by omega)]
   .rw[List.getElem?_set_ne q];exact a3
  .simpa using hall
  .refine yyd_ (Nat.add_le_add_left ?_ _) (h.due (R s).ep x)
   exact xN_ fun _=>⟨ha,rfl⟩
  .rw[hup];exact hdid x hx hk
  .unfold Rs.holds at k
   simp only[ha]at k
   simp at k
theorem RInv.promise(h:RInv n R M D){s j e:Nat}(hs:s<n)(hj:j<n)(hjs:j≠s)(he:(R s).ep<e)(hej:e%n=j)(hown:e<=(R j).ep) :
 ∃D',RInv n (updR R s (promR (R s) s j e).1) (put M s (promR (R s) s j e).2) D'/\Slk n (fun _ _=>0) R M D (updR R s (promR (R s) s j e).1) (put M s (promR (R s) s j e).2) D':=by
 have hv:=h.join e s hs he (by omega)
 have hv2:idT n e s=⟨false,false,false,j,-1⟩:=by
  unfold idT
  rw[hej,if_neg (by omega)]
 rw[hv2]at hv
 have hlen:=(h.inv e).len
 have hr:(promR (R s) s j e).1=⟨e,false,false,[],⟨false,(R s).tk.using_||(R s).tk.want,false,if ((R s).tk.using_||(R s).tk.want)=true then -1 else (j:Int),-1⟩⟩:=by
  unfold promR RG.promised
  simp only
  by_cases q:((R s).tk.using_||(R s).tk.want)=true
  .simp only[q,if_true]
  .rw[if_neg q,if_neg q]
 have ho:(promR (R s) s j e).2=((j:Int),⟨.prd,e,0⟩)::(if ((R s).tk.using_||(R s).tk.want)=true then [((j:Int),⟨.req,e,s⟩)] else []):=by
  unfold promR RG.promised
  simp only
  by_cases q:((R s).tk.using_||(R s).tk.want)=true
  .rw[if_pos q,if_pos q]
  .rw[if_neg q,if_neg q]
 generalize (promR (R s) s j e).1=r at hr ⊢
 generalize (promR (R s) s j e).2=o at ho ⊢
 generalize ((R s).tk.using_||(R s).tk.want)=w at hr ho
 have hrng:∀p∈o,Rng n p.1:=fun p hp=>by
  rw[ho]at hp
  rcases List.mem_cons.1 hp with hp|hp
  .subst hp;exact⟨by simp,by simp only;omega⟩
  .split at hp
   .rw[List.mem_singleton]at hp
    subst hp;exact⟨by simp,by simp only;omega⟩
   .cases hp
 have hcn:∀e' x,cnt n (put M s o) e' x=cnt n M e' x+if w=true/\e'=e/\x=⟨j,false,s⟩ then 1 else 0:=fun e' x=>by
  rw[uG_ hs hrng,ho]
  congr 1
  cases w with
  |false=>simp[toMs]
  | true =>
    simp only[toMs,if_true,List.countP_cons,List.countP_nil,yys_,zzp_,yya_,yyc_,true_and]
    by_cases q:e'=e/\x=⟨j,false,s⟩
    .rw[if_pos q,if_pos ⟨q.1.symm,q.2.symm⟩];simp
    .rw[if_neg q,if_neg (fun z=>q ⟨z.1.symm,z.2.symm⟩)];simp
 have hdue:∀x,RG.due n (updR R s r) e x=RG.due n R e x:=fun x=>by
  unfold RG.due
  rw[hej,updR_ne hjs]
 have hmem:∀a b,a<n->b<n->∀m∈put M s o a b,m∈M a b\/(a=s/\b≠s/\m.e=r.ep/\(m.k=.prm->m.e%n=s)/\(m.k=.tok->∀x,x<n->r.ep<=(updR R s r x).ep)):=fun a b _ _ m hm=>by
  rcases vk_ hm with g|⟨g1,g2⟩
  .exact .inl g
  .rw[ho]at g2
   refine .inr ⟨g1,?_⟩
   rcases List.mem_cons.1 g2 with g2|g2
   .injection g2 with q1 q2
    subst q2
    rw[hr]
    exact⟨by omega,rfl,(fun z=>by cases z),(fun z=>by cases z)⟩
   .split at g2
    .rw[List.mem_singleton]at g2
     injection g2 with q1 q2
     subst q2
     rw[hr]
     exact⟨by omega,rfl,(fun z=>by cases z),(fun z=>by cases z)⟩
    .cases g2
 have hre:r.ep=e:=by rw[hr]
 have hra:r.ask=false:=by rw[hr]
 have hrl:r.lost=false:=by rw[hr]
 have hrp:r.prom=[]:=by rw[hr]
 have hrh:r.tk.has=false:=by rw[hr]
 cases w with
 | false =>
   have hrt:r.tk=⟨false,false,false,j,-1⟩:=by rw[hr];rfl
   refine⟨D,h.updS (r:=r) hs (by omega) (h.inv _) (fun e _=>rfl) (fun x _ _=>rfl) (fun x hx _ q1 q2=>h.leaf _ x hx q1 q2) ?_ (.inl ⟨hrl,hra,by rw[hrt,hre,hv],hrp⟩) hmem (fun e' _ x=>?_) (fun x=>?_) (fun k=>?_) (fun k=>?_) (fun _ _=>0) (fun _ _ _=>rfl) (fun x=>by rw[hre,hdue,hcn,if_neg (fun z=>by cases z.1)];exact zzl_ _)⟩
   .rw[hre,hej,updR_ne hjs];exact hown
   .rw[hcn,if_neg (fun z=>by cases z.1)];rfl
   .rw[hcn,if_neg (fun z=>by cases z.1),hre]
    have:=hdue x
    have:=h.due e x
    omega
   .rw[hra]at k;cases k
   .unfold Rs.holds at k;rw[hrh]at k;simp at k
 | true =>
   have hrt:r.tk=⟨false,true,false,-1,-1⟩:=by rw[hr];rfl
   have hI:=(h.inv e).want (i:=(s:Int)) ⟨by omega,by omega⟩ (by rw[hv]) (by rw[hv])
   rw[hv,yys_]at hI
   have eT:w1_ ⟨false,false,false,j,-1⟩=⟨false,true,false,-1,-1⟩:=rfl
   have eM:xA_ ⟨false,false,false,j,-1⟩ s=[⟨j,false,s⟩]:=rfl
   rw[eT,eM]at hI
   refine⟨updD D e ((D e).1.set s ⟨false,true,false,-1,-1⟩,(D e).2.1++[⟨j,false,s⟩],(D e).2.2),h.updS (r:=r) hs (by omega) ?_ (fun e' q=>tW_ (by omega)) (fun x hx hne=>?_) (fun x hx hne q1 q2=>?_) ?_ (.inl ⟨hrl,hra,?_,hrp⟩) hmem (fun e' q x=>?_) (fun x=>?_) (fun k=>?_) (fun k=>?_) (fun _ _=>0) (fun _ _ _=>rfl) (fun x=>?_)⟩
   .rw[hre,zS_];exact hI
   .rw[hre,zS_]
    show tAt ((D e).1.set (s:Int).toNat _) x=_
    rw[yD_ (by omega) (by omega) (by omega),if_neg (by omega)]
   .rw[hre]at q1 q2
    have hL:=h.leaf _ x hx q1 q2
    have hT:=(hL.1 s ⟨by omega,by omega⟩).want (s:=(s:Int)) (by omega) (by omega)
    rw[hv,eT,eM]at hT
    rw[hre,zS_]
    refine⟨fun y hy=>?_,fun m hm=>(zzw_.1 hm).elim (hL.2 m) (hT.2 m)⟩
    show TL (tAt ((D e).1.set (s:Int).toNat _) y) x
    rw[yD_ (by omega) (by omega) hy.1]
    split
    .exact hT.1
    .exact hL.1 y hy
   .rw[hre,hej,updR_ne hjs];exact hown
   .rw[hre,zS_,hrt]
    show _=tAt ((D e).1.set (s:Int).toNat _) s
    rw[yD_ (by omega) (by omega) (by omega),if_pos rfl]
   .rw[hcn,if_neg (fun z=>q (by rw[hre];exact z.2.1))];rfl
   .rw[hcn,hre,zS_]
    have h1:=hdue x
    have h2:=h.due e x
    show _<=List.count x ((D e).2.1++[⟨j,false,s⟩])
    rw[List.count_append]
    by_cases q:x=⟨j,false,s⟩
    .rw[if_pos ⟨rfl,rfl,q⟩,q]
     rw[q]at h1 h2
     simp
     omega
    .rw[if_neg (fun z=>q z.2.2)]
     omega
   .rw[hra]at k;cases k
   .unfold Rs.holds at k;rw[hrh]at k;simp at k
   .rw[hre,zS_,hdue,hcn]
    show List.count x ((D e).2.1++[⟨j,false,s⟩])+_+_+_<=_
    rw[List.count_append]
    by_cases q:x=⟨j,false,s⟩
    .rw[if_pos ⟨rfl,rfl,q⟩,q]
     simp
     omega
    ·have:[(⟨j,false,s⟩:Ms)].count x=0:=by
      rw[List.count_eq_zero]
      simpa using q
     rw[if_neg (fun z=>q z.2.2),this]
     omega
end
end Go.Proofs.Ytnbppaolinopeaa.RG
namespace Go.Proofs.Ytnbppaolinopeaa.RG
theorem wd_{n:Nat}{f:Nat->Nat}(h:∀i,i<n->f i=0):sumN n f=0:=by
 induction n with
 |zero=>rfl
 |succ n ih=>rw[we_,ih fun i hi=>h i (by omega),h n (by omega)]
section
variable{n:Nat}{R:Nat->Rs}{M:Nat->Nat->List Rm}{D:Id}
theorem m4_{j:Nat}{m:Rm}{e:Nat}{x:Ms}(h:toMs j m=some (e,x)):m.e=e/\x.to=j/\(m.k=.tok\/m.k=.req):=by
 unfold toMs at h
 split at h
 .next q=>injection h with h;injection h with h1 h2;subst h2;exact⟨h1,rfl,.inl q⟩
 .next q=>injection h with h;injection h with h1 h2;subst h2;exact⟨h1,rfl,.inr q⟩
 .cases h
theorem RInv.none_of(h:RInv n R M D){e:Nat}(he:(R (e%n)).ep<e)(x:Ms):cnt n M e x=0:=by
 refine wd_ fun i hi=>wd_ fun j hj=>?_
 rw[List.countP_eq_zero]
 intro m hm hk
 simp only[zzp_]at hk
 have:=h.ownm i j hi hj m hm
 rw[(m4_ hk).1]at this
 omega
theorem vx_(r:Rs):(RG.made r).1.ep=r.ep/\(RG.made r).1.ask=false/\(RG.made r).1.lost=r.lost/\(RG.made r).1.prom=[]:=by
 unfold RG.made
 split
 .exact⟨rfl,rfl,rfl,rfl⟩
 .split<;>exact⟨rfl,rfl,rfl,rfl⟩
theorem RInv.begin(h:RInv n R M D){s:Nat}(hs:s<n):∃D',RInv n (updR R s (beginR n s (R s)).1) (put M s (beginR n s (R s)).2) D'/\∀x,(D' (nextE n s (R s).ep)).2.1.count x<=cnt n (put M s (beginR n s (R s)).2) (nextE n s (R s).ep) x+RG.due n (updR R s (beginR n s (R s)).1) (nextE n s (R s).ep) x:=by
 have hn:=h.n1
 have hx:=nextE_lt (n:=n) (i:=s) (e:=(R s).ep) hn
 have hm:=nextE_mod (e:=(R s).ep) hs
 unfold beginR
 generalize nextE n s (R s).ep=e at hx hm ⊢
 have hlt:(R (e%n)).ep<e:=by rw[hm];omega
 have hf:D e=(idTs n e,idM n e,idG n e):=h.fresh e hlt
 have e0:e≠0:=by omega
 have hz:∀x,cnt n M e x=0:=h.none_of hlt
 have hv:tAt (D e).1 s=⟨false,true,false,-1,-1⟩:=by
  rw[hf]
  show tAt (idTs n e) s=_
  rw[xH_ ⟨by omega,by omega⟩]
  unfold idT
  rw[if_pos (by rw[hm]),if_neg e0]
 have hml:(D e).2.1=[⟨s,true,0⟩]:=by
  rw[hf]
  show idM n e=_
  unfold idM
  rw[if_neg e0,hm]
 simp only
 by_cases n1:n=1
 .rw[if_pos n1]
  obtain⟨l,ml',G',V',e1,e2,e3,e4,e5,_,_⟩:=h.ideal_made hs (e:=e) (r:=promised (R s) e) (by rw[hml];simp) (by rw[hv];rfl) rfl (Vis.none _ _ _ _)
  have hl:l=[]:=by
   cases l with
   |nil=>rfl
   | cons m l =>
     exfalso
     have:=e4 m (by simp)
     have:=this.1.1
     have:=this
     have h2:=e4 m (by simp)
     obtain⟨⟨q1,q2⟩,q3,_⟩:=h2
     omega
  subst hl
  have ne:=vx_ (promised (R s) e)
  rw[e1]
  show ∃D',RInv n (updR R s (RG.made (promised (R s) e)).1) M D'/\∀x,(D' e).2.1.count x<=cnt n M e x+RG.due n (updR R s (RG.made (promised (R s) e)).1) e x
  rw[List.append_nil]at e2
  have hre:(RG.made (promised (R s) e)).1.ep=e:=ne.1
  refine⟨updD D e ((D e).1.set s (RG.made (promised (R s) e)).1.tk,ml',G'),h.upd hs (by rw[hre];omega) ?_ (fun e' q=>tW_ (by omega)) (fun x hx hne=>by omega) (fun x hx hne=>by omega) ?_ (.inl ⟨ne.2.2.1,ne.2.1,?_,ne.2.2.2⟩) (fun a b _ _ m hm=>.inl hm) (fun e' _ x=>zzl_ _) (fun x=>?_) (fun k=>?_) (fun k x hx=>?_),fun x=>?_⟩
  .rw[hre,zS_];exact e2
  .rw[hre,hm,updR_s,hre];exact zzl_ _
  .rw[hre,zS_]
   have hlen:=(h.inv e).len
   show _=tAt ((D e).1.set (s:Int).toNat _) s
   rw[yD_ (by omega) (by omega) (by omega),if_pos rfl]
  .rw[hre,hz,zS_]
   have:RG.due n (updR R s (RG.made (promised (R s) e)).1) e x=0:=by
    unfold RG.due
    rw[hm,updR_s,if_neg]
    rintro⟨z,_⟩
    rw[ne.2.1]at z;cases z
   omega
  .rw[ne.2.1]at k;cases k
  .have hxs:x=s:=by omega
   rw[hxs,updR_s]
   exact zzl_ _
  .rw[zS_]
   show ml'.count x<=_
   have h3:=e3 x
   rw[hml]at h3
   by_cases q:x=⟨s,true,0⟩
   .rw[if_pos q,q]at h3
    rw[q]
    simp at h3
    omega
   ·have:[(⟨s,true,0⟩:Ms)].count x=0:=by
     rw[List.count_eq_zero]
     simpa using q
    omega
 .rw[if_neg n1]
  have hpl:((List.replicate n false).set s true).length=n:=by simp
  have ho:∀p∈((List.range n).filter fun x=>decide (x≠s)).map (fun (x:Nat)=>((x:Int),(⟨.prm,e,0⟩:Rm))),Rng n p.1/\p.1≠s/\p.2=⟨.prm,e,0⟩:=fun p hp=>by
   obtain⟨k,hk,rfl⟩:=List.mem_map.1 hp
   obtain⟨hk1,hk2⟩:=List.mem_filter.1 hk
   have:=List.mem_range.1 hk1
   simp only[zzp_]at hk2
   exact⟨⟨by simp,by simp only;omega⟩,by simp only;omega,rfl⟩
  have hcn:∀e' x,cnt n (put M s (((List.range n).filter fun x=>decide (x≠s)).map (fun (x:Nat)=>((x:Int),(⟨.prm,e,0⟩:Rm))))) e' x=cnt n M e' x:=fun e' x=>by
   rw[uG_ hs fun p hp=>(ho p hp).1]
   have:∀l:Out,(∀p∈l,p.2=⟨.prm,e,0⟩)->l.countP (fun p=>decide (toMs p.1.toNat p.2=some (e',x)))=0:=fun l hl=>by
    rw[List.countP_eq_zero]
    intro p hp
    rw[hl p hp]
    simp[toMs]
   rw[this _ fun p hp=>(ho p hp).2.2]
   rfl
  refine⟨D,h.upd (r:=⟨e,false,true,(List.replicate n false).set s true,(promised (R s) e).tk⟩) hs (by show (R s).ep<=e;omega) (h.inv _) (fun e _=>rfl) (fun x _ _=>rfl) (fun x hx _ q1 q2=>h.leaf _ x hx q1 q2) ?_ (.inr (.inr ⟨rfl,rfl,hm,hpl,?_,?_,?_,?_⟩)) (fun a b _ _ m hm'=>?_) (fun e' _ x=>?_) (fun x=>?_) (fun _ x hx hk=>?_) (fun k=>?_),fun x=>?_⟩
  .show e<=(updR R s _ (e%n)).ep
   rw[hm,updR_s];exact zzl_ _
  .show ((List.replicate n false).set s true)[s]?=some true
   rw[List.getElem?_set_self (by simp;exact hs)]
  .show ((List.replicate n false).set s true).all id=false
   rw[List.all_eq_false]
   have hk:∃k,k<n/\k≠s:=by
    by_cases q:s=0
    .exact⟨1,by omega,by omega⟩
    .exact⟨0,by omega,by omega⟩
   obtain⟨k,k1,k2⟩:=hk
   refine⟨false,List.mem_iff_getElem?.2 ⟨k,?_⟩,by simp⟩
   rw[List.getElem?_set_ne (fun z=>k2 z.symm),List.getElem?_replicate,if_pos k1]
  .show (tAt (D e).1 s).want=true
   rw[hv]
  .show (promised (R s) e).tk={ tAt (D e).1 s with want:=(promised (R s) e).tk.want }
   rw[hv];rfl
  .rcases vk_ hm' with g|⟨g1,g2⟩
   .exact .inl g
   .have:=ho _ g2
    refine .inr ⟨g1,fun z=>this.2.1 (by simp only;omega),?_⟩
    have hm2:m=⟨.prm,e,0⟩:=this.2.2
    subst hm2
    exact⟨rfl,(fun _=>hm),(fun z=>by cases z)⟩
  .exact Nat.le_of_eq (hcn e' x)
  .show cnt n (put M s _) e x+RG.due n _ e x<=(D e).2.1.count x
   have h1:=hcn e x
   rw[hz]at h1
   have h2:∀r,RG.due n (updR R s r) e x<=(D e).2.1.count x:=fun r=>by
    unfold RG.due
    rw[hml,hm]
    split
    .next q=>rw[q.2.2];simp
    .exact zzn_ _
   have:=h2 ⟨e,false,true,(List.replicate n false).set s true,(promised (R s) e).tk⟩
   show cnt n (put M s (((List.range n).filter fun x=>decide (x≠s)).map (fun (x:Nat)=>((x:Int),(⟨.prm,e,0⟩:Rm))))) e x+_<=_
   rw[h1]
   omega
  .have hk:((List.replicate n false).set s true)[x]?=some true:=hk
   by_cases q:x=s
   .rw[q,updR_s];exact zzl_ _
   .rw[List.getElem?_set_ne (fun z=>q z.symm),List.getElem?_replicate]at hk
    split at hk<;>cases hk
  .unfold Rs.holds at k;simp at k
  ·have h2:∀r:Rs,r.ask=true→r.ep=e→[(⟨s,true,0⟩:Ms)].count x≤RG.due n (updR R s r) e x:=fun r hr1 hr2=>by
    unfold RG.due
    rw[hm,updR_s]
    by_cases q:x=⟨s,true,0⟩
    .rw[if_pos ⟨hr1,hr2,q⟩,q];simp
    ·have:[(⟨s,true,0⟩:Ms)].count x=0:=by
      rw[List.count_eq_zero]
      simpa using q
     omega
   have:=h2 ⟨e,false,true,(List.replicate n false).set s true,(promised (R s) e).tk⟩ rfl rfl
   rw[hml]
   exact yyd_ this (Nat.le_add_left _ _)
theorem RInv.restart(h:RInv n R M D){s:Nat}(hs:s<n):RInv n (updR R s (restartR (R s))) M D:=by
 have hup:∀x,(updR R s (restartR (R s)) x).ep=(R x).ep:=fun x=>by
  by_cases q:x=s
  .subst q;rw[updR_s];rfl
  .rw[updR_ne q]
 refine h.upd hs (zzl_ _) (h.inv _) (fun e _=>rfl) (fun x _ _=>rfl) (fun x hx _ q1 q2=>h.leaf _ x hx q1 q2) ?_ (.inr (.inl ⟨rfl,rfl,rfl,rfl⟩)) (fun a b _ _ m hm=>.inl hm) (fun e' _ x=>zzl_ _) (fun x=>?_) (fun k=>by cases k) (fun k=>?_)
 .rw[hup];exact h.owns s hs
 .exact yyd_ (Nat.add_le_add_left (xN_ fun z=>by cases z) _) (h.due (R s).ep x)
 .unfold Rs.holds restartR at k;simp at k
theorem RInv.sp(h:RInv n R M D){i j:Nat}{m:Rm}{l:List Rm}(hi:i<n)(hj:j<n)(hM:M i j=m::l)(e:Nat)(y:Ms) :
 cnt n (RG.pop M i j) e y+RG.due n R e y+(if toMs j m=some (e,y) then 1 else 0)<=(D e).2.1.count y:=by
 have h1:=sm_ (e:=e) (x:=y) hi hj hM
 have h2:=h.due e y
 omega
theorem pr_{i j:Nat}{m:Rm}(hi:i<n)(hj:j<n)(hm:m∈M i j){e:Nat}{x:Ms}(hx:toMs j m=some (e,x)):1<=cnt n M e x:=by
 unfold cnt
 have h1:1<=(M i j).countP (fun m=>decide (toMs j m=some (e,x))):=List.countP_pos_iff.2 ⟨m,hm,by simpa using hx⟩
 have key:∀(n:Nat) (f:Nat->Nat) (k:Nat),k<n->f k<=sumN n f:=by
  intro n f k hk
  induction n with
  |zero=>omega
  | succ n ih =>
    rw[we_]
    by_cases q:k=n
    .subst q;omega
    .have:=ih (by omega);omega
 have h2:=key n (fun j=>(M i j).countP fun m=>decide (toMs j m=some (e,x))) j hj
 have h3:=key n (fun i=>sumN n fun j=>(M i j).countP fun m=>decide (toMs j m=some (e,x))) i hi
 omega
theorem RInv.req_ok(h:RInv n R M D){i j:Nat}(hi:i<n)(hj:j<n){m:Rm}(hm:m∈M i j)(hk:m.k=.req):Othr n j m.s:=by
 have e:toMs j m=some (m.e,⟨j,false,m.s⟩):=by unfold toMs;rw[hk]
 have h1:=pr_ hi hj hm e
 have h2:=h.due m.e ⟨j,false,m.s⟩
 exact(h.ideal (s:=j) (x:=⟨j,false,m.s⟩) rfl (e:=m.e) (by omega) (Vis.none _ _ _ _)).2.1 rfl
theorem RInv.tok_ok(h:RInv n R M D){i j:Nat}(hi:i<n)(hj:j<n){m:Rm}(hm:m∈M i j)(hk:m.k=.tok)(he:m.e=(R j).ep):(R j).ask=false/\((R j).lost=false->(R j).tk.want=true):=by
 have e:toMs j m=some (m.e,⟨j,true,0⟩):=by unfold toMs;rw[hk]
 have h1:=pr_ hi hj hm e
 have h2:=h.due m.e ⟨j,true,0⟩
 have hI:=h.inv m.e
 have ha:(R j).ask=false:=by
  cases q:(R j).ask
  .rfl
  .exfalso
   have a1:=(h.asks j hj q).1
   have h3:RG.due n R m.e ⟨j,true,0⟩=1:=by
    unfold RG.due
    rw[he,a1,if_pos ⟨q,rfl,rfl⟩]
   have h4:(D m.e).2.1.count ⟨j,true,0⟩<=(D m.e).2.1.countP (·.tok):=by
    unfold List.count
    exact List.countP_mono_left fun x _ hx=>by
     have:x=⟨j,true,0⟩:=by simpa using hx
     rw[this]
   have:=hI.one
   omega
 refine⟨ha,fun hl=>?_⟩
 rw[h.same j hj hl ha,<-he]
 exact(h.ideal (s:=j) (x:=⟨j,true,0⟩) rfl (e:=m.e) (by omega) (Vis.none _ _ _ _)).1 rfl
theorem kpop{M1:Nat->Nat->List Rm}{m:Rm}{j:Nat}(hcp:∀e x,cnt n M1 e x+(if toMs j m=some (e,x) then 1 else 0)=cnt n M e x){ep:Nat}{x:Ms}(hx:toMs j m=some (ep,x))(e:Nat)(y:Ms):cnt n M e y=cnt n M1 e y+(if e=ep/\y=x then 1 else 0):=by
 have:=hcp e y
 rw[hx]at this
 by_cases q:e=ep/\y=x
 .rw[if_pos (by rw[q.1,q.2])]at this;rw[if_pos q];omega
 .rw[if_neg (fun z=>q (by injection z with z;injection z with z1 z2;exact⟨z1.symm,z2.symm⟩))]at this;rw[if_neg q];omega
theorem Slk.pop{K:Nat->Ms->Nat}{M1 M':Nat->Nat->List Rm}{R':Nat->Rs}{D':Id}(h:Slk n K R M1 D R' M' D')(hc:∀e x,cnt n M e x=cnt n M1 e x+K e x):Slk n (fun _ _=>0) R M D R' M' D':=fun e he x=>by
 have h1:=h e he x
 have h2:=hc e x
 show _+_+_+0<=_
 omega
theorem vp_(e:Nat)(l:List Ms):(posts e l).length=l.length:=by unfold posts;rw[List.length_map]
theorem xI_(t:Tk)(m:Ms):(hearM t m).length<=1:=by
 unfold hearM
 split
 .simp
 .split
  .simp
  .split<;>simp
theorem v3_(r:Rs)(m:Ms):(passR r m).1.ep=r.ep/\(passR r m).2.length<=1:=⟨rfl,by unfold passR;simp only;rw[vp_];exact xI_ _ _⟩
theorem sK_(r:Rs)(m:Ms):(passA r m).1.ep=r.ep/\(passA r m).2.length<=1:=⟨rfl,by unfold passA;simp only;rw[vp_];exact xI_ _ _⟩
theorem qw_(r:Rs)(j:Nat):(prdR r j).1.ep=r.ep:=by
 unfold prdR
 simp only
 split
 .exact(vx_ _).1
 .rfl
theorem RInv.hear(h:RInv n R M D){i j:Nat}{m:Rm}{l:List Rm}(hi:i<n)(hj:j<n)(hM:M i j=m::l){r:Rs}{o:Out}(he:hearR (R j) j i m=some (r,o)){V:List Bool}(hV:Vis n (D (R j).ep).1 (D (R j).ep).2.1 (D (R j).ep).2.2 V) :
 ∃D',RInv n (updR R j r) (put (RG.pop M i j) j o) D'/\Slk n (fun _ _=>0) R M D (updR R j r) (put (RG.pop M i j) j o) D'/\(m.k≠.prm->r.ep=(R j).ep/\∃V',Vis n (D' (R j).ep).1 (D' (R j).ep).2.1 (D' (R j).ep).2.2 V'/\2*mu (D' (R j).ep).1 V'+o.length<=2*mu (D (R j).ep).1 V):=by
 obtain⟨h1,_⟩:=h.pop hi hj hM
 have sp:=h.sp hi hj hM
 have hcp:=fun e x=>sm_ (e:=e) (x:=x) hi hj hM
 have hmm:m∈M i j:=by rw[hM];simp
 have hne:=h.other i j hi hj (by rw[hM];simp)
 obtain⟨k,e,o'⟩:=m
 unfold hearR at he
 cases k with
 | prm =>
   simp only at he
   split at he
   .cases he
   .next q =>
    injection he with he
    have hp:=h.prm i j hi hj _ hmm rfl
    have:=h1.promise (e:=e) hj hi hne (by omega) hp.1 (by have:=h.ownm i j hi hj _ hmm;simp only at this hp;rw[hp.1]at this;exact this)
    rw[he]at this
    obtain⟨D',q1,q2⟩:=this
    exact⟨D',q1,(q2.pop fun e x=>(hcp e x).symm),fun z=>absurd rfl z⟩
 | prd =>
   simp only at he
   split at he
   .cases he
   .next q =>
    injection he with he
    have hp:=h.prd i j hi hj _ hmm rfl
    have hk:e=(R j).ep:=by
     apply Classical.byContradiction;intro z;exact q (.inl z)
    have ha:(R j).ask=true:=by
     cases z:(R j).ask
     .exact absurd (.inr z) q
     .rfl
    have hre:=qw_ (R j) i
    have:=h1.prd' (j:=i) hj ha (by have:=hp.1;simp only at this;omega) hV
    rw[he]at this hre
    obtain⟨D',q1,q2,V',q3,q4⟩:=this
    exact⟨D',q1,(q2.pop fun e x=>(hcp e x).symm),fun _=>⟨hre,V',q3,q4⟩⟩
 | tok =>
   simp only at he
   split at he
   .cases he
   .next q =>
    injection he with he
    have hk:e=(R j).ep:=by
     apply Classical.byContradiction;intro z;exact q (.inl z)
    have hok:=h.tok_ok hi hj hmm rfl hk
    have hl:(R j).lost=false:=by
     cases z:(R j).lost
     .rfl
     .exact absurd (.inr (.inr (.inl z))) q
    subst hk
    have:=h1.tok hj hl hok.1 (fun y=>by
     have:=sp (R j).ep y
     by_cases z:y=⟨j,true,0⟩
     .rw[if_pos (by rw[z];rfl)]at this;rw[if_pos z];exact this
     .rw[if_neg z];omega) (h.madm i j hi hj _ hmm rfl) hV
    have hre:=v3_ (R j) ⟨j,true,0⟩
    rw[he]at this hre
    obtain⟨D',q1,q2,V',q3,q4⟩:=this
    exact⟨D',q1,(q2.pop (kpop hcp (x:=⟨j,true,0⟩) rfl)),fun _=>⟨hre.1,V',q3,by have:=hre.2;simp only at this;omega⟩⟩
 | req =>
   simp only at he
   split at he
   .cases he
   .next q =>
    have hk:e=(R j).ep:=by
     apply Classical.byContradiction;intro z;exact q (.inl z)
    have hl:(R j).lost=false:=by
     cases z:(R j).lost
     .rfl
     .exact absurd (.inr z) q
    subst hk
    have sp':∀y,cnt n (RG.pop M i j) (R j).ep y+RG.due n R (R j).ep y+(if y=⟨j,false,o'⟩ then 1 else 0)<=(D (R j).ep).2.1.count y:=fun y=>by
     have:=sp (R j).ep y
     by_cases z:y=⟨j,false,o'⟩
     .rw[if_pos (by rw[z];rfl)]at this;rw[if_pos z];exact this
     .rw[if_neg z];omega
    cases ha:(R j).ask with
    | true =>
      rw[ha,if_pos rfl]at he
      injection he with he
      have:=h1.reqA hj hl ha sp' hV
      have hre:=sK_ (R j) ⟨j,false,o'⟩
      rw[he]at this hre
      obtain⟨D',q1,q2,V',q3,q4⟩:=this
      exact⟨D',q1,(q2.pop (kpop hcp (x:=⟨j,false,o'⟩) rfl)),fun _=>⟨hre.1,V',q3,by have:=hre.2;simp only at this;omega⟩⟩
    | false =>
      rw[ha,if_neg (by simp)]at he
      injection he with he
      have:=h1.req hj hl ha sp' hV
      have hre:=v3_ (R j) ⟨j,false,o'⟩
      rw[he]at this hre
      obtain⟨D',q1,q2,V',q3,q4⟩:=this
      exact⟨D',q1,(q2.pop (kpop hcp (x:=⟨j,false,o'⟩) rfl)),fun _=>⟨hre.1,V',q3,by have:=hre.2;simp only at this;omega⟩⟩
theorem RInv.start(h1:1<=n)(h4:n<=4):RInv n (fun s=>⟨0,false,false,[],idT n 0 s⟩) (fun _ _=>[]) (fun e=>(idTs n e,idM n e,idG n e)) where
 n1:=h1
 n4:=h4
 inv:=fun e=>ln_ h1 h4
 fresh:=fun e _=>rfl
 join:=fun e s hs _ _=>xH_ ⟨by omega,by omega⟩
 leaf:=fun e x hx _ hb=>by
  refine⟨fun y hy=>?_,fun m hm=>?_⟩
  .show TL (tAt (idTs n e) y) x
   rw[xH_ hy]
   unfold idT TL
   split
   .split<;>exact⟨fun q=>by (have q:(-1:Int)=x:=q);omega,fun q=>by (have q:(-1:Int)=x:=q);omega⟩
   .exact⟨fun q=>by (have q:((e%n:Nat):Int)=x:=q);omega,fun q=>by (have q:(-1:Int)=x:=q);omega⟩
  .have hm:m∈idM n e:=hm
   unfold idM at hm
   split at hm
   .cases hm
   .rw[List.mem_singleton]at hm
    subst hm
    exact⟨fun q=>by (have q:((e%n:Nat):Int)=x:=q);omega,fun z=>by cases z⟩
 owns:=fun s hs=>zzl_ _
 ownm:=fun i j _ _ m hm=>by cases hm
 same:=fun s hs _ _=>(xH_ ⟨by omega,by omega⟩).symm
 gone:=fun s hs q=>by cases q
 asks:=fun s hs q=>by cases q
 noprom:=fun s hs _=>rfl
 msgs:=fun e x=>by
  have:cnt n (fun _ _=>[]) e x=0:=wd_ fun i hi=>wd_ fun j hj=>rfl
  rw[this,if_neg (fun z=>by cases z.1)]
  omega
 prm:=fun i j _ _ m hm=>by cases hm
 prd:=fun i j _ _ m hm=>by cases hm
 did:=fun b hb q=>by cases q
 made:=fun s hs _ x hx=>zzl_ _
 madm:=fun i j _ _ m hm=>by cases hm
 other:=fun i j _ _ q=>absurd rfl q
end
end Go.Proofs.Ytnbppaolinopeaa.RG
namespace Go.Proofs.Ytnbppaolinopeaa.RG
structure Rs.ok(r:Rs)(n i:Nat):Prop where
 n1:1<=n
 n4:n<=4
 ri:i<n
 e:r.ep<=1073741824
 k : (r.lost = true ∧ r.ask = false ∧ r.prom = [] ∧ r.tk = ⟨false, false, false, -1, -1⟩) ∨ (r.lost = false ∧ r.ask = false ∧ r.prom = [] ∧ r.tk.ok n i) ∨
     (r.lost=false/\r.ask=true/\r.prom.length=n/\r.prom[i]?=some true/\r.prom.all id=false/\({ r.tk with want:=true }:Tk).ok n i)
section
variable{n:Nat}{R:Nat->Rs}{M:Nat->Nat->List Rm}{D:Id}
theorem RInv.ok(h:RInv n R M D){s:Nat}(hs:s<n)(he:(R s).ep<=1073741824):(R s).ok n s:=by
 refine⟨h.n1,h.n4,hs,he,?_⟩
 cases hl:(R s).lost with
 | true =>
   obtain⟨h1,h2⟩:=h.gone s hs hl
   exact .inl ⟨rfl,h1,h.noprom s hs h1,h2⟩
 | false =>
   cases ha:(R s).ask with
   |false=>exact .inr (.inl ⟨rfl,rfl,h.noprom s hs ha,(h.plain hs hl ha).2⟩)
   | true =>
     obtain⟨a1,a2,a3,a4,a5,a6⟩:=h.asks s hs ha
     refine .inr (.inr ⟨rfl,rfl,a2,a3,a4,?_⟩)
     have:=(h.inv (R s).ep).val s ⟨by omega,by omega⟩
     have e:({ (R s).tk with want:=true }:Tk)=tAt (D (R s).ep).1 s:=by rw[a6,<-a5]
     rw[e]
     exact this
def Pend(n:Nat)(R:Nat->Rs)(M:Nat->Nat->List Rm):Prop:=∀b s,b<n->s<n->b≠s->(R b).ep%n=b->(R s).ep<(R b).ep->∃m∈M b s,m.k=.prm/\m.e=(R b).ep
theorem pU_{i a b:Nat}{o:Int×Rm}{m:Rm}(h:m∈M a b):m∈put1 M i o a b:=by
 unfold put1
 split
 .exact zzw_.2 (.inl h)
 .exact h
theorem vj_{i a b:Nat}{m:Rm}:∀ {o:Out} {M:Nat->Nat->List Rm},m∈M a b->m∈put M i o a b
 |[],_,h=>h
 | x :: r, M, h => by
   show m∈put (put1 M i x) i r a b
   exact vj_ (pU_ h)
theorem oN_{i b:Nat}{m:Rm}:∀ {o:Out} {M:Nat->Nat->List Rm},((b:Int),m)∈o->m∈put M i o i b
 | x :: r, M, h => by
   rcases List.mem_cons.1 h with h|h
   .show m∈put (put1 M i x) i r i b
    refine vj_ ?_
    unfold put1
    rw[<-h,if_pos ⟨rfl,rfl⟩]
    simp
   .show m∈put (put1 M i x) i r i b
    exact oN_ (o:=r) h
theorem Pend.site(h:Pend n R M){s:Nat}{r:Rs}{o:Out}(he:r.ep=(R s).ep):Pend n (updR R s r) (put M s o):=by
 have hup:∀x,(updR R s r x).ep=(R x).ep:=fun x=>by
  by_cases q:x=s
  .subst q;rw[updR_s,he]
  .rw[updR_ne q]
 intro b x hb hx hbx h1 h2
 rw[hup]at h1 h2
 rw[hup]at h2
 obtain⟨m,hm,k1,k2⟩:=h b x hb hx hbx h1 h2
 exact⟨m,vj_ hm,k1,by rw[hup];exact k2⟩
theorem vG_(n i:Nat)(r:Rs):(beginR n i r).1.ep=nextE n i r.ep:=by
 unfold beginR
 simp only
 split
 .exact(vx_ _).1
 .rfl
theorem Pend.begin(h:Pend n R M)(hn:0<n){s:Nat}(hs:s<n):Pend n (updR R s (beginR n s (R s)).1) (put M s (beginR n s (R s)).2):=by
 have hx:=nextE_lt (n:=n) (i:=s) (e:=(R s).ep) hn
 intro b x hb hxn hbx h1 h2
 by_cases q:b=s
 .subst q
  rw[updR_s,vG_]at h1 h2 ⊢
  refine⟨⟨.prm,nextE n b (R b).ep,0⟩,?_,rfl,rfl⟩
  refine oN_ ?_
  unfold beginR
  simp only
  rw[if_neg (by omega)]
  exact List.mem_map.2 ⟨x,List.mem_filter.2 ⟨List.mem_range.2 hxn,by simpa using fun z=>hbx z.symm⟩,rfl⟩
 .rw[updR_ne q]at h1 h2 ⊢
  have h3:(R x).ep<(R b).ep:=by
   by_cases k:x=s
   .subst k;rw[updR_s,vG_]at h2;omega
   .rw[updR_ne k]at h2;exact h2
  obtain⟨m,hm,k1,k2⟩:=h b x hb hxn hbx h1 h3
  exact⟨m,vj_ hm,k1,k2⟩
theorem qy_{i j a b:Nat}{m m':Rm}{l:List Rm}(hM:M i j=m::l)(h:m'∈M a b)(hne:¬(a=i/\b=j/\m'=m)):m'∈pop M i j a b:=by
 unfold pop
 split
 .next q =>
  obtain⟨rfl,rfl⟩:=q
  rw[hM]at h ⊢
  rcases List.mem_cons.1 h with h|h
  .exact absurd ⟨rfl,rfl,h⟩ hne
  .exact h
 .exact h
theorem sT_{r r':Rs}{i j:Nat}{m:Rm}{o:Out}(h:hearR r i j m=some (r',o)):(m.k=.prm->r.ep<m.e/\r'.ep=m.e)/\(m.k≠.prm->m.e=r.ep/\r'.ep=r.ep):=by
 unfold hearR at h
 obtain⟨k,e,s⟩:=m
 cases k with
 | prm =>
   refine⟨fun _=>?_,fun q=>absurd rfl q⟩
   simp only at h
   split at h
   .cases h
   .next q =>
    injection h with h
    refine⟨by show r.ep<e;omega,?_⟩
    have:(promR r i j e).1.ep=e:=by unfold promR promised;simp only;split<;>rfl
    rw[h]at this
    exact this
 | prd =>
   refine⟨(fun q=>by cases q),fun _=>?_⟩
   simp only at h
   split at h
   .cases h
   .next q =>
    injection h with h
    refine⟨by apply Classical.byContradiction;intro z;exact q (.inl z),?_⟩
    have:=qw_ r j
    rw[h]at this
    exact this
 | tok =>
   refine⟨(fun q=>by cases q),fun _=>?_⟩
   simp only at h
   split at h
   .cases h
   .next q =>
    injection h with h
    refine⟨by apply Classical.byContradiction;intro z;exact q (.inl z),?_⟩
    have:=(v3_ r ⟨i,true,0⟩).1
    rw[h]at this
    exact this
 | req =>
   refine⟨(fun q=>by cases q),fun _=>?_⟩
   simp only at h
   split at h
   .cases h
   .next q =>
    refine⟨by apply Classical.byContradiction;intro z;exact q (.inl z),?_⟩
    split at h
    .injection h with h
     have:=(sK_ r ⟨i,false,s⟩).1
     rw[h]at this
     exact this
    .injection h with h
     have:=(v3_ r ⟨i,false,s⟩).1
     rw[h]at this
     exact this
theorem Pend.drop(h:Pend n R M){i j:Nat}{m:Rm}{l:List Rm}(hM:M i j=m::l)(hd:m.k=.prm->m.e<=(R j).ep):Pend n R (pop M i j):=by
 intro b x hb hx hbx h1 h2
 obtain⟨m',hm,k1,k2⟩:=h b x hb hx hbx h1 h2
 refine⟨m',qy_ hM hm ?_,k1,k2⟩
 rintro⟨rfl,rfl,rfl⟩
 have:=hd k1
 omega
theorem Pend.hear(h:Pend n R M)(hI:RInv n R M D){i j:Nat}(hi:i<n)(hj:j<n){m:Rm}{l:List Rm}(hM:M i j=m::l){r:Rs}{o:Out}(he:hearR (R j) j i m=some (r,o)):Pend n (updR R j r) (put (pop M i j) j o):=by
 obtain⟨e1,e2⟩:=sT_ he
 by_cases hk:m.k=.prm
 .obtain⟨f1,f2⟩:=e1 hk
  have hp:=hI.prm i j hi hj m (by rw[hM];simp) hk
  intro b x hb hx hbx h1 h2
  by_cases q:b=j
  .subst q
   rw[updR_s,f2,hp.1]at h1
   exact absurd h1 hp.2
  .rw[updR_ne q]at h1 h2 ⊢
   have h3:(R x).ep<(R b).ep:=by
    by_cases k:x=j
    .subst k;rw[updR_s]at h2;omega
    .rw[updR_ne k]at h2;exact h2
   obtain⟨m',hm,k1,k2⟩:=h b x hb hx hbx h1 h3
   refine⟨m',vj_ (qy_ hM hm ?_),k1,k2⟩
   rintro⟨rfl,rfl,rfl⟩
   rw[updR_s]at h2
   omega
 .exact(h.drop hM fun q=>absurd q hk).site (e2 hk).2
end
end Go.Proofs.Ytnbppaolinopeaa.RG
namespace Go.Proofs.Ytnbppaolinopeaa
open Go.RowKit Go.Proofs
section
def wE_(n:Nat):V->Bool
 |.view (.cell b _) _=>decide (b<n)
 |x=>zM_ n x
def wkv(keep drop:List Nat)(nb:Nat)(S:St):St:=⟨tmL (keep.map fun t=>(t,S.tm t)),yS_ drop S.vs,S.bx.take nb,S.ep⟩
def n6_(keep drop:List Nat)(nb:Nat)(S:St):Bool:=keep.all (fun t=>wE_ nb (S.tm t))&&(yS_ drop S.vs).all (yX_ nb)&&(S.bx.take nb).all (·.all (yf_ nb))&&decide (nb<=S.bx.length)
section
variable{P:Program}{F:Fr}
end
def lqv(keep drop:List Nat)(nb:Nat)(Inv:Nat->St->Prop)(m:Nat)(Q:AX->St->Prop):AX->St->Prop:=fun e S=>match e with
 |.normal=>n6_ keep drop nb S=true/\∃m',m'<m/\Inv m' (wkv keep drop nb S)
 |e=>Q e S
@[simp] theorem lqv_normal (keep drop:List Nat) (nb:Nat) (Inv:Nat->St->Prop) (m:Nat) (Q:AX->St->Prop) (S:St):lqv keep drop nb Inv m Q .normal S=(n6_ keep drop nb S=true/\∃m',m'<m/\Inv m' (wkv keep drop nb S)):=rfl
@[simp] theorem lqv_exit (keep drop:List Nat) (nb:Nat) (Inv:Nat->St->Prop) (m:Nat) (Q:AX->St->Prop) (S:St) (id:Nat):lqv keep drop nb Inv m Q (.exit id) S=Q (.exit id) S:=rfl
@[simp] theorem lqv_ret (keep drop:List Nat) (nb:Nat) (Inv:Nat->St->Prop) (m:Nat) (Q:AX->St->Prop) (S:St):lqv keep drop nb Inv m Q .ret S=Q .ret S:=rfl
@[simp] theorem lqv_goto (keep drop:List Nat) (nb:Nat) (Inv:Nat->St->Prop) (m:Nat) (Q:AX->St->Prop) (S:St) (l:Nat):lqv keep drop nb Inv m Q (.goto l) S=Q (.goto l) S:=rfl
@[simp] theorem simpleW_view (n b o e:Nat):wE_ n (.view (.cell b o) e)=decide (b<n):=rfl
@[simp] theorem simpleW_s (n:Nat) (v:Value):wE_ n (.s v)=true:=rfl
@[simp] theorem simpleW_list (n:Nat) (z:Nat) (xs:List V):wE_ n (.list z xs)=true:=rfl
@[simp] theorem simpleW_ptr (n:Nat) (b o:Nat):wE_ n (.ptr b o)=decide (b<n):=rfl
attribute [simp] wkv n6_
end
section
def wD_(drop:List Nat)(n:Nat):V->Bool
 |.view (.var i) _=>!drop.contains i
 |x=>wE_ n x
def n5_(keep drop:List Nat)(nb:Nat)(S:St):Bool:=keep.all (fun t=>wD_ drop nb (S.tm t))&&(yS_ drop S.vs).all (yX_ nb)&&(S.bx.take nb).all (·.all (yf_ nb))&&decide (nb<=S.bx.length)
section
variable{P:Program}{F:Fr}
end
def lqx(keep drop:List Nat)(nb:Nat)(Inv:Nat->St->Prop)(m:Nat)(Q:AX->St->Prop):AX->St->Prop:=fun e S=>match e with
 |.normal=>n5_ keep drop nb S=true/\∃m',m'<m/\Inv m' (wkv keep drop nb S)
 |e=>Q e S
@[simp] theorem lqx_normal (keep drop:List Nat) (nb:Nat) (Inv:Nat->St->Prop) (m:Nat) (Q:AX->St->Prop) (S:St):lqx keep drop nb Inv m Q .normal S=(n5_ keep drop nb S=true/\∃m',m'<m/\Inv m' (wkv keep drop nb S)):=rfl
@[simp] theorem lqx_exit (keep drop:List Nat) (nb:Nat) (Inv:Nat->St->Prop) (m:Nat) (Q:AX->St->Prop) (S:St) (id:Nat):lqx keep drop nb Inv m Q (.exit id) S=Q (.exit id) S:=rfl
@[simp] theorem lqx_ret (keep drop:List Nat) (nb:Nat) (Inv:Nat->St->Prop) (m:Nat) (Q:AX->St->Prop) (S:St):lqx keep drop nb Inv m Q .ret S=Q .ret S:=rfl
@[simp] theorem lqx_goto (keep drop:List Nat) (nb:Nat) (Inv:Nat->St->Prop) (m:Nat) (Q:AX->St->Prop) (S:St) (l:Nat):lqx keep drop nb Inv m Q (.goto l) S=Q (.goto l) S:=rfl
@[simp] theorem simpleX_view (drop:List Nat) (n i e:Nat):wD_ drop n (.view (.var i) e)=!drop.contains i:=rfl
@[simp] theorem simpleX_viewc (drop:List Nat) (n b o e:Nat):wD_ drop n (.view (.cell b o) e)=decide (b<n):=rfl
@[simp] theorem simpleX_s (drop:List Nat) (n:Nat) (v:Value):wD_ drop n (.s v)=true:=rfl
@[simp] theorem simpleX_list (drop:List Nat) (n:Nat) (z:Nat) (xs:List V):wD_ drop n (.list z xs)=true:=rfl
@[simp] theorem simpleX_ptr (drop:List Nat) (n:Nat) (b o:Nat):wD_ drop n (.ptr b o)=decide (b<n):=rfl
attribute [simp] n5_
end
section
section
variable{P:Program}
structure PO(pm:List Nat)(n:Nat)(es:List (List Nat)):Prop where
 len:pm.length=n
 elen:es.length=n
 mem:∀i,i<n->i∈pm
 inv:∀i,i<n->pm.getD i 0<n/\pm.idxOf (pm.getD i 0)=i
 dep:∀(i e:Nat),e∈(es[i]?).getD []->e<n
theorem PO.pos{pm:List Nat}{n:Nat}{es:List (List Nat)}(h:PO pm n es){i:Nat}(hi:i<n):pm.idxOf i<n/\pm[pm.idxOf i]?=some i:=by
 have hm:=h.mem i hi
 have h1:=List.idxOf_lt_length_of_mem hm
 exact⟨by rw[<-h.len];exact h1,by rw[zzf_ h1,List.getElem_idxOf h1]⟩
theorem PO.inj{pm:List Nat}{n:Nat}{es:List (List Nat)}(h:PO pm n es){i j:Nat}(hi:i<n)(hj:j<n)(e:pm.idxOf i=pm.idxOf j):i=j:=by
 have h1:=(h.pos hi).2
 rw[e,(h.pos hj).2]at h1
 exact(Option.some.inj h1).symm
end
end
section
def noL:V->V
 |.lent _ _ _ _ _=>.no
 |x=>x
def lm_:V->V
 |.ptr b o=>.ptr b o
 |_=>.no
def fgt(S:St):St:=⟨fun t=>lm_ (S.tm t),S.vs.map noL,S.bx.map (·.map noL),S.ep⟩
section
variable{P:Program}{F:Fr}{g:Gh}{w:World}{S:St}{a:Act}
def endF(n:Nat)(rvs:List RV)(q:V->List (List V)->Prop)(x:AX)(S:St):Prop:=x.isEnd=true/\tT_ n rvs q (fgt S)
@[simp] theorem endF_ret (n:Nat) (rvs:List RV) (q:V->List (List V)->Prop) (S:St):endF n rvs q .ret S=ob (rvVs (fgt S) rvs) (retA n (fgt S) q):=by simp[endF,AX.isEnd,v9_]
@[simp] theorem endF_normal (n:Nat) (rvs:List RV) (q:V->List (List V)->Prop) (S:St):endF n rvs q .normal S=ob (rvVs (fgt S) rvs) (retA n (fgt S) q):=by simp[endF,AX.isEnd,v9_]
end
end
def lv(l:List Bool):List V:=l.map fun b=>.s (.bool b)
@[simp] theorem lv_length (l:List Bool):(lv l).length=l.length:=by simp[lv]
theorem sQ_{l:List Bool}{i:Nat}(h:i<l.length):(lv l)[i]'(by simpa using h)=.s (.bool l[i]):=by simp[lv]
def rw_(r:RG.Rs)(p:V):List V:=[.s (.int .i64 r.ep),.s (.bool r.lost),.s (.bool r.ask),p,.s (.bool r.tk.has),.s (.bool r.tk.want),.s (.bool r.tk.using_),.s (.int .i64 r.tk.last),.s (.int .i64 r.tk.next)]
def rv(r:RG.Rs):V:=.agg (rw_ r (.list 1 (lv r.prom)))
def nilS:V:=.s (.slice none 0 0)
def kk:RG.Kd->Int
 |.req=>12
 |.tok=>13
 |.prm=>14
 |.prd=>15
def mv(m:RG.Rm):V:=.agg ((mc (kk m.k) m.e m.s).map .s)
def ou(o:RG.Out):List V:=o.map fun p=>.agg ((pc p.1 (kk p.2.k) p.2.e p.2.s).map .s)
theorem u2_(i n:Int)(h:1<=n/\n<=4/\0<=i/\i<n):PC Try.prog 31 [.s (.int .i64 i),.s (.int .i64 n)] (fun r=>r=.s (.bool true)):=by
 refine zx_ c31 zN_ rfl ?_
 obtain⟨h1,h2,h3,h4⟩:=h
 have g1:n>=1:=h1
 have g3:i>=0:=h3
 simp -implicitDefEqProofs [a31,F31,g1,h2,g3,h4]
theorem vu_(x i n:Int)(h:0<=x/\x<n/\x≠i):PC Try.prog 38 [.s (.int .i64 x),.s (.int .i64 i),.s (.int .i64 n)] (fun r=>r=.s (.bool true)):=by
 refine zx_ c38 zN_ rfl ?_
 obtain⟨h1,h2,h3⟩:=h
 have g1:x>=0:=h1
 have g3:(x != i)=true:=by simpa using h3
 simp -implicitDefEqProofs [a38,F38,g1,h2,g3]
theorem x1_(e:Int)(h:0<=e/\e<=1073741824):PC Try.prog 32 [.s (.int .i64 e)] (fun r=>r=.s (.bool true)):=by
 refine zx_ c32 zN_ rfl ?_
 obtain⟨h1,h2⟩:=h
 have g1:e>=0:=h1
 simp -implicitDefEqProofs [a32,F32,g1,h2]
def lr_(l:List Bool)(m:Nat)(S:St):Prop:=∃j,j+m=l.length/\(l.take j).all id=true/\S=⟨tmL [(5,.list 1 (lv l)),(6,.s (.int .i64 l.length)),(7,.s (.int .i64 j))],[.list 1 (lv l),.s (.bool false),.no],[],0⟩
theorem n1_(l:List Bool)(hl:l.length<=1000000):PC Try.prog 28 [.list 1 (lv l)] (fun r=>r=.s (.bool (l.all id))):=by
 refine zx_ c28 zN_ rfl ?_
 simp -implicitDefEqProofs [a28,F28]
 refine ui_ [5,6,7] [2] 0 (zzl_ _) (lr_ l) l.length ⟨by simp,0,by simp,by simp,by simp⟩ ?_
 rintro m S ⟨j,hj,ha,rfl⟩
 by_cases hjl:j<l.length
 .have j1:(j:Int)<l.length:=by omega
  have j0:¬(j:Int)<0:=by omega
  have gt:=sQ_ hjl
  have hs:(l.take (j+1)).all id=l[j]:=by rw[List.take_succ_eq_append_getElem hjl,List.all_append,ha];simp
  cases hh:l[j]
  ·have:l.all id=false:=by
    rw[List.all_eq_false]
    exact⟨l[j],yyp_ _,by rw[hh];simp⟩
   simp -implicitDefEqProofs [j1,j0,hjl,gt,hh,this]
  .rw[hh]at hs
   simp -implicitDefEqProofs [j1,j0,hjl,gt,hh]
   exact⟨m-1,by omega,j+1,by omega,hs,by rw[vL_ (by omega)];simp⟩
 .have j1:¬(j:Int)<l.length:=by omega
  have:l.all id=true:=by rw[zzx_ (by omega)]at ha;exact ha
  simp -implicitDefEqProofs [j1,this]
theorem vo_(r:RG.Rs)(e:Nat)(p:V)(hp:p=.list 1 (lv r.prom)\/p=nilS):PC Try.prog 22 [.agg (rw_ r p),.s (.int .i64 e)] (fun x=>x=.agg (rw_ (RG.promised r e) nilS)):=by
 obtain⟨ep,lo,ak,pr,⟨th,tw,tu,tl,tn⟩⟩:=r
 refine zx_ c22 zN_ rfl ?_
 rcases hp with rfl|rfl<;>cases tu<;>simp -implicitDefEqProofs [a22,F22,rw_,RG.promised,nilS]
theorem r19:List.range 19=[0,1,2,3,4,5,6,7,8,9,10,11,12,13,14,15,16,17,18]:=rfl
theorem uq_(to k e:Int):PC Try.prog 24 [.s (.int .i64 to),.s (.int .i64 k),.s (.int .i64 e)] (fun x=>x=.agg ((pc to k e 0).map .s)):=by
 refine zx_ c24 zN_ rfl ?_
 simp -implicitDefEqProofs [a24,F24,pc,mc,r19]
theorem sl_(e:Int):PC Try.prog 21 [.s (.int .i64 e)] (fun r=>r=.tup [rv ⟨0,false,false,[],⟨false,false,false,0,0⟩⟩,.list 19 [],.s (.int .i64 e)]):=by
 refine yp_ (q:=fun r=>frT r (.tup [rv ⟨0,false,false,[],⟨false,false,false,0,0⟩⟩,.list 19 [],.s (.int .i64 e)])) ?_ fun x hx _=>⟨_,hx,rfl,rfl⟩
 refine zx_ c21 zN_ rfl ?_
 simp -implicitDefEqProofs [a21,F21,rv,rw_,lv,frT,frAs,frA,frLs,frL,immC]
theorem qT_(r:RG.Rs)(p:V)(hp:p=.list 1 (lv r.prom)\/p=nilS):PC Try.prog 23 [.agg (rw_ r p)] (fun x=>x=.tup [rv (RG.made r).1,.list 19 (ou (RG.made r).2)]):=by
 have k1:=uq_ r.tk.next 13 r.ep
 obtain⟨ep,lo,ak,pr,⟨th,tw,tu,tl,tn⟩⟩:=r
 refine yp_ (q:=fun x=>frT x (.tup [rv (RG.made ⟨ep,lo,ak,pr,⟨th,tw,tu,tl,tn⟩⟩).1,.list 19 (ou (RG.made ⟨ep,lo,ak,pr,⟨th,tw,tu,tl,tn⟩⟩).2)])) ?_ fun x hx _=>⟨_,hx,rfl,rfl⟩
 refine zx_ c23b zN_ rfl ?_
 cases tw
 .by_cases hn:tn=-1
  .subst hn
   rcases hp with rfl|rfl<;>simp -implicitDefEqProofs [a23b,F23,rw_,nilS,RG.made,rv,lv,ou,frT,frAs,frA,frLs,frL,immC]
  .have hn2:(tn==-1)=false:=by simpa using hn
   rcases hp with rfl|rfl
   all_goals
    simp -implicitDefEqProofs [a23b,F23,rw_,nilS,hn2]
    refine z5_ ?_
    simp -implicitDefEqProofs
    refine zj_ k1 (by simp) (by simp) ?_
    rintro _ rfl
    simp -implicitDefEqProofs [RG.made,hn,rv,rw_,lv,ou,kk,pc,mc,frT,frAs,frA,frLs,frL,immC]
 .rcases hp with rfl|rfl<;>simp -implicitDefEqProofs [a23b,F23,rw_,nilS,RG.made,rv,lv,ou,frT,frAs,frA,frLs,frL,immC]
theorem vK_{r:RG.Rs}{n i:Nat}(hn:r.prom.length=n)(hi:i<n)(hl:n<=4)(hp:r.prom[i]?=some true)(ha:r.prom.all id=false)(ht:({ r.tk with want:=true }:Tk).ok n i) :
 PC Try.prog 33 [rv r,.s (.int .i64 i),.s (.int .i64 n)] (fun x=>x=.s (.bool true)):=by
 have k1:=n1_ r.prom (by omega)
 have ho:∀x,Othr n i x->PC Try.prog 38 [.s (.int .i64 x),.s (.int .i64 i),.s (.int .i64 n)] (fun r=>r=.s (.bool true)):=fun x hx=>vu_ x i n hx
 have hil:i<r.prom.length:=by omega
 have gt:=sQ_ hil
 have hpi:r.prom[i]=true:=by rw[zzf_ hil]at hp;injection hp
 rw[hpi]at gt
 have hh:=ht.wh rfl
 have hu:r.tk.using_=false:=by
  cases q:r.tk.using_
  .rfl
  .have:=ht.uh q;rw[hh]at this;cases this
 have hL:=ht.l
 have hX:=ht.x
 have hB:=ht.busy (.inr rfl)
 clear ht hp hpi
 obtain⟨ep,lo,ak,pr,⟨th,tw,tu,last,next⟩⟩:=r
 simp only at hn ha k1 hil gt hh hu hL hX hB
 subst hh hu
 have hne:((pr.length:Int) != (n:Int))=false:=by simp[hn]
 have i0:¬(i:Int)<0:=by omega
 refine zx_ c33 zN_ rfl ?_
 simp -implicitDefEqProofs [a33,F33,rv,rw_,hne,i0,hil,gt]
 refine z5_ ?_
 simp -implicitDefEqProofs
 refine zj_ k1 (by simp) (by simp) ?_
 rintro _ rfl
 simp -implicitDefEqProofs [ha]
 cases e1:(last==-1)<;>cases e2:(next==-1)
 .have g1:last≠-1:=by simpa using e1
  have g2:next≠-1:=by simpa using e2
  have f1:(last != -1)=true:=by simpa using e1
  have f2:(next != -1)=true:=by simpa using e2
  simp -implicitDefEqProofs [f1]
  refine z5_ ?_
  simp -implicitDefEqProofs
  refine zj_ (ho _ (hL g1)) (by simp) (by simp) ?_
  rintro _ rfl
  simp -implicitDefEqProofs [f2]
  refine z5_ ?_
  simp -implicitDefEqProofs
  refine zj_ (ho _ (hX g2)) (by simp) (by simp) ?_
  rintro _ rfl
  simp -implicitDefEqProofs [e1,e2]
 .have g1:last≠-1:=by simpa using e1
  have g2:next=-1:=by simpa using e2
  exact absurd (hB.1 g2) g1
 .have g1:last=-1:=by simpa using e1
  have g2:next≠-1:=by simpa using e2
  exact absurd (hB.2 g1) g2
 .have f1:(last != -1)=false:=by simpa using e1
  have f2:(next != -1)=false:=by simpa using e2
  simp -implicitDefEqProofs [e1,e2,f1,f2]
theorem zW_{r:RG.Rs}{n i:Nat}(h:r.ok n i):PC Try.prog 15 [rv r,.s (.int .i64 i),.s (.int .i64 n)] (fun x=>x=.s (.bool true)):=by
 have kp:=u2_ i n ⟨by have:=h.n1;omega,by have:=h.n4;omega,by omega,by have:=h.ri;omega⟩
 have ke:=x1_ r.ep ⟨by omega,by have:=h.e;omega⟩
 have hk:=h.k
 have hri:=h.ri
 have hn4:=h.n4
 clear h
 rcases hk with ⟨h1,h2,h3,h4⟩|⟨h1,h2,h3,h4⟩|⟨h1,h2,h3,h4,h5,h6⟩
 .obtain⟨ep,lo,ak,pr,tk⟩:=r
  simp only at h1 h2 h3 h4 ke
  subst h1 h2 h3 h4
  refine zx_ c15 zN_ rfl ?_
  simp -implicitDefEqProofs [a15,F15,rv,rw_,lv]
  refine z5_ ?_
  simp -implicitDefEqProofs
  refine zj_ kp (by simp) (by simp) ?_
  rintro _ rfl
  simp -implicitDefEqProofs
  refine z5_ ?_
  simp -implicitDefEqProofs
  refine zj_ ke (by simp) (by simp) ?_
  rintro _ rfl
  simp -implicitDefEqProofs [vL_]
 .have kv:=re_ h4
  obtain⟨ep,lo,ak,pr,tk⟩:=r
  simp only at h1 h2 h3 h4 ke kv
  subst h1 h2 h3
  refine zx_ c15 zN_ rfl ?_
  simp -implicitDefEqProofs [a15,F15,rv,rw_,lv]
  refine z5_ ?_
  simp -implicitDefEqProofs
  refine zj_ kp (by simp) (by simp) ?_
  rintro _ rfl
  simp -implicitDefEqProofs
  refine z5_ ?_
  simp -implicitDefEqProofs
  refine zj_ ke (by simp) (by simp) ?_
  rintro _ rfl
  simp -implicitDefEqProofs
  refine z5_ ?_
  simp -implicitDefEqProofs
  refine zj_ kv (by simp[Tk.v,Tk.c]) (by simp[Tk.v,Tk.c]) ?_
  rintro _ rfl
  simp -implicitDefEqProofs
 .have kv:=vK_ h3 hri hn4 h4 h5 h6
  obtain⟨ep,lo,ak,pr,tk⟩:=r
  simp only at h1 h2 h3 ke kv
  subst h1 h2
  refine zx_ c15 zN_ rfl ?_
  simp -implicitDefEqProofs [a15,F15,rv,rw_]
  refine z5_ ?_
  simp -implicitDefEqProofs
  refine zj_ kp (by simp) (by simp) ?_
  rintro _ rfl
  simp -implicitDefEqProofs
  refine z5_ ?_
  simp -implicitDefEqProofs
  refine zj_ ke (by simp) (by simp) ?_
  rintro _ rfl
  simp -implicitDefEqProofs
  refine z5_ ?_
  simp -implicitDefEqProofs
  refine zj_ kv (by simp[rv,rw_]) (by simp[rv,rw_]) ?_
  rintro _ rfl
  simp -implicitDefEqProofs
theorem v4_(e:Nat)(l:List Ms):ou (RG.posts e l)=l.map (·.v e):=by
 unfold ou RG.posts
 rw[List.map_map]
 refine List.map_congr_left fun m _=>?_
 obtain⟨a,b,c⟩:=m
 cases b<;>rfl
def chk(r:RG.Rs)(m:RG.Rm):Int:=if m.k=.prm then (if m.e<=r.ep then 18 else 0) else if m.e=r.ep then 0 else 18
theorem xV_(r:RG.Rs)(n i j:Nat)(m:RG.Rm)(hj:Othr n i j)(he:m.e<=1073741824)(hr:m.k=.req->Othr n i m.s) :
 PC Try.prog 25 [rv r,.s (.int .i64 i),.s (.int .i64 n),.s (.int .i64 j),mv m] (fun x=>x=.s (.int .i64 (chk r m))):=by
 have k1:=vu_ j i n hj
 have k2:=x1_ m.e ⟨by omega,by omega⟩
 have k3:=fun q=>vu_ m.s i n (hr q)
 clear hr hj
 obtain⟨k,e,s⟩:=m
 simp only at k1 k2 k3 he
 refine zx_ c25 zN_ rfl ?_
 have hne:e≠r.ep->((e:Int) != (r.ep:Int))=true:=fun q=>by
  have:¬((e:Int)=(r.ep:Int)):=by omega
  simpa using this
 have heq:e=r.ep->((e:Int) != (r.ep:Int))=false:=fun q=>by simp[q]
 cases k with
 | req =>
   simp -implicitDefEqProofs [a25,F25,rv,rw_,mv,mc,kk]
   refine z5_ ?_
   simp -implicitDefEqProofs
   refine zj_ (k3 rfl) (by simp) (by simp) ?_
   rintro _ rfl
   simp -implicitDefEqProofs
   refine z5_ ?_
   simp -implicitDefEqProofs
   refine zj_ k1 (by simp) (by simp) ?_
   rintro _ rfl
   simp -implicitDefEqProofs
   refine z5_ ?_
   simp -implicitDefEqProofs
   refine zj_ k2 (by simp) (by simp) ?_
   rintro _ rfl
   by_cases q:e=r.ep
   .have q1:=heq q
    simp -implicitDefEqProofs [q1]
    simp[chk,q]
   .have q1:=hne q
    simp -implicitDefEqProofs [q1]
    simp[chk,q]
 | tok =>
   simp -implicitDefEqProofs [a25,F25,rv,rw_,mv,mc,kk]
   refine z5_ ?_
   simp -implicitDefEqProofs
   refine zj_ k1 (by simp) (by simp) ?_
   rintro _ rfl
   simp -implicitDefEqProofs
   refine z5_ ?_
   simp -implicitDefEqProofs
   refine zj_ k2 (by simp) (by simp) ?_
   rintro _ rfl
   by_cases q:e=r.ep
   .have q1:=heq q
    simp -implicitDefEqProofs [q1]
    simp[chk,q]
   .have q1:=hne q
    simp -implicitDefEqProofs [q1]
    simp[chk,q]
 | prd =>
   simp -implicitDefEqProofs [a25,F25,rv,rw_,mv,mc,kk]
   refine z5_ ?_
   simp -implicitDefEqProofs
   refine zj_ k1 (by simp) (by simp) ?_
   rintro _ rfl
   simp -implicitDefEqProofs
   refine z5_ ?_
   simp -implicitDefEqProofs
   refine zj_ k2 (by simp) (by simp) ?_
   rintro _ rfl
   by_cases q:e=r.ep
   .have q1:=heq q
    simp -implicitDefEqProofs [q1]
    simp[chk,q]
   .have q1:=hne q
    simp -implicitDefEqProofs [q1]
    simp[chk,q]
 | prm =>
   simp -implicitDefEqProofs [a25,F25,rv,rw_,mv,mc,kk]
   refine z5_ ?_
   simp -implicitDefEqProofs
   refine zj_ k1 (by simp) (by simp) ?_
   rintro _ rfl
   simp -implicitDefEqProofs
   refine z5_ ?_
   simp -implicitDefEqProofs
   refine zj_ k2 (by simp) (by simp) ?_
   rintro _ rfl
   by_cases q:e<=r.ep
   .have q1:(e:Int)<=r.ep:=by omega
    simp -implicitDefEqProofs [q1]
    simp[chk,q]
   .have q1:¬(e:Int)<=r.ep:=by omega
    simp -implicitDefEqProofs [q1]
    simp[chk,q]
def ro(r:RG.Rs):V:=.own true 4 1 (lv r.prom)
theorem xu_(r:RG.Rs)(hl:r.prom.length<=1000000):PC Try.prog 26 [rv r] (fun x=>x=.agg (rw_ r (ro r))):=by
 refine zx_ c26 zN_ rfl ?_
 have b1:r.prom.length<=maxLen/\r.prom.length*1<=y4_:=by simp[maxLen,y4_];omega
 have b2:r.prom.length<=y4_:=by simp[y4_];omega
 simp -implicitDefEqProofs [a26,F26,rv,rw_,ro,b1,b2]
theorem rt_(r:RG.Rs)(i j e:Nat)(p:V)(hp:p=.list 1 (lv r.prom)\/p=nilS):PC Try.prog 27 [.agg (rw_ r p),.s (.int .i64 i),.s (.int .i64 j),.s (.int .i64 e)] (fun x=>x=.tup [rv (RG.promR r i j e).1,.list 19 (ou (RG.promR r i j e).2)]):=by
 have k1:=vo_ r e p hp
 have k2:=uq_ j 15 e
 have k3:=uq_ j 12 e
 refine yp_ (q:=fun x=>frT x (.tup [rv (RG.promR r i j e).1,.list 19 (ou (RG.promR r i j e).2)])) ?_ fun x hx _=>⟨_,hx,rfl,rfl⟩
 refine zx_ c27b zN_ rfl ?_
 cases hw:(r.tk.using_||r.tk.want)
 .have ew:(RG.promised r e).tk.want=false:=hw
  have e1:RG.promR r i j e=(⟨e,false,false,[],⟨false,false,false,j,-1⟩⟩,[((j:Int),⟨.prd,e,0⟩)]):=by
   unfold RG.promR
   simp only[ew,yyi_,if_false]
   unfold RG.promised
   simp only
  have e2:RG.promised r e=⟨e,false,false,[],⟨false,false,false,-1,-1⟩⟩:=by unfold RG.promised;rw[hw]
  rw[e2]at k1
  rw[e1]
  rcases hp with rfl|rfl
  all_goals
   simp -implicitDefEqProofs [a27b,F27,rw_,nilS]
   refine z5_ ?_
   simp -implicitDefEqProofs
   refine zj_ k1 (by simp[rw_,nilS]) (by simp[rw_,nilS]) ?_
   rintro _ rfl
   simp -implicitDefEqProofs [rw_,nilS]
   refine z5_ ?_
   simp -implicitDefEqProofs
   refine zj_ k2 (by simp) (by simp) ?_
   rintro _ rfl
   simp -implicitDefEqProofs [rv,rw_,lv,ou,kk,pc,mc,frT,frAs,frA,frLs,frL,immC]
 .have ew:(RG.promised r e).tk.want=true:=hw
  have e1:RG.promR r i j e=(⟨e,false,false,[],⟨false,true,false,-1,-1⟩⟩,[((j:Int),⟨.prd,e,0⟩),((j:Int),⟨.req,e,i⟩)]):=by
   unfold RG.promR
   simp only[ew,if_true]
   unfold RG.promised
   simp only[hw]
  have e2:RG.promised r e=⟨e,false,false,[],⟨false,true,false,-1,-1⟩⟩:=by unfold RG.promised;rw[hw]
  rw[e2]at k1
  rw[e1]
  rcases hp with rfl|rfl
  all_goals
   simp -implicitDefEqProofs [a27b,F27,rw_,nilS]
   refine z5_ ?_
   simp -implicitDefEqProofs
   refine zj_ k1 (by simp[rw_,nilS]) (by simp[rw_,nilS]) ?_
   rintro _ rfl
   simp -implicitDefEqProofs [rw_,nilS]
   refine z5_ ?_
   simp -implicitDefEqProofs
   refine zj_ k2 (by simp) (by simp) ?_
   rintro _ rfl
   simp -implicitDefEqProofs [pc,mc]
   refine z5_ ?_
   simp -implicitDefEqProofs
   refine zj_ k3 (by simp) (by simp) ?_
   rintro _ rfl
   simp -implicitDefEqProofs [rv,rw_,lv,ou,kk,pc,mc,maxLen,y4_,frT,frAs,frA,frLs,frL,immC]
def msOf(i:Nat)(m:RG.Rm):Ms:=⟨i,decide (m.k=.tok),if m.k=.tok then 0 else m.s⟩
theorem ny_{m:RG.Rm}(i:Nat)(h:m.k=.tok\/m.k=.req)(hs:m.k=.tok->m.s=0):(msOf i m).mv m.e=mv m:=by
 obtain⟨k,e,s⟩:=m
 rcases h with h|h
 .simp only at h;subst h
  have:=hs rfl
  simp only at this;subst this;rfl
 .simp only at h;subst h;rfl
def xX_(r:RG.Rs)(y:Ms):RG.Rs×RG.Out:=if r.ask=true then RG.passA r y else RG.passR r y
theorem nt_(r:RG.Rs)(n i:Nat)(y:Ms)(hl:r.lost=false)(he:r.ep<=1073741824)(ht:(if r.ask=true then ({ r.tk with want:=true }:Tk) else r.tk).ok n i)
 (h1:y.tok=true->r.ask=false/\r.tk.want=true) (h2:y.tok=false->Othr n i y.org) :
 PC Try.prog 29 [rv r,.s (.int .i64 i),.s (.int .i64 n),y.mv r.ep] (fun x=>x=.tup [rv (xX_ r y).1,.list 19 (ou (xX_ r y).2),.s (.int .i64 0)]):=by
 refine yp_ (q:=fun x=>frT x (.tup [rv (xX_ r y).1,.list 19 (ou (xX_ r y).2),.s (.int .i64 0)])) ?_ fun x hx _=>⟨_,hx,rfl,rfl⟩
 refine zx_ c29 zN_ rfl ?_
 cases ha:r.ask with
 | true =>
   rw[if_pos ha]at ht
   have hH:=pz_ (e:=r.ep) (m:=y) ht ⟨by omega,by omega⟩ (fun q=>rfl) h2
   have e1:xX_ r y=RG.passA r y:=by unfold xX_;rw[if_pos ha]
   rw[e1]
   unfold RG.passA
   generalize hearT { r.tk with want:=true } y=t2 at hH ⊢
   rw[v4_]
   generalize hearM { r.tk with want:=true } y=l2 at hH ⊢
   obtain⟨ep,lo,ak,pr,tk⟩:=r
   simp only at ha hl hH
   subst ha hl
   simp -implicitDefEqProofs [a29,F29,rv,rw_,Ms.mv,mc]
   refine z5_ ?_
   simp -implicitDefEqProofs
   refine zj_ hH (by simp[Tk.v,Tk.c,Ms.mv,mc]) (by simp[Tk.v,Tk.c,Ms.mv,mc]) ?_
   rintro _ rfl
   simp -implicitDefEqProofs [Tk.v,Tk.c,frT,frAs,frA,frLs,frL,immC]
 | false =>
   rw[if_neg (by rw[ha];simp)]at ht
   have hH:=pz_ (e:=r.ep) (m:=y) ht ⟨by omega,by omega⟩ (fun q=>(h1 q).2) h2
   have e1:xX_ r y=RG.passR r y:=by unfold xX_;rw[if_neg (by rw[ha];simp)]
   rw[e1]
   unfold RG.passR
   generalize hearT r.tk y=t2 at hH ⊢
   rw[v4_]
   generalize hearM r.tk y=l2 at hH ⊢
   obtain⟨ep,lo,ak,pr,tk⟩:=r
   simp only at ha hl hH
   subst ha hl
   simp -implicitDefEqProofs [a29,F29,rv,rw_,Ms.mv,mc]
   refine z5_ ?_
   simp -implicitDefEqProofs
   refine zj_ hH (by simp[Tk.v,Tk.c,Ms.mv,mc]) (by simp[Tk.v,Tk.c,Ms.mv,mc]) ?_
   rintro _ rfl
   simp -implicitDefEqProofs [Tk.v,Tk.c,frT,frAs,frA,frLs,frL,immC]
theorem so_(i n:Nat)(h:1<=n/\n<=4/\i<n):PC Try.prog 14 [.s (.int .i64 i),.s (.int .i64 n)] (fun x=>x=.tup [rv ⟨0,false,false,[],newT i⟩,.s (.int .i64 0)]):=by
 refine yp_ (q:=fun x=>frT x (.tup [rv ⟨0,false,false,[],newT i⟩,.s (.int .i64 0)])) ?_ fun x hx _=>⟨_,hx,rfl,rfl⟩
 have k1:=mZ_ i n ⟨by omega,by omega,by omega,by omega⟩
 refine zx_ c14 zN_ rfl ?_
 generalize newT i=t at k1 ⊢
 simp -implicitDefEqProofs [a14,F14]
 refine z5_ ?_
 simp -implicitDefEqProofs
 refine zj_ k1 (by simp) (by simp) ?_
 rintro _ rfl
 simp -implicitDefEqProofs [rv,rw_,lv,Tk.v,Tk.c,frT,frAs,frA,frLs,frL,immC]
theorem rU_(r:RG.Rs)(i n:Nat)(h:1<=n/\n<=4/\i<n)(he:r.ep<=1073741824):PC Try.prog 35 [.s (.int .i64 i),.s (.int .i64 n),.s (.int .i64 r.ep)] (fun x=>x=.tup [rv (RG.restartR r),.s (.int .i64 0)]):=by
 refine yp_ (q:=fun x=>frT x (.tup [rv (RG.restartR r),.s (.int .i64 0)])) ?_ fun x hx _=>⟨_,hx,rfl,rfl⟩
 have k1:=u2_ i n ⟨by omega,by omega,by omega,by omega⟩
 have k2:=x1_ r.ep ⟨by omega,by omega⟩
 refine zx_ c35 zN_ rfl ?_
 simp -implicitDefEqProofs [a35,F35]
 refine z5_ ?_
 simp -implicitDefEqProofs
 refine zj_ k1 (by simp) (by simp) ?_
 rintro _ rfl
 simp -implicitDefEqProofs
 refine z5_ ?_
 simp -implicitDefEqProofs
 refine zj_ k2 (by simp) (by simp) ?_
 rintro _ rfl
 simp -implicitDefEqProofs [rv,rw_,lv,RG.restartR,frT,frAs,frA,frLs,frL,immC]
theorem sN_{r:RG.Rs}{n i:Nat}(h:r.ok n i)(hl:r.lost=false)(ha:r.ask=false):r.tk.ok n i/\r.prom=[]:=by
 rcases h.k with ⟨h1,_⟩|⟨_,_,h3,h4⟩|⟨_,h2,_⟩
 .rw[h1]at hl;cases hl
 .exact⟨h4,h3⟩
 .rw[h2]at ha;cases ha
theorem wR_{r:RG.Rs}{n i:Nat}(h:r.ok n i):r.prom.length<=4:=by
 have:=h.n4
 rcases h.k with ⟨_,_,h3,_⟩|⟨_,_,h3,h4⟩|⟨_,_,h3,_⟩
 .rw[h3];simp
 .rw[h3];simp
 .omega
theorem oB_{r:RG.Rs}{n i:Nat}(h:r.ok n i)(hl:r.lost=false)(hw:r.tk.want=false)(hu:r.tk.using_=false):PC Try.prog 37 [rv r,.s (.int .i64 i),.s (.int .i64 n)] (fun x=>x=.tup [rv (RG.wantR r i).1,.list 19 (ou (RG.wantR r i).2),.s (.int .i64 0)]):=by
 refine yp_ (q:=fun x=>frT x (.tup [rv (RG.wantR r i).1,.list 19 (ou (RG.wantR r i).2),.s (.int .i64 0)])) ?_ fun x hx _=>⟨_,hx,rfl,rfl⟩
 have kv:=zW_ h
 have kc:=xu_ r (by have:=wR_ h;omega)
 have he:=h.e
 refine zx_ c37 zN_ rfl ?_
 cases ha:r.ask with
 | true =>
   have e1:RG.wantR r i=({ r with tk:={ r.tk with want:=true } },[]):=by unfold RG.wantR;rw[if_pos ha]
   rw[e1]
   clear e1 h
   obtain⟨ep,lo,ak,pr,⟨th,tw,tu,tl,tn⟩⟩:=r
   simp only at ha hl hw hu kv kc
   subst ha hl hw hu
   simp -implicitDefEqProofs [a37,F37,rv,rw_]
   refine z5_ ?_
   simp -implicitDefEqProofs
   refine zj_ kv (by simp[rv,rw_]) (by simp[rv,rw_]) ?_
   rintro _ rfl
   simp -implicitDefEqProofs
   refine z5_ ?_
   simp -implicitDefEqProofs
   refine zj_ kc (by simp[rv,rw_]) (by simp[rv,rw_]) ?_
   rintro _ rfl
   simp -implicitDefEqProofs [rw_,ro,ou,frT,frAs,frA,frLs,frL,immC]
 | false =>
   obtain⟨ok,hp⟩:=sN_ h hl ha
   have kw:=nW_ (e:=r.ep) ok ⟨by omega,by omega⟩ hw hu
   have e1:RG.wantR r i=({ r with tk:=w1_ r.tk },RG.posts r.ep (xA_ r.tk i)):=by unfold RG.wantR;rw[if_neg (by rw[ha];simp)]
   rw[e1,v4_]
   generalize w1_ r.tk=t2 at kw ⊢
   generalize xA_ r.tk i=l2 at kw ⊢
   clear e1 h ok
   obtain⟨ep,lo,ak,pr,⟨th,tw,tu,tl,tn⟩⟩:=r
   simp only at ha hl hw hu kv kc kw hp
   subst ha hl hw hu hp
   simp -implicitDefEqProofs [a37,F37,rv,rw_]
   refine z5_ ?_
   simp -implicitDefEqProofs
   refine zj_ kv (by simp[rv,rw_]) (by simp[rv,rw_]) ?_
   rintro _ rfl
   simp -implicitDefEqProofs
   refine z5_ ?_
   simp -implicitDefEqProofs
   refine zj_ kc (by simp[rv,rw_]) (by simp[rv,rw_]) ?_
   rintro _ rfl
   simp -implicitDefEqProofs [rw_,ro]
   refine z5_ ?_
   simp -implicitDefEqProofs
   refine zj_ kw (by simp[Tk.v,Tk.c]) (by simp[Tk.v,Tk.c]) ?_
   rintro _ rfl
   simp -implicitDefEqProofs [Tk.v,Tk.c,lv,frT,frAs,frA,frLs,frL,immC]
theorem oE_{r:RG.Rs}{n i:Nat}(h:r.ok n i)(hl:r.lost=false)(ha:r.ask=false)(hu:r.tk.using_=true):PC Try.prog 36 [rv r,.s (.int .i64 i),.s (.int .i64 n)] (fun x=>x=.tup [rv (RG.doneR r).1,.list 19 (ou (RG.doneR r).2),.s (.int .i64 0)]):=by
 refine yp_ (q:=fun x=>frT x (.tup [rv (RG.doneR r).1,.list 19 (ou (RG.doneR r).2),.s (.int .i64 0)])) ?_ fun x hx _=>⟨_,hx,rfl,rfl⟩
 have kv:=zW_ h
 have kc:=xu_ r (by have:=wR_ h;omega)
 have he:=h.e
 obtain⟨ok,hp⟩:=sN_ h hl ha
 have kw:=nY_ (e:=r.ep) ok ⟨by omega,by omega⟩ hu
 refine zx_ c36 zN_ rfl ?_
 unfold RG.doneR
 rw[v4_]
 generalize xx_ r.tk=t2 at kw ⊢
 generalize xy_ r.tk=l2 at kw ⊢
 clear h ok
 obtain⟨ep,lo,ak,pr,⟨th,tw,tu,tl,tn⟩⟩:=r
 simp only at ha hl hu kv kc kw hp
 subst ha hl hu hp
 simp -implicitDefEqProofs [a36,F36,rv,rw_]
 refine z5_ ?_
 simp -implicitDefEqProofs
 refine zj_ kv (by simp[rv,rw_]) (by simp[rv,rw_]) ?_
 rintro _ rfl
 simp -implicitDefEqProofs
 refine z5_ ?_
 simp -implicitDefEqProofs
 refine zj_ kw (by simp[Tk.v,Tk.c]) (by simp[Tk.v,Tk.c]) ?_
 rintro _ rfl
 simp -implicitDefEqProofs [Tk.v,Tk.c]
 refine z5_ ?_
 simp -implicitDefEqProofs
 refine zj_ kc (by simp[rv,rw_]) (by simp[rv,rw_]) ?_
 rintro _ rfl
 simp -implicitDefEqProofs [rw_,ro,lv,frT,frAs,frA,frLs,frL,immC]
theorem rx_{n i e x:Nat}(hi:i<n)(h1:e+1<=x)(h2:x<=RG.nextE n i e)(h3:x%n=i):x=RG.nextE n i e:=by
 have h4:=RG.nextE_mod (e:=e) hi
 have h5:=(RG.nextE_lt (i:=i) (e:=e) (show 0<n by omega)).2
 have h6:(RG.nextE n i e-x)%n=0:=Nat.sub_mod_eq_zero_of_mod_eq (by rw[h3,h4])
 rw[Nat.mod_eq_of_lt (by omega)]at h6
 omega
def zr:List V:=[.s (.int .i64 0),.s (.bool false),.s (.bool false),.s (.slice none 0 0),.s (.bool false),.s (.bool false),.s (.bool false),.s (.int .i64 0),.s (.int .i64 0)]
def bgA(r:RG.Rs)(n i m:Nat)(S:St):Prop:=∃x:Nat,r.ep+1<=x/\x+m=RG.nextE n i r.ep/\S=⟨tmL [(3,.ptr 0 0),(6,.ptr 1 0)],[rv r,.s (.int .i64 i),.s (.int .i64 n),.s (.slice none 0 0),.s (.int .i64 0),.s (.int .i64 x),.no,.no,.no],[rw_ r (.list 1 (lv r.prom)),zr],0⟩
def pr(i e s:Nat):RG.Out:=((List.range s).filter fun x=>decide (x≠i)).map fun (x:Nat)=>((x:Int),⟨.prm,e,0⟩)
theorem nr_(i e s:Nat):ou (pr i e (s+1))=ou (pr i e s)++if s=i then [] else [.agg ((pc s 14 e 0).map .s)]:=by
 unfold pr ou
 rw[List.range_succ,List.filter_append,List.map_append,List.map_append]
 congr 1
 by_cases h:s=i
 .rw[if_pos h];simp[h]
 .rw[if_neg h];simp[h,kk]
theorem mn_(i e s:Nat):(ou (pr i e s)).length<=s:=by
 unfold pr ou
 rw[List.length_map,List.length_map]
 have:=List.length_filter_le (fun x=>decide (x≠i)) (List.range s)
 simpa using this
def bgB(r:RG.Rs)(n i e:Nat)(w:Bool)(m:Nat)(S:St):Prop:=∃s:Nat,s+m=n/\S=⟨tmL [(3,.ptr 0 0),(6,.ptr 1 0),(59,.s (.int .i64 n)),(60,.s (.int .i64 s))],[rv r,.s (.int .i64 i),.s (.int .i64 n),.s (.slice none 0 0),.s (.int .i64 0),.s (.int .i64 e),.no,.own true 64 19 (ou (pr i e s)),.no],
 [[.s (.int .i64 e),.s (.bool false),.s (.bool true),.own true 4 1 (lv ((List.replicate n false).set i true)),.s (.bool false),.s (.bool w),.s (.bool false),.s (.int .i64 (-1)),.s (.int .i64 (-1))],zr],0⟩
theorem qU_(l:List Bool)(i:Nat)(b:Bool):(lv l).set i (.s (.bool b))=lv (l.set i b):=by simp[lv,List.map_set]
theorem mA_(n:Nat)(b:Bool):List.replicate n (V.s (.bool b))=lv (List.replicate n b):=by simp[lv]
theorem tU_{r:RG.Rs}{n i:Nat}(h:r.ok n i)(hE:RG.nextE n i r.ep<=1073741824):PC Try.prog 10 [rv r,.s (.int .i64 i),.s (.int .i64 n)] (fun x=>x=.tup [rv (RG.beginR n i r).1,.list 19 (ou (RG.beginR n i r).2),.s (.int .i64 0)]):=by
 refine yp_ (q:=fun x=>frT x (.tup [rv (RG.beginR n i r).1,.list 19 (ou (RG.beginR n i r).2),.s (.int .i64 0)])) ?_ fun x hx _=>⟨_,hx,rfl,rfl⟩
 have kv:=zW_ h
 have he:=h.e
 have hlen:=wR_ h
 have hn1:=h.n1
 have hn4:=h.n4
 have hri:=h.ri
 clear h
 refine zx_ c10b zN_ rfl ?_
 simp -implicitDefEqProofs [a10b,F10,rv,rw_]
 refine z5_ ?_
 simp -implicitDefEqProofs
 refine zj_ kv (by simp[rv,rw_]) (by simp[rv,rw_]) ?_
 rintro _ rfl
 simp -implicitDefEqProofs
 refine ui_ [3,6] [6,7,8] 2 (zzn_ _) (bgA r n i) (RG.nextE n i r.ep-(r.ep+1)) ⟨by simp,r.ep+1,by omega,by have:=(RG.nextE_lt (i:=i) (e:=r.ep) (show 0<n by omega)).1;omega,by simp[rv,rw_,zr,vL_ (n:=(r.ep:Int)+1) (by omega)]⟩ ?_
 rintro m S ⟨x,hx,hm,rfl⟩
 have hxE:x<=1073741824:=by omega
 have em:(x:Int).tmod (n:Int)=((x%n:Nat):Int):=by rw[Int.tmod_eq_emod_of_nonneg (by omega)];rfl
 have n0:¬(n=0):=by omega
 by_cases hxi:x%n=i
 .have hxe:=rx_ hri hx (by omega) hxi
  have c1:((x:Int).tmod (n:Int) != (i:Int))=false:=by rw[em];simp[hxi]
  have c2:¬((x:Int)>1073741824):=by omega
  have kp:=vo_ r x (.list 1 (lv r.prom)) (.inl rfl)
  simp -implicitDefEqProofs [rv,rw_,zr,n0,c1,c2]
  refine z5_ ?_
  simp -implicitDefEqProofs
  refine zj_ kp (by simp[rw_]) (by simp[rw_]) ?_
  rintro _ rfl
  have hbe:RG.beginR n i r=if n=1 then RG.made (RG.promised r x) else ({ RG.promised r x with ask:=true,prom:=(List.replicate n false).set i true },pr i x n):=by
   unfold RG.beginR
   rw[<-hxe]
   rfl
  rw[hbe]
  have km:=qT_ (RG.promised r x) nilS (.inr rfl)
  have ek:RG.promised r x=⟨x,false,false,[],⟨false,r.tk.using_||r.tk.want,false,-1,-1⟩⟩:=rfl
  generalize (r.tk.using_||r.tk.want)=w at ek
  by_cases h1:n=1
  .subst h1
   rw[if_pos rfl,ek]
   rw[ek]at km
   generalize RG.made ⟨x,false,false,[],⟨false,w,false,-1,-1⟩⟩=mm at km ⊢
   simp -implicitDefEqProofs [rw_,nilS]
   refine z5_ ?_
   simp -implicitDefEqProofs
   refine zj_ km (by simp[rw_,nilS]) (by simp[rw_,nilS]) ?_
   rintro _ rfl
   simp -implicitDefEqProofs [rv,rw_,frT,frAs,frA,frLs,frL,immC]
  ·have hn1':((n:Int)==1)=false:=by
    have:¬((n:Int)=1):=by omega
    simpa using this
   have b1:n<=140737488355328:=by omega
   have b0:n<=maxLen:=by simp[maxLen];omega
   have i0:¬(i:Int)<0:=by omega
   have n0':¬(n:Int)<0:=by omega
   have gt:=sQ_ (l:=List.replicate n false) (i:=i) (by simpa using hri)
   rw[List.getElem_replicate]at gt
   rw[if_neg h1,ek]
   simp -implicitDefEqProofs [rw_,nilS,hn1',b0,b1,i0,hri,mA_,gt,qU_]
   refine ui_ [3,6,59,60] [6,8] 2 (zzn_ _) (bgB r n i x w) n ⟨by simp,0,by omega,by simp[rv,rw_,zr,pr,ou]⟩ ?_
   rintro m2 S ⟨s,hs,rfl⟩
   have kpo:=uq_ s 14 x
   have hlp:=mn_ i x s
   have hps:=nr_ i x s
   by_cases hsn:s<n
   .have s1:(s:Int)<(n:Int):=by omega
    have ws:IntKind.i64.wrap ((s:Int)+1)=(s:Int)+1:=by rw[vL_ (by omega)]
    by_cases hsi:s=i
    .have c3:((s:Int) != (i:Int))=false:=by simp[hsi]
     rw[if_pos hsi,List.append_nil]at hps
     simp -implicitDefEqProofs [rv,rw_,zr,s1,c3]
     exact⟨m2-1,by omega,s+1,by omega,by simp[rv,rw_,zr,hps,ws]⟩
    ·have c3:((s:Int) != (i:Int))=true:=by
      have:¬((s:Int)=(i:Int)):=by omega
      simpa using this
     rw[if_neg hsi]at hps
     have b2:(ou (pr i x s)).length+1<=maxLen/\((ou (pr i x s)).length+1)*208<=y4_:=by simp only[maxLen,y4_];omega
     generalize ou (pr i x s)=o1 at hps hlp b2 ⊢
     simp -implicitDefEqProofs [rv,rw_,zr,s1,c3]
     refine z5_ ?_
     simp -implicitDefEqProofs
     refine zj_ kpo (by simp) (by simp) ?_
     rintro _ rfl
     simp -implicitDefEqProofs [pc,mc,b2]
     exact⟨m2-1,by omega,s+1,by omega,by simp[rv,rw_,zr,hps,pc,mc,ws]⟩
   .have s1:¬(s:Int)<(n:Int):=by omega
    obtain rfl:s=n:=by omega
    generalize ou (pr i x s)=o1
    simp -implicitDefEqProofs [rv,rw_,zr,s1,frT,frAs,frA,frLs,frL,immC]
 ·have c1:((x:Int).tmod (n:Int) != (i:Int))=true:=by
   rw[em]
   have:¬(((x%n:Nat):Int)=(i:Int)):=by omega
   simpa using this
  have hlt:x≠RG.nextE n i r.ep:=fun q=>hxi (by rw[q];exact RG.nextE_mod hri)
  have wx:IntKind.i64.wrap ((x:Int)+1)=(x:Int)+1:=by rw[vL_ (by omega)]
  simp -implicitDefEqProofs [rv,rw_,zr,n0,c1,wx]
  exact⟨m-1,by omega,x+1,by omega,by omega,by simp[rv,rw_,zr]⟩
def r0:RG.Rs:=⟨0,false,false,[],⟨false,false,false,0,0⟩⟩
def hErr(r:RG.Rs)(m:RG.Rm):Int:=if chk r m=18 then 18 else if m.k=.prd then 14 else 19
def xq_(r:RG.Rs)(i j:Nat)(m:RG.Rm):V :=
 match RG.hearR r i j m with
 |some p=>.tup [rv p.1,.list 19 (ou p.2),.s (.int .i64 0)]
 |none=>.tup [rv r0,.list 19 [],.s (.int .i64 (hErr r m))]
theorem mU_(r:RG.Rs)(m:RG.Rm):chk r m=0\/chk r m=18:=by
 unfold chk
 split
 .split
  .exact .inr rfl
  .exact .inl rfl
 .split
  .exact .inl rfl
  .exact .inr rfl
theorem rE_{r:RG.Rs}{i j:Nat}{m:RG.Rm}(h:chk r m=18):xq_ r i j m=.tup [rv r0,.list 19 [],.s (.int .i64 18)]:=by
 have e:RG.hearR r i j m=none:=by
  unfold chk at h
  unfold RG.hearR
  obtain⟨k,e,s⟩:=m
  cases k<;>simp only at h ⊢
  .rw[if_pos]
   left
   intro q
   rw[if_neg (by simp),if_pos q]at h
   omega
  .rw[if_pos]
   left
   intro q
   rw[if_neg (by simp),if_pos q]at h
   omega
  .rw[if_pos]
   apply Classical.byContradiction
   intro q
   simp[q]at h
  .rw[if_pos]
   left
   intro q
   rw[if_neg (by simp),if_pos q]at h
   omega
 unfold xq_
 rw[e]
 simp only
 unfold hErr
 rw[if_pos h]
theorem oU_{r:RG.Rs}{n i j:Nat}{m:RG.Rm}(h:r.ok n i)(hj:Othr n i j)(he:m.e<=1073741824)(hr:m.k=.req->Othr n i m.s)(hc:chk r m=18) :
 PC Try.prog 13 [rv r,.s (.int .i64 i),.s (.int .i64 n),.s (.int .i64 j),mv m] (fun x=>x=.tup [rv r0,.list 19 [],.s (.int .i64 18)]):=by
 have kv:=zW_ h
 have kk1:=xV_ r n i j m hj he hr
 rw[hc]at kk1
 have kf:=sl_ 18
 refine zx_ c13b zN_ rfl ?_
 simp -implicitDefEqProofs [a13b,F13,rv,rw_,mv,mc]
 refine z5_ ?_
 simp -implicitDefEqProofs
 refine zj_ kv (by simp[rv,rw_]) (by simp[rv,rw_]) ?_
 rintro _ rfl
 simp -implicitDefEqProofs
 refine z5_ ?_
 simp -implicitDefEqProofs
 refine zj_ kk1 (by simp[rv,rw_,mv,mc]) (by simp[rv,rw_,mv,mc]) ?_
 rintro _ rfl
 simp -implicitDefEqProofs
 refine z5_ ?_
 simp -implicitDefEqProofs
 refine zj_ kf (by simp) (by simp) ?_
 rintro _ rfl
 simp -implicitDefEqProofs [rv,rw_,r0]
theorem oT_{r:RG.Rs}{n i j e:Nat}{s:Int}(h:r.ok n i)(hj:Othr n i j)(he:e<=1073741824)(hc:chk r ⟨.prm,e,s⟩=0) :
 PC Try.prog 13 [rv r,.s (.int .i64 i),.s (.int .i64 n),.s (.int .i64 j),mv ⟨.prm,e,s⟩] (fun x=>x=.tup [rv (RG.promR r i j e).1,.list 19 (ou (RG.promR r i j e).2),.s (.int .i64 0)]):=by
 have kv:=zW_ h
 have kk1:=xV_ r n i j ⟨.prm,e,s⟩ hj he (fun q=>by cases q)
 rw[hc]at kk1
 have kc:=xu_ r (by have:=wR_ h;omega)
 have kp:=rt_ r i j e _ (.inl rfl)
 refine yp_ (q:=fun x=>frT x (.tup [rv (RG.promR r i j e).1,.list 19 (ou (RG.promR r i j e).2),.s (.int .i64 0)])) ?_ fun x hx _=>⟨_,hx,rfl,rfl⟩
 refine zx_ c13b zN_ rfl ?_
 generalize RG.promR r i j e=pp at kp ⊢
 simp -implicitDefEqProofs [a13b,F13,rv,rw_,mv,mc,kk]
 refine z5_ ?_
 simp -implicitDefEqProofs
 refine zj_ kv (by simp[rv,rw_]) (by simp[rv,rw_]) ?_
 rintro _ rfl
 simp -implicitDefEqProofs
 refine z5_ ?_
 simp -implicitDefEqProofs
 refine zj_ kk1 (by simp[rv,rw_,mv,mc,kk]) (by simp[rv,rw_,mv,mc,kk]) ?_
 rintro _ rfl
 simp -implicitDefEqProofs
 refine z5_ ?_
 simp -implicitDefEqProofs
 refine zj_ kc (by simp[rv,rw_]) (by simp[rv,rw_]) ?_
 rintro _ rfl
 simp -implicitDefEqProofs [rw_,ro]
 refine z5_ ?_
 simp -implicitDefEqProofs
 refine zj_ kp (by simp[rw_]) (by simp[rw_]) ?_
 rintro _ rfl
 simp -implicitDefEqProofs [rv,rw_,frT,frAs,frA,frLs,frL,immC]
theorem oY_{r:RG.Rs}{m:RG.Rm}(h:chk r m=0)(hk:m.k≠.prm):m.e=r.ep:=by
 unfold chk at h
 rw[if_neg hk]at h
 apply Classical.byContradiction
 intro q
 rw[if_neg q]at h
 omega
theorem mJ_{r:RG.Rs}{n i j e:Nat}{s:Int}(h:r.ok n i)(hj:Othr n i j)(he:e<=1073741824)(hc:chk r ⟨.prd,e,s⟩=0)(ha:r.ask=false) :
 PC Try.prog 13 [rv r,.s (.int .i64 i),.s (.int .i64 n),.s (.int .i64 j),mv ⟨.prd,e,s⟩] (fun x=>x=.tup [rv r0,.list 19 [],.s (.int .i64 14)]):=by
 have kv:=zW_ h
 have kk1:=xV_ r n i j ⟨.prd,e,s⟩ hj he (fun q=>by cases q)
 rw[hc]at kk1
 have kc:=xu_ r (by have:=wR_ h;omega)
 have kf:=sl_ 14
 clear h
 obtain⟨ep,lo,ak,prom,tk⟩:=r
 simp only at ha
 subst ha
 refine zx_ c13b zN_ rfl ?_
 simp -implicitDefEqProofs [a13b,F13,rv,rw_,mv,mc,kk]
 refine z5_ ?_
 simp -implicitDefEqProofs
 refine zj_ kv (by simp[rv,rw_]) (by simp[rv,rw_]) ?_
 rintro _ rfl
 simp -implicitDefEqProofs
 refine z5_ ?_
 simp -implicitDefEqProofs
 refine zj_ kk1 (by simp[rv,rw_,mv,mc,kk]) (by simp[rv,rw_,mv,mc,kk]) ?_
 rintro _ rfl
 simp -implicitDefEqProofs
 refine z5_ ?_
 simp -implicitDefEqProofs
 refine zj_ kc (by simp[rv,rw_]) (by simp[rv,rw_]) ?_
 rintro _ rfl
 simp -implicitDefEqProofs [rw_,ro]
 refine z5_ ?_
 simp -implicitDefEqProofs
 refine zj_ kf (by simp) (by simp) ?_
 rintro _ rfl
 simp -implicitDefEqProofs [rv,rw_,r0]
theorem mI_{r:RG.Rs}{n i j e:Nat}{s:Int}(h:r.ok n i)(hj:Othr n i j)(he:e<=1073741824)(hc:chk r ⟨.prd,e,s⟩=0)(ha:r.ask=true) :
 PC Try.prog 13 [rv r,.s (.int .i64 i),.s (.int .i64 n),.s (.int .i64 j),mv ⟨.prd,e,s⟩] (fun x=>x=.tup [rv (RG.prdR r j).1,.list 19 (ou (RG.prdR r j).2),.s (.int .i64 0)]):=by
 have kv:=zW_ h
 have kk1:=xV_ r n i j ⟨.prd,e,s⟩ hj he (fun q=>by cases q)
 rw[hc]at kk1
 have hlen:=wR_ h
 have kc:=xu_ r (by omega)
 have hpl:r.prom.length=n:=by
  rcases h.k with ⟨_,h2,_⟩|⟨_,h2,_⟩|⟨_,_,h3,_⟩
  .rw[h2]at ha;cases ha
  .rw[h2]at ha;cases ha
  .exact h3
 have ka:=n1_ (r.prom.set j true) (by simp;omega)
 have km:=qT_ { r with prom:=r.prom.set j true } _ (.inl rfl)
 have hpr:RG.prdR r j=if (r.prom.set j true).all id=true then RG.made { r with prom:=r.prom.set j true } else ({ r with prom:=r.prom.set j true },[]):=rfl
 rw[hpr]
 clear h hpr
 have hjl:j<r.prom.length:=by have:=hj.2.1;omega
 have j0:¬(j:Int)<0:=by omega
 obtain⟨ep,lo,ak,prom,tk⟩:=r
 simp only at ha hjl ka km hpl
 subst ha
 have gt:=sQ_ hjl
 generalize RG.made ⟨ep,lo,true,prom.set j true,tk⟩=mm at km ⊢
 cases hall:(prom.set j true).all id
 .rw[hall]at ka
  rw[if_neg (by simp)]
  refine yp_ (q:=fun x=>frT x (.tup [rv ⟨ep,lo,true,prom.set j true,tk⟩,.list 19 (ou []),.s (.int .i64 0)])) ?_ fun x hx _=>⟨_,hx,rfl,rfl⟩
  refine zx_ c13b zN_ rfl ?_
  simp -implicitDefEqProofs [a13b,F13,rv,rw_,mv,mc,kk]
  refine z5_ ?_
  simp -implicitDefEqProofs
  refine zj_ kv (by simp[rv,rw_]) (by simp[rv,rw_]) ?_
  rintro _ rfl
  simp -implicitDefEqProofs
  refine z5_ ?_
  simp -implicitDefEqProofs
  refine zj_ kk1 (by simp[rv,rw_,mv,mc,kk]) (by simp[rv,rw_,mv,mc,kk]) ?_
  rintro _ rfl
  simp -implicitDefEqProofs
  refine z5_ ?_
  simp -implicitDefEqProofs
  refine zj_ kc (by simp[rv,rw_]) (by simp[rv,rw_]) ?_
  rintro _ rfl
  simp -implicitDefEqProofs [rw_,ro,j0,hjl,gt,qU_]
  refine z5_ ?_
  simp -implicitDefEqProofs
  refine zj_ ka (by simp) (by simp) ?_
  rintro _ rfl
  simp -implicitDefEqProofs [rw_,rv,ou,frT,frAs,frA,frLs,frL,immC]
 .rw[hall]at ka
  rw[if_pos rfl]
  refine yp_ (q:=fun x=>frT x (.tup [rv mm.1,.list 19 (ou mm.2),.s (.int .i64 0)])) ?_ fun x hx _=>⟨_,hx,rfl,rfl⟩
  refine zx_ c13b zN_ rfl ?_
  simp -implicitDefEqProofs [a13b,F13,rv,rw_,mv,mc,kk]
  refine z5_ ?_
  simp -implicitDefEqProofs
  refine zj_ kv (by simp[rv,rw_]) (by simp[rv,rw_]) ?_
  rintro _ rfl
  simp -implicitDefEqProofs
  refine z5_ ?_
  simp -implicitDefEqProofs
  refine zj_ kk1 (by simp[rv,rw_,mv,mc,kk]) (by simp[rv,rw_,mv,mc,kk]) ?_
  rintro _ rfl
  simp -implicitDefEqProofs
  refine z5_ ?_
  simp -implicitDefEqProofs
  refine zj_ kc (by simp[rv,rw_]) (by simp[rv,rw_]) ?_
  rintro _ rfl
  simp -implicitDefEqProofs [rw_,ro,j0,hjl,gt,qU_]
  refine z5_ ?_
  simp -implicitDefEqProofs
  refine zj_ ka (by simp) (by simp) ?_
  rintro _ rfl
  simp -implicitDefEqProofs
  refine z5_ ?_
  simp -implicitDefEqProofs
  refine zj_ km (by simp[rw_]) (by simp[rw_]) ?_
  rintro _ rfl
  simp -implicitDefEqProofs [rv,rw_,frT,frAs,frA,frLs,frL,immC]
theorem mH_{r:RG.Rs}{n i j:Nat}{m:RG.Rm}(h:r.ok n i)(hj:Othr n i j)(he:m.e<=1073741824)(hk:m.k=.tok\/m.k=.req)(hr:m.k=.req->Othr n i m.s)(hc:chk r m=0)(hl:r.lost=true) :
 PC Try.prog 13 [rv r,.s (.int .i64 i),.s (.int .i64 n),.s (.int .i64 j),mv m] (fun x=>x=.tup [rv r0,.list 19 [],.s (.int .i64 19)]):=by
 have kv:=zW_ h
 have kk1:=xV_ r n i j m hj he hr
 rw[hc]at kk1
 have kc:=xu_ r (by have:=wR_ h;omega)
 have kf:=sl_ 19
 have ha:r.ask=false:=by
  rcases h.k with ⟨_,h2,_⟩|⟨h2,_⟩|⟨h2,_⟩
  .exact h2
  .rw[hl]at h2;cases h2
  .rw[hl]at h2;cases h2
 clear h hr
 obtain⟨ep,lo,ak,prom,tk⟩:=r
 obtain⟨k,e,s⟩:=m
 simp only at ha hl hk
 subst ha hl
 refine zx_ c13b zN_ rfl ?_
 rcases hk with rfl|rfl
 all_goals
  simp -implicitDefEqProofs [a13b,F13,rv,rw_,mv,mc,kk]
  refine z5_ ?_
  simp -implicitDefEqProofs
  refine zj_ kv (by simp[rv,rw_]) (by simp[rv,rw_]) ?_
  rintro _ rfl
  simp -implicitDefEqProofs
  refine z5_ ?_
  simp -implicitDefEqProofs
  refine zj_ kk1 (by simp[rv,rw_,mv,mc,kk]) (by simp[rv,rw_,mv,mc,kk]) ?_
  rintro _ rfl
  simp -implicitDefEqProofs
  refine z5_ ?_
  simp -implicitDefEqProofs
  refine zj_ kc (by simp[rv,rw_]) (by simp[rv,rw_]) ?_
  rintro _ rfl
  simp -implicitDefEqProofs [rw_,ro]
  refine z5_ ?_
  simp -implicitDefEqProofs
  refine zj_ kf (by simp) (by simp) ?_
  rintro _ rfl
  simp -implicitDefEqProofs [rv,rw_,r0]
theorem mG_{r:RG.Rs}{n i j:Nat}{m:RG.Rm}(h:r.ok n i)(hj:Othr n i j)(hk:m.k=.tok\/m.k=.req)(hr:m.k=.req->Othr n i m.s)(hs:m.k=.tok->m.s=0)(hc:chk r m=0)(hl:r.lost=false)(ht:m.k=.tok->r.ask=false/\r.tk.want=true) :
 PC Try.prog 13 [rv r,.s (.int .i64 i),.s (.int .i64 n),.s (.int .i64 j),mv m] (fun x=>x=.tup [rv (xX_ r (msOf i m)).1,.list 19 (ou (xX_ r (msOf i m)).2),.s (.int .i64 0)]):=by
 have hep:m.e=r.ep:=oY_ hc (by rcases hk with q|q<;>rw[q]<;>simp)
 have kv:=zW_ h
 have kk1:=xV_ r n i j m hj (by have:=h.e;omega) hr
 rw[hc]at kk1
 have kc:=xu_ r (by have:=wR_ h;omega)
 have kp:=nt_ r n i (msOf i m) hl h.e (by
  rcases h.k with ⟨h2,_⟩|⟨_,h2,_,h3⟩|⟨_,h2,_,_,_,h3⟩
  .rw[hl]at h2;cases h2
  .rw[if_neg (by rw[h2];simp)];exact h3
  .rw[if_pos h2];exact h3) (fun q=>ht (by simpa[msOf] using q)) (fun q=>by
   have hk':m.k=.req:=by
    rcases hk with z|z
    .simp[msOf,z]at q
    .exact z
   have:=hr hk'
   simpa[msOf,hk'] using this)
 rw[<-hep,ny_ i hk hs]at kp
 generalize xX_ r (msOf i m)=pp at kp ⊢
 refine yp_ (q:=fun x=>frT x (.tup [rv pp.1,.list 19 (ou pp.2),.s (.int .i64 0)])) ?_ fun x hx _=>⟨_,hx,rfl,rfl⟩
 clear h hr hs hep
 obtain⟨ep,lo,ak,prom,tk⟩:=r
 obtain⟨k,e,s⟩:=m
 simp only at hl hk ht
 subst hl
 refine zx_ c13b zN_ rfl ?_
 rcases hk with rfl|rfl
 .have ha:=(ht rfl).1
  subst ha
  simp -implicitDefEqProofs [a13b,F13,rv,rw_,mv,mc,kk]
  refine z5_ ?_
  simp -implicitDefEqProofs
  refine zj_ kv (by simp[rv,rw_]) (by simp[rv,rw_]) ?_
  rintro _ rfl
  simp -implicitDefEqProofs
  refine z5_ ?_
  simp -implicitDefEqProofs
  refine zj_ kk1 (by simp[rv,rw_,mv,mc,kk]) (by simp[rv,rw_,mv,mc,kk]) ?_
  rintro _ rfl
  simp -implicitDefEqProofs
  refine z5_ ?_
  simp -implicitDefEqProofs
  refine zj_ kc (by simp[rv,rw_]) (by simp[rv,rw_]) ?_
  rintro _ rfl
  simp -implicitDefEqProofs [rw_,ro]
  refine z5_ ?_
  simp -implicitDefEqProofs
  refine zj_ kp (by simp[rv,rw_,mv,mc,kk]) (by simp[rv,rw_,mv,mc,kk]) ?_
  rintro _ rfl
  simp -implicitDefEqProofs [rv,rw_,frT,frAs,frA,frLs,frL,immC]
 .simp -implicitDefEqProofs [a13b,F13,rv,rw_,mv,mc,kk]
  refine z5_ ?_
  simp -implicitDefEqProofs
  refine zj_ kv (by simp[rv,rw_]) (by simp[rv,rw_]) ?_
  rintro _ rfl
  simp -implicitDefEqProofs
  refine z5_ ?_
  simp -implicitDefEqProofs
  refine zj_ kk1 (by simp[rv,rw_,mv,mc,kk]) (by simp[rv,rw_,mv,mc,kk]) ?_
  rintro _ rfl
  simp -implicitDefEqProofs
  refine z5_ ?_
  simp -implicitDefEqProofs
  refine zj_ kc (by simp[rv,rw_]) (by simp[rv,rw_]) ?_
  rintro _ rfl
  simp -implicitDefEqProofs [rw_,ro]
  refine z5_ ?_
  simp -implicitDefEqProofs
  refine zj_ kp (by simp[rv,rw_,mv,mc,kk]) (by simp[rv,rw_,mv,mc,kk]) ?_
  rintro _ rfl
  simp -implicitDefEqProofs [rv,rw_,frT,frAs,frA,frLs,frL,immC]
theorem uM_{r:RG.Rs}{n i j:Nat}{m:RG.Rm}(h:r.ok n i)(hj:Othr n i j)(he:m.e<=1073741824)(hs:m.k=.tok->m.s=0)(hr:m.k=.req->Othr n i m.s)
 (ht:m.k=.tok->m.e=r.ep->r.ask=false/\(r.lost=false->r.tk.want=true)) :
 PC Try.prog 13 [rv r,.s (.int .i64 i),.s (.int .i64 n),.s (.int .i64 j),mv m] (fun x=>x=xq_ r i j m):=by
 rcases(mU_ r m).symm with hc|hc
 .have:=oU_ h hj he hr hc
  rw[rE_ hc]
  exact this
 have hcn:¬chk r m=18:=by omega
 by_cases hk:m.k=.prm
 .obtain⟨k,e,s⟩:=m
  simp only at hk
  subst hk
  have h1:=oT_ h hj he hc
  have h2:¬e<=r.ep:=fun q=>by unfold chk at hc;simp[q]at hc
  have e1:xq_ r i j ⟨.prm,e,s⟩=.tup [rv (RG.promR r i j e).1,.list 19 (ou (RG.promR r i j e).2),.s (.int .i64 0)]:=by
   unfold xq_ RG.hearR
   simp only
   rw[if_neg h2]
  rw[e1]
  exact h1
 .have hep:=oY_ hc hk
  by_cases hp:m.k=.prd
  .obtain⟨k,e,s⟩:=m
   simp only at hp hep
   subst hp hep
   cases ha:r.ask with
   | false =>
     have h1:=mJ_ h hj he hc ha
     have e1:xq_ r i j ⟨.prd,r.ep,s⟩=.tup [rv r0,.list 19 [],.s (.int .i64 14)]:=by
      unfold xq_ RG.hearR
      simp only
      rw[if_pos (.inr ha)]
      simp only
      unfold hErr
      rw[if_neg hcn,if_pos rfl]
     rw[e1]
     exact h1
   | true =>
     have h1:=mI_ h hj he hc ha
     have e1:xq_ r i j ⟨.prd,r.ep,s⟩=.tup [rv (RG.prdR r j).1,.list 19 (ou (RG.prdR r j).2),.s (.int .i64 0)]:=by
      unfold xq_ RG.hearR
      simp only
      rw[if_neg (by rw[ha];simp)]
     rw[e1]
     exact h1
  ·have hk2:m.k=.tok∨m.k=.req:=by
    obtain⟨k,e,s⟩:=m
    cases k with
    |prm=>exact absurd rfl hk
    |prd=>exact absurd rfl hp
    |tok=>exact .inl rfl
    |req=>exact .inr rfl
   cases hl:r.lost with
   | true =>
     have h1:=mH_ h hj he hk2 hr hc hl
     have e1:xq_ r i j m=.tup [rv r0,.list 19 [],.s (.int .i64 19)]:=by
      have:RG.hearR r i j m=none:=by
       unfold RG.hearR
       rcases hk2 with q|q
       .rw[q]
        simp only
        rw[if_pos (.inr (.inr (.inl hl)))]
       .rw[q]
        simp only
        rw[if_pos (.inr hl)]
      unfold xq_
      rw[this]
      simp only
      unfold hErr
      rw[if_neg hcn,if_neg hp]
     rw[e1]
     exact h1
   | false =>
     have ht':m.k=.tok->r.ask=false/\r.tk.want=true:=fun q=>⟨(ht q hep).1,(ht q hep).2 hl⟩
     have h1:=mG_ h hj hk2 hr hs hc hl ht'
     have e1:xq_ r i j m=.tup [rv (xX_ r (msOf i m)).1,.list 19 (ou (xX_ r (msOf i m)).2),.s (.int .i64 0)]:=by
      have:RG.hearR r i j m=some (xX_ r (msOf i m)):=by
       unfold RG.hearR
       rcases hk2 with q|q
       .obtain⟨a1,a2⟩:=ht' q
        rw[q]
        simp only
        rw[if_neg (by rw[a1,a2,hl,hep];simp)]
        unfold xX_ msOf
        rw[if_neg (by rw[a1];simp),q]
        rfl
       .rw[q]
        simp only
        rw[if_neg (by rw[hl,hep];simp)]
        unfold xX_ msOf
        rw[q]
        cases ha:r.ask<;>rfl
      unfold xq_
      rw[this]
     rw[e1]
     exact h1
theorem yy_:∀(vs:List Value) (o:Nat) (w:World) (k:Nat) (cur:Array Value) (e:TypeId),w.heap[k]?=some (.cells cur e (0,0))->o+vs.length<=cur.size ->
 ∃cur',(w.setCells k o vs).heap[k]?=some (.cells cur' e (0,0))/\cur'.size=cur.size/\cur'.toList=cur.toList.take o++vs++cur.toList.drop (o+vs.length)
 |[],o,w,k,cur,e,h,_=>⟨cur,h,rfl,by simp⟩
 | v :: r, o, w, k, cur, e, h, hf => by
   have h1:(w.setCell ⟨k,o,none⟩ v).heap[k]?=some (.cells (cur.setIfInBounds o v) e (0,0)):=by
    simp[World.setCell,yyu_,h]
   obtain⟨cur',h2,h3,h4⟩:=yy_ r (o+1) (w.setCell ⟨k,o,none⟩ v) k _ e h1 (by simp at hf ⊢;omega)
   refine⟨cur',by rw[World.setCells];exact h2,by simpa using h3,?_⟩
   rw[h4]
   simp only[List.length_cons]at hf
   have hl:o<cur.toList.length:=by simp;omega
   simp only[Array.toList_setIfInBounds]
   have e1:(cur.toList.set o v).take (o+1)=cur.toList.take o++[v]:=by
    rw[List.take_add_one,List.getElem?_set_self hl,List.take_set]
    rw[List.set_eq_of_length_le (by simp;omega)]
    rfl
   have e2:(cur.toList.set o v).drop (o+1+r.length)=cur.toList.drop (o+1+r.length):=List.drop_set_of_lt (by omega)
   rw[e1,e2]
   simp[Nat.add_assoc,Nat.add_comm 1]
theorem ys_{vs:List Value}{o:Nat}{w:World}{k j:Nat}(hj:j<w.heap.size)(h:j≠k):(w.setCells k o vs).heap[j]?=w.heap[j]?:=World.heap_setCells_other w k o vs hj h
theorem no_{k j n cap:Nat}(h:rb (.slice (some ⟨k,0,none⟩) n cap)=some j):j=k:=by
 simp[rb]at h
 exact h.2.symm
theorem zG_(k:Nat):∀(vs:List Value) (o:Nat) (W:World),(W.setCells k o vs).os=W.os/\(W.setCells k o vs).tape=W.tape/\(W.setCells k o vs).output=W.output
 |[],_,_=>⟨rfl,rfl,rfl⟩
 | v :: r, o, W => by
   rw[World.setCells]
   exact zG_ k r (o+1) (W.setCell ⟨k,o,none⟩ v)
theorem vz_{α:Type}{z:Nat}{f:α->List Value}(hf:∀x,(f x).length=z):∀(l:List α) (i:Nat) (h:i<l.length) (j:Nat),j<z->(l.flatMap f)[i*z+j]?=(f l[i])[j]?
 |[],i,h,_,_=>by simp at h
 | x :: r, 0, _, j, hj => by
   rw[List.flatMap_cons,Nat.zero_mul,Nat.zero_add,zzo_ (by rw[hf];exact hj)]
   rfl
 | x :: r, i + 1, h, j, hj => by
   have:=vz_ hf r i (by simpa using h) j hj
   rw[List.flatMap_cons,zzv_ (by rw[hf,yyn_];omega),hf,<-List.getElem_cons_succ x r i h] at *
   rw[show (i+1)*z+j-z=i*z+j by rw[yyn_];omega]
   exact this
theorem uA_{α:Type}{z:Nat}{f:α->List Value}(hf:∀x,(f x).length=z)(l:List α):(l.flatMap f).length=l.length*z:=by
 induction l with
 |nil=>simp
 |cons x r ih=>rw[List.flatMap_cons,zzr_,hf,ih,List.length_cons,yyn_];omega
def fv(l:List RG.Rm):List Value:=l.flatMap fun m=>mc (kk m.k) m.e m.s
theorem oW_(l:List RG.Rm):(fv l).length=l.length*18:=uA_ (z:=18) (f:=fun m:RG.Rm=>mc (kk m.k) m.e m.s) (fun _=>rfl) l
theorem tA_(a b:List RG.Rm):fv (a++b)=fv a++fv b:=by simp[fv]
theorem mN_(l:List RG.Rm):∀v∈fv l,v.oneCell'=true:=by
 intro v hv
 simp only[fv,List.mem_flatMap]at hv
 obtain⟨s,_,h⟩:=hv
 exact w5_ _ _ _ v h
theorem mO_(l:List RG.Rm)(i:Nat)(h:i<l.length)(j:Nat)(hj:j<18):(fv l)[i*18+j]?=(mc (kk l[i].k) l[i].e l[i].s)[j]?:=vz_ (f:=fun m:RG.Rm=>mc (kk m.k) m.e m.s) (fun _=>rfl) l i h j hj
def gv(l:RG.Out):List Value:=l.flatMap fun p=>pc p.1 (kk p.2.k) p.2.e p.2.s
theorem mK_(l:RG.Out):(gv l).length=l.length*19:=uA_ (z:=19) (f:=fun p:Int×RG.Rm=>pc p.1 (kk p.2.k) p.2.e p.2.s) (fun _=>rfl) l
theorem mL_(l:RG.Out)(i:Nat)(h:i<l.length)(j:Nat)(hj:j<19):(gv l)[i*19+j]?=(pc l[i].1 (kk l[i].2.k) l[i].2.e l[i].2.s)[j]?:=vz_ (f:=fun p:Int×RG.Rm=>pc p.1 (kk p.2.k) p.2.e p.2.s) (fun _=>rfl) l i h j hj
theorem si_:∀(l:RG.Out),flat (ou l)=(gv l).map .s
 |[]=>rfl
 | x :: r => by
   have:=si_ r
   simp only[ou,List.map_cons,flat,gv,List.flatMap_cons,List.map_append]at this ⊢
   rw[this]
   rfl
section
theorem xw_{P:Program}{f:Nat}{args:List V}{q:V->Prop}(h:PC P f args q){g:Gh}{w:World}{vals:Array Value}(hl:args.length=vals.size)(hi:∀x∈args,immA x=true)
 (hr:∀(i:Nat) (x:V) (v:Value),args[i]?=some x->vals[i]?=some v->Rep g w x v) (hlt:∀k,0<g.I k->k<w.heap.size) :
 Calls P f vals w fun e w'=>∃v r g',e=.returned v/\q r/\Rep g' w' r v/\Below w.heap.size w w'/\(∀k,k<w.heap.size->g'.I k=g.I k)/\∀k,0<g'.I k->k<w'.heap.size:=by
 obtain⟨hb,ho⟩:=tR_ (g:=g) (w:=w) hl hi hr hlt
 refine(h g w vals hb).mono ?_
 rintro e w' ⟨v,r,bs',g',rfl,⟨rfl,hq⟩,hok,hbd,hx⟩
 have hv:z8_ (Frn 1) g' w' ⟨#[v],[]⟩ (.var 0)=some v:=by simp[z8_,Frn,Act.tv]
 exact⟨v,r,g',rfl,hq,hbd.rep (.l (.var 0)) r v ⟨rfl,hv⟩,⟨hx.os,hx.tape,hx.output,hx.size,fun k hk=>(hx.same k hk (ho k)).1⟩,fun k hk=>(hx.same k hk (ho k)).2,hbd.Ilt⟩
def sc(r:RG.Rs):List V:=rw_ r (.list 1 (lv r.prom))
def MBx(w:World)(v:Value)(l:List RG.Rm):Prop:=(l=[]/\∃A,v=.slice A 0 0) \/
 ∃k off cap cur,v=.slice (some ⟨k,off,none⟩) l.length cap/\0<cap/\l.length<=cap/\cap<=maxLen/\w.heap[k]?=some (.cells cur 57 (0,0))/\off+cap*18<=cur.size/\∀(p:Nat) (u:Value),(fv l)[p]?=some u->cur[off+p]?=some u
structure Hd where
 bk:Nat
 bc:Nat
 ub:Nat
 uc:Nat
 mb:Nat
 mc:Nat
 rk:Nat->Nat
 rc:Nat->Nat
 mv:Nat->Nat->Value
structure Tag(X n:Nat)(h:Hd)(T:Nat->Nat):Prop where
 x:T X=1
 b:T h.bk=2
 u:T h.ub=50
 m:T h.mb=3
 r:∀i,i<n->T (h.rk i)=4+i
 v:∀i j k,i<n->j<n->rb (h.mv i j)=some k->T k=100+16*i+j
structure Net(T:Nat->Nat)(g:Gh)(w:World)(X n:Nat)(R:Nat->RG.Rs)(U:Nat->Bool)(M:Nat->Nat->List RG.Rm)(h:Hd):Prop where
 n9:n<=4
 Ilt:∀k,0<g.I k->k<w.heap.size
 tag:Tag X n h T
 tz:∀k,T k≠0->k<w.heap.size/\g.I k=0
 hX:w.heap[X]?=some (.cells #[.slice (some ⟨h.bk,0,none⟩) n h.bc,.slice (some ⟨h.ub,0,none⟩) n h.uc,.slice (some ⟨h.mb,0,none⟩) n h.mc] 33 (0,0))
 bcn:n<=h.bc/\h.bc<=maxLen
 mcn:n<=h.mc/\h.mc<=maxLen
 rcn:∀i,i<n->n<=h.rc i/\h.rc i<=maxLen
 bb:∃cur,w.heap[h.bk]?=some (.cells cur 37 (0,0))/\cur.size=h.bc*9/\∀i,i<n->∀(j:Nat) (u:V),(sc (R i))[j]?=some u->∃c,cur[i*9+j]?=some c/\c.oneCell'=true/\Rep g w u c
 uu:∃cur,w.heap[h.ub]?=some (.cells cur 4 (0,0))/\∀i,i<n->cur[i]?=some (.bool (U i))
 mm:∃cur,w.heap[h.mb]?=some (.cells cur 66 (0,0))/\∀i,i<n->cur[i]?=some (.slice (some ⟨h.rk i,0,none⟩) n (h.rc i))
 rr:∀i,i<n->∃cur,w.heap[h.rk i]?=some (.cells cur 58 (0,0))/\∀j,j<n->cur[j]?=some (h.mv i j)
 vv:∀i j,i<n->j<n->MBx w (h.mv i j) (M i j)
section
variable{T:Nat->Nat}{g g':Gh}{w w':World}{X n:Nat}{R:Nat->RG.Rs}{U:Nat->Bool}{M:Nat->Nat->List RG.Rm}{h:Hd}
theorem wU_(r:RG.Rs):∀u∈sc r,immC u=true:=by
 intro u hu
 simp only[sc,rw_,List.mem_cons,List.not_mem_nil,or_false]at hu
 rcases hu with rfl|rfl|rfl|rfl|rfl|rfl|rfl|rfl|rfl<;>rfl
theorem zO_{u:V}{v:Value}(h:Rep g w u v)(hi:immC u=true)(hI:∀b o,o<g.I b->o<g'.I b/\w'.cell? ⟨b,o,none⟩=w.cell? ⟨b,o,none⟩):Rep g' w' u v:=by
 refine h.keep hI (fun p k ⟨e,z,xs,_,q1,_⟩=>?_) fun p b o hs=>?_
 .obtain⟨_,q⟩:=xp_ hi q1
  subst q
  simp[immC]at hi
 .obtain⟨_,q⟩:=xp_ hi hs
  subst q
  simp[immC]at hi
theorem MBx.keep{v:Value}{l:List RG.Rm}(hm:MBx w v l)(hk:∀k,rb v=some k->w'.heap[k]?=w.heap[k]?):MBx w' v l:=by
 rcases hm with hm|⟨k,off,cap,cur,rfl,h1,h2,h3,h4,h5⟩
 .exact .inl hm
 .exact .inr ⟨k,off,cap,cur,rfl,h1,h2,h3,(hk k (by simp[rb];omega)).trans h4,h5⟩
theorem Net.vt(hn:Net T g w X n R U M h){i j k:Nat}(hi:i<n)(hj:j<n)(hk:rb (h.mv i j)=some k):k<w.heap.size/\g.I k=0:=hn.tz k (by rw[hn.tag.v i j k hi hj hk];omega)
theorem Net.grow(hn:Net T g w X n R U M h)(hs:w.heap.size<=w'.heap.size)(hb:∀k,k<w.heap.size->w'.heap[k]?=w.heap[k]?)(hg:∀k,k<w.heap.size->g'.I k=g.I k)(hlt:∀k,0<g'.I k->k<w'.heap.size):Net T g' w' X n R U M h:=by
 have hI:∀b o,o<g.I b->o<g'.I b/\w'.cell? ⟨b,o,none⟩=w.cell? ⟨b,o,none⟩:=fun b o ho=>by
  have hl:=hn.Ilt b (by omega)
  exact⟨by rw[hg b hl];exact ho,yyb_ (a:=⟨b,o,none⟩) (hb b hl)⟩
 have hT:∀k,T k≠0->w'.heap[k]?=w.heap[k]?:=fun k hk=>hb k (hn.tz k hk).1
 refine⟨hn.n9,hlt,hn.tag,fun k hk=>⟨zzk_ (hn.tz k hk).1 hs,by rw[hg k (hn.tz k hk).1];exact(hn.tz k hk).2⟩,(hT X (by rw[hn.tag.x];omega)).trans hn.hX,hn.bcn,hn.mcn,hn.rcn,?_,?_,?_,fun i hi=>?_,fun i j hi hj=>?_⟩
 .obtain⟨cur,h1,h2,h3⟩:=hn.bb
  refine⟨cur,(hT _ (by rw[hn.tag.b];omega)).trans h1,h2,fun i hi j u hu=>?_⟩
  obtain⟨c,q1,q2,q3⟩:=h3 i hi j u hu
  exact⟨c,q1,q2,zO_ q3 (wU_ _ u (zzd_ hu)) hI⟩
 .obtain⟨cur,h1,h2⟩:=hn.uu
  exact⟨cur,(hT _ (by rw[hn.tag.u];omega)).trans h1,h2⟩
 .obtain⟨cur,h1,h2⟩:=hn.mm
  exact⟨cur,(hT _ (by rw[hn.tag.m];omega)).trans h1,h2⟩
 .obtain⟨cur,h1,h2⟩:=hn.rr i hi
  exact⟨cur,(hT _ (by rw[hn.tag.r i hi];omega)).trans h1,h2⟩
 .exact(hn.vv i j hi hj).keep fun k hk=>hb k (hn.vt hi hj hk).1
theorem Net.below(hn:Net T g w X n R U M h)(hb:Below w.heap.size w w'):Net T g w' X n R U M h:=hn.grow hb.size hb.block (fun _ _=>rfl) fun k hk=>zzk_ (hn.Ilt k hk) hb.size
end
section
variable{T:Nat->Nat}{g g':Gh}{w w':World}{X n:Nat}{R:Nat->RG.Rs}{U:Nat->Bool}{M:Nat->Nat->List RG.Rm}{h:Hd}
theorem Net.setB(hn:Net T g w X n R U M h){i:Nat}(hi:i<n){b:RG.Rs}{vs:List Value}(hl:vs.length=9)(h1:∀v∈vs,v.oneCell'=true)(hr:∀(j:Nat) (u:V) (c:Value),(sc b)[j]?=some u->vs[j]?=some c->Rep g w u c) :
 Net T g (w.setCells h.bk (i*9) vs) X n (RG.updR R i b) U M h/\(w.setCells h.bk (i*9) vs).heap.size=w.heap.size/\∀k,k<w.heap.size->k≠h.bk->(w.setCells h.bk (i*9) vs).heap[k]?=w.heap[k]?:=by
 obtain⟨cur,c1,c2,c3⟩:=hn.bb
 have hsz:∀vs o (W:World),(W.setCells h.bk o vs).heap.size=W.heap.size:=fun vs=>by
  induction vs with
  |nil=>intro o W;rfl
  |cons v r ih=>intro o W;rw[World.setCells,ih];simp[World.setCell]
 have hoth:∀k,k<w.heap.size->k≠h.bk->(w.setCells h.bk (i*9) vs).heap[k]?=w.heap[k]?:=fun k hk hne=>ys_ hk hne
 obtain⟨cur',d1,d2,d3⟩:=yy_ vs (i*9) w h.bk cur 37 c1 (by rw[hl,c2];have:=hn.bcn;omega)
 have hbI:g.I h.bk=0:=(hn.tz _ (by rw[hn.tag.b];omega)).2
 have hI:∀b o,o<g.I b->o<g.I b/\(w.setCells h.bk (i*9) vs).cell? ⟨b,o,none⟩=w.cell? ⟨b,o,none⟩:=fun b o ho=>by
  refine⟨ho,yyb_ (a:=⟨b,o,none⟩) (hoth b (hn.Ilt b (by omega)) ?_)⟩
  rintro rfl
  omega
 have hT:∀k,T k≠0->T k≠2->(w.setCells h.bk (i*9) vs).heap[k]?=w.heap[k]?:=fun k h0 h2=>hoth k (hn.tz k h0).1 (by rintro rfl;exact h2 hn.tag.b)
 refine⟨⟨hn.n9,fun k hk=>by rw[hsz];exact hn.Ilt k hk,hn.tag,fun k hk=>by rw[hsz];exact hn.tz k hk,(hT X (by rw[hn.tag.x];omega) (by rw[hn.tag.x];omega)).trans hn.hX,hn.bcn,hn.mcn,hn.rcn,?_,?_,?_,fun i hi=>?_,fun i j hi hj=>?_⟩,hsz _ _ _,hoth⟩
 .refine⟨cur',d1,d2.trans c2,fun i' hi' j u hu=>?_⟩
  have hj:j<9:=by
   have:=(zzc_.1 hu).1
   simpa[sc,rw_] using this
  have hcl:cur.toList.length=h.bc*9:=by simpa using c2
  have hbc:=hn.bcn
  by_cases he:i'=i
  .subst he
   rw[RG.updR_s]at hu
   have hv:vs[j]?=some (vs[j]'(by omega)):=zzf_ _
   refine⟨vs[j]'(by omega),?_,h1 _ (yyp_ _),zO_ (hr j u _ hu hv) (wU_ _ u (zzd_ hu)) hI⟩
   rw[<-Array.getElem?_toList,d3,zzq_,zzv_ (by simp;omega),zzo_ (by simp;omega)]
   rw[show i'*9+j-(cur.toList.take (i'*9)).length=j by rw[List.length_take];omega]
   exact hv
  .rw[RG.updR_ne he]at hu
   obtain⟨c,q1,q2,q3⟩:=c3 i' hi' j u hu
   refine⟨c,?_,q2,zO_ q3 (wU_ _ u (zzd_ hu)) hI⟩
   rw[<-Array.getElem?_toList]at q1 ⊢
   rw[d3]
   rcases Nat.lt_or_gt_of_ne he with hlt|hgt
   .rw[zzq_,zzo_ (by simp;omega),zzu_,if_pos (by omega)]
    exact q1
   .rw[zzv_ (by simp;omega),zzA_]
    rw[show i*9+vs.length+(i'*9+j-(cur.toList.take (i*9)++vs).length)=i'*9+j by simp;omega]
    exact q1
 .obtain⟨cur,h1,h2⟩:=hn.uu
  exact⟨cur,(hT _ (by rw[hn.tag.u];omega) (by rw[hn.tag.u];omega)).trans h1,h2⟩
 .obtain⟨cur,h1,h2⟩:=hn.mm
  exact⟨cur,(hT _ (by rw[hn.tag.m];omega) (by rw[hn.tag.m];omega)).trans h1,h2⟩
 .obtain⟨cur,h1,h2⟩:=hn.rr i hi
  exact⟨cur,(hT _ (by rw[hn.tag.r i hi];omega) (by rw[hn.tag.r i hi];omega)).trans h1,h2⟩
 .exact(hn.vv i j hi hj).keep fun k hk=>hT k (by rw[hn.tag.v i j k hi hj hk];omega) (by rw[hn.tag.v i j k hi hj hk];omega)
end
end
section
def updM(M:Nat->Nat->List RG.Rm)(i j:Nat)(l:List RG.Rm)(a b:Nat):List RG.Rm:=if a=i/\b=j then l else M a b
def Hd.put(h:Hd)(i j:Nat)(v:Value):Hd:={ h with mv:=fun a b=>if a=i/\b=j then v else h.mv a b }
def putT(T:Nat->Nat)(i j:Nat)(v:Value)(k:Nat):Nat:=if rb v=some k then 100+16*i+j else T k
section
variable{T:Nat->Nat}{g:Gh}{w w1:World}{X n:Nat}{R:Nat->RG.Rs}{U:Nat->Bool}{M:Nat->Nat->List RG.Rm}{h:Hd}
theorem Net.setV(hn:Net T g w X n R U M h){i j:Nat}(hi:i<n)(hj:j<n){v':Value}{l':List RG.Rm}(hs:w.heap.size<=w1.heap.size)(hsame:∀k,k<w.heap.size->rb (h.mv i j)≠some k->w1.heap[k]?=w.heap[k]?)
 (hm:MBx w1 v' l') (hv:∀k,rb v'=some k->(rb (h.mv i j)=some k\/w.heap.size<=k)/\k<w1.heap.size) :
 Net (putT T i j v') g (w1.setCell ⟨h.rk i,j,none⟩ v') X n R U (updM M i j l') (h.put i j v')/\(w1.setCell ⟨h.rk i,j,none⟩ v').heap.size=w1.heap.size/\(∀k,k<w1.heap.size->k≠h.rk i->(w1.setCell ⟨h.rk i,j,none⟩ v').heap[k]?=w1.heap[k]?):=by
 have n9:=hn.n9
 have hT0:∀k,T k≠0->k<w.heap.size:=fun k hk=>(hn.tz k hk).1
 have htv:∀k,rb (h.mv i j)=some k->T k=100+16*i+j:=fun k hk=>hn.tag.v i j k hi hj hk
 have hTs:∀k,T k≠0->T k≠100+16*i+j->w1.heap[k]?=w.heap[k]?:=fun k h0 h1=>hsame k (hT0 k h0) fun e=>h1 (htv k e)
 have hTput:∀k,T k≠0->putT T i j v' k=T k:=fun k h0=>by
  unfold putT
  split
  .next e =>
   rcases(hv k e).1 with e'|e'
   .exact(htv k e').symm
   .have:=hT0 k h0;omega
  .rfl
 obtain⟨cr,r1,r2⟩:=hn.rr i hi
 have hTr:=hn.tag.r i hi
 have hr1:w1.heap[h.rk i]?=some (.cells cr 58 (0,0)):=(hTs _ (by omega) (by omega)).trans r1
 have hrj:j<cr.size:=by
  have:=r2 j hj
  exact(zzm_.1 this).1
 have hset:(w1.setCell ⟨h.rk i,j,none⟩ v').heap[h.rk i]?=some (.cells (cr.setIfInBounds j v') 58 (0,0)):=by
  simp[World.setCell,yyu_,hr1]
 have hoth:∀k,k≠h.rk i->(w1.setCell ⟨h.rk i,j,none⟩ v').heap[k]?=w1.heap[k]?:=fun k hk=>by
  simp[World.setCell,yyu_,Ne.symm hk]
 have hsz:(w1.setCell ⟨h.rk i,j,none⟩ v').heap.size=w1.heap.size:=by simp[World.setCell]
 have hrI:g.I (h.rk i)=0:=(hn.tz _ (by omega)).2
 have hIv:∀k,rb (h.mv i j)=some k->g.I k=0:=fun k hk=>(hn.vt hi hj hk).2
 have hI:∀b o,o<g.I b->o<g.I b/\(w1.setCell ⟨h.rk i,j,none⟩ v').cell? ⟨b,o,none⟩=w.cell? ⟨b,o,none⟩:=fun b o ho=>by
  refine⟨ho,yyb_ (a:=⟨b,o,none⟩) ?_⟩
  rw[hoth b (by rintro rfl;omega)]
  exact hsame b (hn.Ilt b (by omega)) fun e=>by have:=hIv b e;omega
 have hT2:∀k,T k≠0->T k≠100+16*i+j->T k≠4+i->(w1.setCell ⟨h.rk i,j,none⟩ v').heap[k]?=w.heap[k]?:=fun k h0 h1 h2=>by
  rw[hoth k (by rintro rfl;exact h2 hTr)]
  exact hTs k h0 h1
 refine⟨⟨n9,fun k hk=>by rw[hsz];exact zzk_ (hn.Ilt k hk) hs,⟨?_,?_,?_,?_,fun a ha=>?_,fun a b k ha hb hk=>?_⟩,fun k hk=>?_,?_,hn.bcn,hn.mcn,hn.rcn,?_,?_,?_,fun a ha=>?_,fun a b ha hb=>?_⟩,hsz,fun k _ hk=>hoth k hk⟩
 .rw[hTput _ (by rw[hn.tag.x];omega)];exact hn.tag.x
 .show putT T i j v' h.bk=2;rw[hTput _ (by rw[hn.tag.b];omega)];exact hn.tag.b
 .show putT T i j v' h.ub=50;rw[hTput _ (by rw[hn.tag.u];omega)];exact hn.tag.u
 .show putT T i j v' h.mb=3;rw[hTput _ (by rw[hn.tag.m];omega)];exact hn.tag.m
 .show putT T i j v' (h.rk a)=4+a;rw[hTput _ (by rw[hn.tag.r a ha];omega)];exact hn.tag.r a ha
 .simp only[Hd.put]at hk
  split at hk
  .next e =>
   obtain⟨rfl,rfl⟩:=e
   simp[putT,hk]
  .rw[hTput k (by rw[hn.tag.v a b k ha hb hk];omega)]
   exact hn.tag.v a b k ha hb hk
 .unfold putT at hk
  rw[hsz]
  split at hk
  .next e =>
   refine⟨(hv k e).2,?_⟩
   rcases(hv k e).1 with e'|e'
   .exact hIv k e'
   .by_cases h0:0<g.I k
    .have:=hn.Ilt k h0;omega
    .omega
  .exact⟨zzk_ (hT0 k hk) hs,(hn.tz k hk).2⟩
 .exact(hT2 X (by rw[hn.tag.x];omega) (by rw[hn.tag.x];omega) (by rw[hn.tag.x];omega)).trans hn.hX
 .obtain⟨cur,c1,c2,c3⟩:=hn.bb
  refine⟨cur,(hT2 h.bk (by rw[hn.tag.b];omega) (by rw[hn.tag.b];omega) (by rw[hn.tag.b];omega)).trans c1,c2,fun a ha p u hu=>?_⟩
  obtain⟨c,q1,q2,q3⟩:=c3 a ha p u hu
  exact⟨c,q1,q2,zO_ q3 (wU_ _ u (zzd_ hu)) hI⟩
 .obtain⟨cur,c1,c2⟩:=hn.uu
  exact⟨cur,(hT2 h.ub (by rw[hn.tag.u];omega) (by rw[hn.tag.u];omega) (by rw[hn.tag.u];omega)).trans c1,c2⟩
 .obtain⟨cur,c1,c2⟩:=hn.mm
  exact⟨cur,(hT2 h.mb (by rw[hn.tag.m];omega) (by rw[hn.tag.m];omega) (by rw[hn.tag.m];omega)).trans c1,c2⟩
 .by_cases he:a=i
  .subst he
   refine⟨_,hset,fun b hb=>?_⟩
   simp only[Hd.put,true_and]
   by_cases hbj:b=j
   .subst hbj
    rw[if_pos rfl]
    simp[hrj]
   .rw[if_neg hbj,Array.getElem?_setIfInBounds_ne (Ne.symm hbj)]
    exact r2 b hb
  .obtain⟨cur,c1,c2⟩:=hn.rr a ha
   have hta:=hn.tag.r a ha
   refine⟨cur,(hT2 (h.rk a) (by omega) (by omega) (by omega)).trans c1,fun b hb=>?_⟩
   simp only[Hd.put]
   rw[if_neg (by rintro⟨e,_⟩;exact he e)]
   exact c2 b hb
 .simp only[updM,Hd.put]
  by_cases he:a=i/\b=j
  .rw[if_pos he,if_pos he]
   refine hm.keep fun k hk=>hoth k ?_
   rintro rfl
   rcases(hv _ hk).1 with e'|e'
   .have:=htv _ e';omega
   .have:=hT0 (h.rk i) (by omega);omega
  .rw[if_neg he,if_neg he]
   refine(hn.vv a b ha hb).keep fun k hk=>?_
   have htk:=hn.tag.v a b k ha hb hk
   exact hT2 k (by omega) (by intro e;apply he;omega) (by omega)
end
section
variable{w:World}
def zM:Array Value:=#[.int .i64 0,.int .i64 0,.int .i64 0,.int .i64 0,.int .i64 0,.string (ByteArray.mk #[]),.int .i64 0,.int .i64 0,.int .i64 0,.int .i64 0,.int .i64 0,.int .i64 0,.int .i64 0,.int .i64 0,.bool false,.slice none 0 0,.slice none 0 0,.slice none 0 0]
theorem nB_{v:Value}{l:List RG.Rm}(hm:MBx w v l)(m:RG.Rm){kt:Nat}(ht:∀(j:Nat) (u:Value),(fv [m])[j]?=some u->w.cell? ⟨kt,j,none⟩=some u)(hl:l.length<=100000) :
 ∃ v' w', (∀ ty, (Builtin.append_ #[58, 58] ty #[v, .slice (some ⟨kt, 0, none⟩) 1 1]).run Try.prog w = .ok v' w') ∧ MBx w' v' (l ++ [m]) ∧ w'.os = w.os ∧ w'.tape = w.tape ∧ w'.output = w.output ∧ w.heap.size ≤ w'.heap.size ∧
   (∀k,k<w.heap.size->rb v≠some k->w'.heap[k]?=w.heap[k]?)/\∀k,rb v'=some k->(rb v=some k\/w.heap.size<=k)/\k<w'.heap.size:=by
 obtain⟨i0,hi0,hz0,hzs,hzb⟩:∃i0,Try.prog.info? 57=some i0/\i0.zero=some (.agg zM)/\i0.size=18/\i0.bytes=200:=⟨_,rfl,by kernel_rfl,by kernel_rfl,by kernel_rfl⟩
 have hnl:(fv [m]).length=1*i0.size:=by rw[hzs];rfl
 have hnews:∀j u,(fv [m])[j]?=some u->w.cell? ((⟨kt,0,none⟩:Addr).add j)=some u:=fun j u hj=>by rw[Addr.add_lit,Nat.zero_add];exact ht j u hj
 have fin:∀(old:Nat) (cs:List Value) (L:List RG.Rm),L.length<=100001->old<L.length->cs=fv L->MBx (w.drew.alloc (.cells (cs.toArray++Builtin.zeroCells (Value.agg zM).cells (grownCap w L.length old 57-L.length)) 57)) (.slice (some ⟨w.heap.size,0,none⟩) L.length (grownCap w L.length old 57)) L:=by
  rintro old cs L hL ho rfl
  have hge:=grownCap_ge w L.length old 57
  refine .inr ⟨w.heap.size,0,_,_,rfl,by omega,hge,grownCap_le_maxLen w L.length old 57 (by unfold maxLen;omega),heap_alloc_new w.drew _,?_,fun p u hp=>?_⟩
  .have hz:(Builtin.zeroCells (Value.agg zM).cells (grownCap w L.length old 57-L.length)).size=(grownCap w L.length old 57-L.length)*18:=by simp[Builtin.zeroCells,Value.cells,zM]
   simp only[Array.size_append,List.size_toArray,hz,oW_]
   omega
  .rw[Nat.zero_add,Array.getElem?_append_left (by have:=(zzc_.1 hp).1;simpa using this)]
   simpa using hp
 have hfits:∀need old,old<need->need<=100001->Builtin.nextslicecap need old*i0.bytes<=281474976710656:=fun need old h1 h2=>by rw[hzb];exact growslice_fits h1 (by omega)
 have hblk:∀(o:Obj) k,k<w.heap.size->(w.drew.alloc o).heap[k]?=w.heap[k]?:=fun o k hk=>Below.heap_alloc w.drew _ k hk
 rcases hm with ⟨rfl,A,rfl⟩|⟨k,off,cap,cur,rfl,h1,h2,h3,h4,h5,h6⟩
 .cases A with
  | none =>
    refine⟨_,_,fun ty=>run_append_nil (P:=Try.prog) w 58 ty 57 i0 _ Try.underlying58 hi0 hz0 ⟨kt,0,none⟩ 1 1 (fv [m]) hnl hnews (by omega) (by omega) (by rw[hzb];omega),?_,rfl,rfl,rfl,by simp,fun k hk _=>hblk _ k hk,fun k hk=>?_⟩
    .have:=fin 0 (fv [m]) [m] (by simp) (by simp) rfl
     simpa using this
    .have:=no_ hk
     subst this
     exact⟨.inr (zzl_ _),by simp⟩
  | some ad =>
    have hr:=fun ty=>run_append_grow (P:=Try.prog) w 58 ty 57 i0 _ Try.underlying58 hi0 hz0 ad 0 0 [] (by simp) (fun j v hj=>by simp at hj) ⟨kt,0,none⟩ 1 1 (fv [m]) hnl hnews (by omega) (by omega) (hfits 1 0 (by omega) (by omega))
    refine⟨_,_,hr,?_,rfl,rfl,rfl,by simp,fun k hk _=>hblk _ k hk,fun k hk=>?_⟩
    .have:=fin 0 (fv [m]) [m] (by simp) (by simp) rfl
     simpa using this
    .have:=no_ hk
     subst this
     exact⟨.inr (zzl_ _),by simp⟩
 .have hkw:=(zzm_.1 h4).1
  have hfl:=oW_ l
  by_cases hroom:l.length+1<=cap
  ·have hr:=fun ty=>run_append_room_cells (P:=Try.prog) w 58 ty 57 i0 Try.underlying58 hi0 k off l.length cap ⟨kt,0,none⟩ 1 1 (fv [m]) hnl hnews (mN_ _) hroom
    (fun j hj=>by
     have hj4:j<18:=hj
     rw[hzs]
     have:off+l.length*18+j<cur.size:=by omega
     simp[World.cell?,h4,this])
    (fun j hj=>by simp[World.frozen?,h4])
   rw[hzs]at hr
   obtain⟨cur',q1,q2,q3⟩:=yy_ (fv [m]) (off+l.length*18) w k cur 57 h4 (by show off+l.length*18+18<=cur.size;omega)
   refine⟨_,_,hr,.inr ⟨k,off,cap,cur',by simp,h1,by simp;omega,h3,q1,by omega,fun p u hp=>?_⟩,(zG_ _ _ _ _).1,(zG_ _ _ _ _).2.1,(zG_ _ _ _ _).2.2,?_,fun k' hk' hne=>?_,fun k' hk'=>?_⟩
   .rw[tA_]at hp
    have hcl:cur.toList.length=cur.size:=by simp
    rw[<-Array.getElem?_toList,q3,zzq_]
    rcases yym_ p (l.length*18) with hlt|hge
    .rw[zzo_ (by omega)]at hp
     rw[zzo_ (by rw[List.length_take];omega),zzu_,if_pos (by omega),Array.getElem?_toList]
     exact h6 p u hp
    .rw[zzv_ (by omega),hfl]at hp
     have hp4:p-l.length*18<18:=(zzc_.1 hp).1
     rw[zzv_ (by rw[List.length_take];omega),zzo_ (by rw[List.length_take];show _<18;omega)]
     rw[show off+p-(cur.toList.take (off+l.length*18)).length=p-l.length*18 by rw[List.length_take];omega]
     exact hp
   ·have hsz:∀vs o (W:World),(W.setCells k o vs).heap.size=W.heap.size:=fun vs=>by
     induction vs with
     |nil=>intro o W;rfl
     |cons v r ih=>intro o W;rw[World.setCells,ih];simp[World.setCell]
    rw[hsz];exact zzl_ _
   .exact ys_ hk' (by rintro rfl;exact hne (by simp[rb];omega))
   ·have hsz:∀vs o (W:World),(W.setCells k o vs).heap.size=W.heap.size:=fun vs=>by
     induction vs with
     |nil=>intro o W;rfl
     |cons v r ih=>intro o W;rw[World.setCells,ih];simp[World.setCell]
    have e:k'=k:=by simp[rb]at hk';exact hk'.2.symm
    subst e
    exact⟨.inl (by simp[rb];omega),by rw[hsz];exact hkw⟩
  .have hce:cap=l.length:=by omega
   have hr:=fun ty=>run_append_grow (P:=Try.prog) w 58 ty 57 i0 _ Try.underlying58 hi0 hz0 ⟨k,off,none⟩ l.length cap (fv l) (by rw[hzs];exact hfl) (fun j v hj=>by
    rw[Addr.add_lit]
    simpa[World.cell?,h4] using h6 j v hj) ⟨kt,0,none⟩ 1 1 (fv [m]) hnl hnews (by omega) (by omega) (hfits _ _ (by omega) (by omega))
   refine⟨_,_,hr,?_,rfl,rfl,rfl,by simp,fun k hk _=>hblk _ k hk,fun k hk=>?_⟩
   .have:=fin cap (fv l++fv [m]) (l++[m]) (by simp;omega) (by simp;omega) (tA_ l [m]).symm
    simpa using this
   .have:=no_ hk
    subst this
    exact⟨.inr (zzl_ _),by simp⟩
end
end
section
structure SzT(t:TypeId)(z:Nat):Prop where
 ag:∀w,(isAgg t).run Try.prog w=.ok true w
 sz:∃i,Try.prog.info? t=some i/\i.size=z
theorem sz37:SzT 37 9:=⟨fun w=>by simp[isAgg,run_underlying Try.underlying37],_,rfl,by kernel_rfl⟩
theorem sz57:SzT 57 18:=⟨fun w=>by simp[isAgg,run_underlying Try.underlying57],_,rfl,by kernel_rfl⟩
theorem sz64:SzT 64 19:=⟨fun w=>by simp[isAgg,run_underlying Try.underlying64],_,rfl,by kernel_rfl⟩
def Hs(w:World)(b o:Nat)(vs:Array Value):Prop:=∀(j:Nat) (v:Value),vs[j]?=some v->w.cell? ⟨b,o+j,none⟩=some v
theorem SzT.ld{t:TypeId}{z:Nat}(h:SzT t z){w:World}{b o:Nat}{vs:Array Value}(hz:vs.size=z)(hc:Hs w b o vs):(Instr.loadAt t (.pointer (some ⟨b,o,none⟩))).run Try.prog w=.ok (.agg vs) w:=by
 obtain⟨i,hi,his⟩:=h.sz
 have hl:(loadCells ⟨b,o,none⟩ i.size).run Try.prog w=.ok vs w:=by
  have:=run_loadCells_list (P:=Try.prog) w ⟨b,o,none⟩ vs.toList (fun j u hj=>by rw[Addr.add_lit];exact hc j u (by simpa using hj))
  rw[Array.length_toList,hz,<-his]at this
  simpa using this
 simp[Instr.loadAt,Instr.sureAddr,loadVar,h.ag w,sizeOf,typeInfo,hi,hl]
theorem SzT.st{t:TypeId}{z:Nat}(h:SzT t z){w:World}{b o:Nat}{cur vs:Array Value}{e:TypeId}(hz:vs.size=z)(hb:w.heap[b]?=some (.cells cur e (0,0)))(hs:o+z<=cur.size)(h1:∀v∈vs.toList,v.oneCell'=true) :
 (Instr.storeAt t (.pointer (some ⟨b,o,none⟩)) (.agg vs)).run Try.prog w=.ok () (w.setCells b o vs.toList):=by
 obtain⟨i,hi,his⟩:=h.sz
 have hst:=run_storeCells_cells (P:=Try.prog) b o vs.toList 0 w (fun j hj=>by
  have:o+j<cur.size:=by simp at hj;omega
  simp[World.cell?,hb,this]) (fun j hj=>by simp[World.frozen?,hb]) h1
 have hcs:(Value.agg vs).cells.size=i.size:=by show vs.size=i.size;omega
 have hcl:(Value.agg vs).cells.toList=vs.toList:=rfl
 simp only[Nat.add_zero]at hst
 simp[Instr.storeAt,Instr.sureAddr,storeVar,sizeOf,typeInfo,hi,hcs,hcl,hst]
section
variable{P:Program}{ops:Array Oper}{rest:List Oper}{o:Oper}{a:Act}{w:World}{Q:Exit->Act->World->Prop}
theorem zL_(hgd:o.guard=none)(t:TypeId)(x:Operand)(ho:o.op=.load t x)(u v:Value)(hx:a.eval x=u)(hr:(Instr.loadAt t u).run P w=.ok v w)(h:wpList P ops Q rest (a.put o.dst v) w):wpList P ops Q (o::rest) a w :=
 wpList_plain hgd fun K hK=>by
  unfold Oper.wp execOp
  simp only[ho,Sem.run_bind,hx,hr,Sem.run_pure,Result.andThen_ok]
  exact hK _ _ h
theorem zk_(hgd:o.guard=none)(hdst:o.dst=none)(t:TypeId)(x y:Operand)(ho:o.op=.store t x y)(u v:Value)(hx:a.eval x=u)(hy:a.eval y=v){w':World}(hr:(Instr.storeAt t u v).run P w=.ok () w')(h:wpList P ops Q rest a w'):wpList P ops Q (o::rest) a w :=
 wpList_plain hgd fun K hK=>by
  unfold Oper.wp execOp
  simp only[ho,Sem.run_bind,hx,hy,hr,Sem.run_pure,Result.andThen_ok]
  refine hK _ _ ?_
  rw[hdst]
  exact h
end
theorem SzT.box{t:TypeId}{z:Nat}(h:SzT t z){w:World}{zs vs:Array Value}(hz:vs.size=z)(hs:zs.size=z)(h1:∀v∈vs.toList,v.oneCell'=true) :
 ∃W,(Instr.storeAt t (.pointer (some ⟨w.heap.size,0,none⟩)) (.agg vs)).run Try.prog (w.alloc (.cells zs t))=.ok () W/\Below w.heap.size w W/\W.heap.size=w.heap.size+1/\W.heap[w.heap.size]?=some (.cells vs t (0,0)):=by
 have hn:=heap_alloc_new w (.cells zs t)
 have hst:=h.st hz hn (o:=0) (by omega) h1
 obtain⟨cur',d1,d2,d3⟩:=yy_ vs.toList 0 (w.alloc (.cells zs t)) w.heap.size zs t hn (by simp;omega)
 have hsz:∀vs o (W:World),(W.setCells w.heap.size o vs).heap.size=W.heap.size:=fun vs=>by
  induction vs with
  |nil=>intro o W;rfl
  |cons v r ih=>intro o W;rw[World.setCells,ih];simp[World.setCell]
 have hf:=zG_ w.heap.size vs.toList 0 (w.alloc (.cells zs t))
 refine⟨_,hst,⟨hf.1.trans rfl,hf.2.1.trans rfl,hf.2.2.trans rfl,by rw[hsz];simp,fun k hk=>?_⟩,by rw[hsz];simp,?_⟩
 .rw[ys_ (by simp;omega) (by omega)]
  exact Below.heap_alloc w _ k hk
 .rw[d1]
  have:cur'=vs:=Array.ext' (by
   rw[d3,List.take_zero,List.nil_append,List.drop_eq_nil_of_le (by simp;omega),List.append_nil])
  rw[this]
theorem zB_{w:World}{b:Nat}{vs:Array Value}{e:TypeId}(h:w.heap[b]?=some (.cells vs e (0,0))):Hs w b 0 vs:=fun j v hj=>by
 rw[Nat.zero_add,cell_of_row w b j vs e (0,0) h];exact hj
section
variable{P:Program}{o:Oper}{a:Act}{w:World}
theorem yk_(t:TypeId)(x:Operand)(ho:o.op=.load t x){u v:Value}(hx:a.eval x=u)(hr:(Instr.loadAt t u).run P w=.ok v w):(execOp a.eval o).run P w=.ok (.value v) w:=by
 unfold execOp
 simp only[ho,Sem.run_bind,hx,hr,Sem.run_pure,Result.andThen_ok]
theorem zH_(t:TypeId)(x:Operand)(ho:o.op=.buildSlice t 1 #[(0,x)]){u v:Value}(hx:a.eval x=u){w':World}(hr:(Instr.buildSlice t 1 #[(0,u)]).run P w=.ok v w'):(execOp a.eval o).run P w=.ok (.value v) w':=by
 unfold execOp
 simp only[ho,Sem.run_bind,List.map_toArray,List.map_cons,List.map_nil,hx,hr,Sem.run_pure,Result.andThen_ok]
end
theorem pH_(w:World){ms:Array Value}(h:ms.size=18):(Instr.buildSlice 58 1 #[(0,.agg ms)]).run Try.prog w=.ok (.slice (some ⟨w.heap.size,0,none⟩) 1 1) (w.alloc (.cells ms 57)):=by
 obtain⟨i0,hi0,hz0,hzs⟩:∃i0,Try.prog.info? 57=some i0/\i0.zero=some (.agg zM)/\i0.size=18:=⟨_,rfl,by kernel_rfl,by kernel_rfl⟩
 refine run_buildSlice (P:=Try.prog) w 58 57 1 #[(0,.agg ms)] ms i0 _ Try.underlying58 hi0 hz0 (by rw[hzs];decide) (by rw[hzs];decide) ?_
 rw[hzs]
 obtain⟨m0,m1,m2,m3,m4,m5,m6,m7,m8,m9,m10,m11,m12,m13,m14,m15,m16,m17,rfl⟩:∃m0 m1 m2 m3 m4 m5 m6 m7 m8 m9 m10 m11 m12 m13 m14 m15 m16 m17,ms=#[m0,m1,m2,m3,m4,m5,m6,m7,m8,m9,m10,m11,m12,m13,m14,m15,m16,m17]:=by
  have hl:ms.toList.length=18:=by simpa using h
  match hv:ms.toList,hl with
  |[m0,m1,m2,m3,m4,m5,m6,m7,m8,m9,m10,m11,m12,m13,m14,m15,m16,m17],_=>exact⟨m0,m1,m2,m3,m4,m5,m6,m7,m8,m9,m10,m11,m12,m13,m14,m15,m16,m17,Array.ext' (by simpa using hv)⟩
 have hC:((Array.range (1*18)).map fun x=>(Value.agg zM).cells[x%(Value.agg zM).cells.size]!).size=18:=by simp
 generalize ((Array.range (1*18)).map fun x=>(Value.agg zM).cells[x%(Value.agg zM).cells.size]!)=C at hC
 obtain⟨c0,c1,c2,c3,c4,c5,c6,c7,c8,c9,c10,c11,c12,c13,c14,c15,c16,c17,rfl⟩:∃c0 c1 c2 c3 c4 c5 c6 c7 c8 c9 c10 c11 c12 c13 c14 c15 c16 c17,C=#[c0,c1,c2,c3,c4,c5,c6,c7,c8,c9,c10,c11,c12,c13,c14,c15,c16,c17]:=by
  have hl:C.toList.length=18:=by simpa using hC
  match hv:C.toList,hl with
  |[c0,c1,c2,c3,c4,c5,c6,c7,c8,c9,c10,c11,c12,c13,c14,c15,c16,c17],_=>exact⟨c0,c1,c2,c3,c4,c5,c6,c7,c8,c9,c10,c11,c12,c13,c14,c15,c16,c17,Array.ext' (by simpa using hv)⟩
 simp[Instr.fill,Value.cells,List.zipIdx]
end
structure Asd(p:Prop):Prop where
 out:p
theorem zA_{P:Program}{ops:Array Oper}{o:Oper}{a:Act}{w:World}{K:Act->World->Prop}{Q:Exit->Act->World->Prop}{E:Prop}
 (hg:o.guard=none) (d x:Operand) (dT sT:TypeId) (hop:o.op=Op.call { callee:=Callee.builtin Builtin.append,args:=#[d,x],argTypes:=#[dT,sT] })
 (v u:Value) (hd:a.eval d=v) (hx:a.eval x=u) {v':Value} {w':World} (hr:(Builtin.append_ #[dT,sT] o.type #[v,u]).run P w=.ok v' w') (hK:K (a.put o.dst v') w') :
 if Region.wanted o (yielded ops a.tmps)=true then Oper.wp P o a w K Q else E:=by
 have hw:Region.wanted o (yielded ops a.tmps)=true:=by simp[Region.wanted,hg]
 rw[if_pos hw]
 unfold Oper.wp
 simp[execOp,hop,resolve,invoke,builtin,hd,hx,hr,Result.andThen]
 exact hK
theorem sI_(i:Nat)(x:Int×RG.Rm):∀(o:RG.Out) (M:Nat->Nat->List RG.Rm),RG.put M i (o++[x])=RG.put1 (RG.put M i o) i x
 |[],_=>rfl
 |y::r,M=>sI_ i x r (RG.put1 M i y)
theorem pT_(M:Nat->Nat->List RG.Rm)(i j:Nat)(m:RG.Rm):RG.put1 M i ((j:Int),m)=updM M i j (M i j++[m]):=by
 funext a b
 unfold RG.put1 updM
 by_cases h:a=i/\b=j
 .obtain⟨rfl,rfl⟩:=h
  rw[if_pos ⟨rfl,rfl⟩,if_pos ⟨rfl,rfl⟩]
 .rw[if_neg h,if_neg (by rintro⟨q1,q2⟩;simp only at q2;exact h ⟨q1,by omega⟩)]
theorem pW_(M:Nat->Nat->List RG.Rm)(i:Nat)(x:Int×RG.Rm)(a b:Nat):(RG.put1 M i x a b).length<=(M a b).length+1:=by
 unfold RG.put1
 split
 .rw[zzr_];exact zzl_ _
 .omega
theorem qs_(i:Nat)(a b:Nat):∀(o:RG.Out) (M:Nat->Nat->List RG.Rm),(RG.put M i o a b).length<=(M a b).length+o.length
 |[],M=>zzl_ _
 | x :: r, M => by
   have h1:=qs_ i a b r (RG.put1 M i x)
   have h2:=pW_ M i x a b
   show (RG.put (RG.put1 M i x) i r a b).length<=_
   rw[List.length_cons]
   omega
theorem o1_{g:Gh}{w:World}{l:RG.Out}{A:Option Addr}{c:Nat}{N:Nat}(h:Rep g w (.list 19 (ou l)) (.slice A N c)){p:Nat}(hp:p<l.length):∃b o,A=some ⟨b,o,none⟩/\0<g.I b /\
 ∀j,j<19->w.cell? ⟨b,o+p*19+j,none⟩=(pc l[p].1 (kk l[p].2.k) l[p].2.e l[p].2.s)[j]?:=by
 cases h with
 | list vals hc hm hA hz hi hcell hrep =>
   have key:∀(j:Nat) (u:Value),(gv l)[j]?=some u->∃b q,A=some ⟨b,q,none⟩/\q+j<g.I b/\w.cell? ⟨b,q+j,none⟩=some u:=by
    intro j u hu
    have hj:j<(flat (ou l)).length:=by rw[si_,List.length_map];exact(zzc_.1 hu).1
    obtain⟨b,q,r1,r2,r3⟩:=hcell j hj
    have:=(hrep j (.s u) (by rw[si_,zzs_,hu];rfl)).of_s rfl
    exact⟨b,q,r1,r2,by rw[r3,this]⟩
   have hget:∀j,j<19->∃u,(gv l)[p*19+j]?=some u:=fun j hj=>by
    have:p*19+j<(gv l).length:=by rw[mK_];omega
    exact⟨_,zzf_ this⟩
   obtain⟨u0,hu0⟩:=hget 0 (by omega)
   obtain⟨b,o,e,i0,c0⟩:=key _ _ hu0
   refine⟨b,o,e,by omega,fun j hj=>?_⟩
   obtain⟨u,hu⟩:=hget j hj
   obtain⟨b1,o1,e1,_,c1⟩:=key _ _ hu
   rw[e]at e1
   cases e1
   rw[<-mL_ l p hp j hj,hu,Nat.add_assoc]
   exact c1
theorem Net.x2'{T:Nat->Nat}{g:Gh}{w:World}{X n:Nat}{R:Nat->RG.Rs}{U:Nat->Bool}{M:Nat->Nat->List RG.Rm}{h:Hd}(hn:Net T g w X n R U M h):w.cell? ⟨X,2,none⟩=some (.slice (some ⟨h.mb,0,none⟩) n h.mc):=by simp[World.cell?,hn.hX]
theorem Net.x0'{T:Nat->Nat}{g:Gh}{w:World}{X n:Nat}{R:Nat->RG.Rs}{U:Nat->Bool}{M:Nat->Nat->List RG.Rm}{h:Hd}(hn:Net T g w X n R U M h):w.cell? ⟨X,0,none⟩=some (.slice (some ⟨h.bk,0,none⟩) n h.bc):=by simp[World.cell?,hn.hX]
structure TkI(T:Nat->Nat)(g:Gh)(w:World)(X n:Nat)(R:Nat->RG.Rs)(U:Nat->Bool)(M:Nat->Nat->List RG.Rm)(T':Nat->Nat)(h':Hd)(wr:World):Prop where
 net:Net T' g wr X n R U M h'
 os:wr.os=w.os
 tape:wr.tape=w.tape
 output:wr.output=w.output
 size:w.heap.size<=wr.heap.size
 fr:∀k,k<w.heap.size->T k=0->T' k=0/\wr.heap[k]?=w.heap[k]?
structure Pst(j:Nat)(m:RG.Rm)(ps ms:Array Value):Prop where
 p:ps.size=19
 ms18:ms.size=18
 z:ps[0]?=some (.int .i64 (j:Int))
 s:∀(q:Nat) (v:Value),ms[q]?=some v->ps[1+q]?=some v
 f:fv [m]=ms.toList
 o:∀v∈ps.toList,v.oneCell'=true
theorem pst(j:Nat)(m:RG.Rm):Pst j m (pc j (kk m.k) m.e m.s).toArray (mc (kk m.k) m.e m.s).toArray :=
 ⟨rfl,rfl,rfl,fun q v h=>by
  have e:(pc j (kk m.k) m.e m.s)=.int .i64 (j:Int)::mc (kk m.k) m.e m.s:=rfl
  rw[List.getElem?_toArray]at h ⊢
  rw[e,Nat.add_comm,List.getElem?_cons_succ]
  exact h,rfl,(qC_ _ _ _ _).2⟩
theorem TkI.step{T:Nat->Nat}{g:Gh}{w:World}{X n:Nat}{R:Nat->RG.Rs}{U:Nat->Bool}{M:Nat->Nat->List RG.Rm}{T':Nat->Nat}{h':Hd}{wr:World}(hI:TkI T g w X n R U M T' h' wr){i j:Nat}(hi:i<n)(hj:j<n){m:RG.Rm}{ps ms:Array Value}(hP:Pst j m ps ms)(hl:(M i j).length<=100000) :
 ∃ (W4 W5 W6 W7 : World) (v' : Value) (T2 : Nat → Nat) (h2 : Hd) (Hp Kt : Nat) (A2 : Option Addr) (N2 C2 : Nat), v' = .slice A2 N2 C2 ∧ wr.heap.size = Hp ∧ (Instr.storeAt 64 (.pointer (some ⟨Hp, 0, none⟩)) (.agg ps)).run Try.prog (wr.alloc (.cells #[.int .i64 0, .int .i64 0, .int .i64 0, .int .i64 0, .int .i64 0, .int .i64 0, .string (ByteArray.mk #[]), .int .i64 0, .int .i64 0, .int .i64 0, .int .i64 0, .int .i64 0, .int .i64 0, .int .i64 0, .int .i64 0, .bool false, .slice none 0 0, .slice none 0 0, .slice none 0 0] 64)) = .ok () W4 ∧ (W4.cell? ⟨Hp, 0, none⟩ = some (.int .i64 (j : Int)) ∧ Hs W4 Hp 1 ms ∧ W4.cell? ⟨X, 2, none⟩ = some (.slice (some ⟨h'.mb, 0, none⟩) n h'.mc) ∧ W4.cell? ⟨h'.mb, i, none⟩ = some (.slice (some ⟨h'.rk i, 0, none⟩) n (h'.rc i)) ∧ W4.cell? ⟨h'.rk i, j, none⟩ = some (h'.mv i j)) ∧ W4.cell? ⟨X, 0, none⟩ = some (.slice (some ⟨h'.bk, 0, none⟩) n h'.bc) ∧
   W4.heap.size=Kt/\W4.drew.drew.alloc (.cells ms 57)=W5/\(∀ty,(Builtin.append_ #[58,58] ty #[h'.mv i j,.slice (some ⟨Kt,0,none⟩) 1 1]).run Try.prog W5=.ok v' W6) /\
   (W6.frozen? ⟨h'.rk i,j,none⟩=false/\W6.setCell ⟨h'.rk i,j,none⟩ v'=W7)/\(W5.cell? ⟨Hp,0,none⟩=some (.int .i64 (j:Int))/\Hs W5 Hp 1 ms/\W5.cell? ⟨X,2,none⟩=some (.slice (some ⟨h'.mb,0,none⟩) n h'.mc)/\W5.cell? ⟨h'.mb,i,none⟩=some (.slice (some ⟨h'.rk i,0,none⟩) n (h'.rc i))/\W5.cell? ⟨h'.rk i,j,none⟩=some (h'.mv i j))/\(W6.cell? ⟨Hp,0,none⟩=some (.int .i64 (j:Int))/\Hs W6 Hp 1 ms/\W6.cell? ⟨X,2,none⟩=some (.slice (some ⟨h'.mb,0,none⟩) n h'.mc)/\W6.cell? ⟨h'.mb,i,none⟩=some (.slice (some ⟨h'.rk i,0,none⟩) n (h'.rc i))/\W6.cell? ⟨h'.rk i,j,none⟩=some (h'.mv i j))/\TkI T g w X n R U (updM M i j (M i j++[m])) T2 h2 W7:=by
 obtain⟨hn,ho1,ho2,ho3,hsz,hfr⟩:=hI
 have n9:=hn.n9
 obtain⟨W4,hst4,hb4,z4,b4⟩:=sz64.box (w:=wr) (zs:=#[.int .i64 0,.int .i64 0,.int .i64 0,.int .i64 0,.int .i64 0,.int .i64 0,.string (ByteArray.mk #[]),.int .i64 0,.int .i64 0,.int .i64 0,.int .i64 0,.int .i64 0,.int .i64 0,.int .i64 0,.int .i64 0,.bool false,.slice none 0 0,.slice none 0 0,.slice none 0 0]) hP.p rfl hP.o
 have hW4b:∀k,k<wr.heap.size->W4.heap[k]?=wr.heap[k]?:=hb4.block
 have hn4:Net T' g W4 X n R U M h':=hn.grow (by omega) hW4b (fun _ _=>rfl) (fun k hk=>zzk_ (hn.Ilt k hk) (by omega))
 obtain⟨W5,hW5⟩:∃W5,W4.drew.drew.alloc (.cells ms 57)=W5:=⟨_,rfl⟩
 have hW5n:W5.heap[W4.heap.size]?=some (.cells ms 57 (0,0)):=by rw[<-hW5];exact heap_alloc_new W4.drew.drew _
 have hW5s:W5.heap.size=W4.heap.size+1:=by rw[<-hW5,World.size_alloc];rfl
 have hW5b:∀k,k<W4.heap.size->W5.heap[k]?=W4.heap[k]?:=fun k hk=>by rw[<-hW5];exact Below.heap_alloc W4.drew.drew _ k hk
 have hW5o:W5.os=W4.os/\W5.tape=W4.tape/\W5.output=W4.output:=by rw[<-hW5];exact⟨rfl,rfl,rfl⟩
 have hn5:Net T' g W5 X n R U M h':=hn4.grow (by omega) hW5b (fun _ _=>rfl) (fun k hk=>zzk_ (hn4.Ilt k hk) (by omega))
 obtain⟨v',W6,hrun,hmb,q1,q2,q3,q4,q5,q6⟩:=nB_ (hn5.vv i j hi hj) m (kt:=W4.heap.size) (fun p u hp=>by
  rw[hP.f,Array.getElem?_toList]at hp
  rw[cell_of_row W5 _ p ms 57 (0,0) hW5n]
  exact hp) hl
 obtain⟨hn7,k1,k2⟩:=hn5.setV hi hj q4 q5 hmb (fun k hk=>q6 k hk)
 obtain⟨cr,r1,r2⟩:=hn5.rr i hi
 have hTr:=hn5.tag.r i hi
 have hr6:W6.heap[h'.rk i]?=some (.cells cr 58 (0,0)):=(q5 _ (hn5.tz _ (by omega)).1 (fun e=>by have:=hn5.tag.v i j _ hi hj e;omega)).trans r1
 have hnotv:∀k,T' k=0->rb (h'.mv i j)≠some k:=fun k h0 e=>by have:=hn5.tag.v i j k hi hj e;omega
 obtain⟨cm,m1,m2⟩:=hn4.mm
 obtain⟨cr4,r41,r42⟩:=hn4.rr i hi
 have hb5:W5.heap[wr.heap.size]?=W4.heap[wr.heap.size]?:=hW5b _ (by omega)
 have hm5:W5.heap[h'.mb]?=W4.heap[h'.mb]?:=hW5b _ (hn4.tz _ (by rw[hn4.tag.m];omega)).1
 have hnT:T' wr.heap.size=0:=by
  by_cases h0:T' wr.heap.size=0
  .exact h0
  .have:=(hn.tz _ h0).1;omega
 have hb6:W6.heap[wr.heap.size]?=W5.heap[wr.heap.size]?:=q5 _ (by omega) (hnotv _ hnT)
 have hX6:W6.heap[X]?=W5.heap[X]?:=q5 _ (hn5.tz _ (by rw[hn5.tag.x];omega)).1 (fun e=>by have:=hn5.tag.v i j _ hi hj e;have:=hn5.tag.x;omega)
 have hm6:W6.heap[h'.mb]?=W5.heap[h'.mb]?:=q5 _ (hn5.tz _ (by rw[hn5.tag.m];omega)).1 (fun e=>by have:=hn5.tag.v i j _ hi hj e;have:=hn5.tag.m;omega)
 obtain⟨A2,N2,C2,hv2⟩:∃A2 N2 C2,v'=.slice A2 N2 C2:=by
  rcases hmb with ⟨_,A,rfl⟩|⟨_,_,_,_,rfl,_⟩<;>exact⟨_,_,_,rfl⟩
 have g1:∀(W:World),W.heap[wr.heap.size]?=some (.cells ps 64 (0,0))->W.cell? ⟨wr.heap.size,0,none⟩=some (.int .i64 (j:Int))/\Hs W wr.heap.size 1 ms:=fun W hW =>
  ⟨(cell_of_row W _ 0 _ 64 (0,0) hW).trans hP.z,fun q v hq=>(cell_of_row W _ (1+q) _ 64 (0,0) hW).trans (hP.s q v hq)⟩
 refine⟨W4,W5,W6,_,v',_,_,wr.heap.size,W4.heap.size,A2,N2,C2,hv2,rfl,hst4,⟨(g1 W4 b4).1,(g1 W4 b4).2,hn4.x2',?_,?_⟩,hn4.x0',rfl,hW5,hrun,⟨by simp[World.frozen?,hr6],rfl⟩,⟨(g1 W5 (hb5.trans b4)).1,(g1 W5 (hb5.trans b4)).2,hn5.x2',?_,?_⟩,⟨(g1 W6 (hb6.trans (hb5.trans b4))).1,(g1 W6 (hb6.trans (hb5.trans b4))).2,by simp[World.cell?,hX6,hn5.hX],?_,?_⟩,hn7,?_,?_,?_,?_,fun k hk h0=>?_⟩
 .have:=m2 i hi
  simp[World.cell?,m1,this]
 .have:=r42 j hj
  simp[World.cell?,r41,this]
 .have:=m2 i hi
  simp[World.cell?,hm5,m1,this]
 .have:=r2 j hj
  simp[World.cell?,r1,this]
 .have:=m2 i hi
  simp[World.cell?,hm6,hm5,m1,this]
 .have:=r2 j hj
  simp[World.cell?,hr6,this]
 .exact q1.trans (hW5o.1.trans (hb4.os.trans ho1))
 .exact q2.trans (hW5o.2.1.trans (hb4.tape.trans ho2))
 .exact q3.trans (hW5o.2.2.trans (hb4.output.trans ho3))
 .rw[k1];omega
 .obtain⟨f1,f2⟩:=hfr k hk h0
  refine⟨?_,?_⟩
  .unfold putT
   split
   .next e =>
    rcases(q6 k e).1 with e'|e'
    .exact absurd e' (hnotv k f1)
    .omega
   .exact f1
  .rw[k2 k (by omega) (by rintro rfl;omega),q5 k (by omega) (hnotv k f1),hW5b k (by omega),hW4b k (by omega)]
   exact f2
end Go.Proofs.Ytnbppaolinopeaa
