/-
  A symbolic executor for the model's code, of our own: definitions.
  States are closed in shape (slot numbers, object numbers) and open at their leaves.
-/
import Derived.Orders
import Derived.Laws.Cells
import Derived.Laws.Entries
import Derived.Laws.Slices
import Derived.IntWalk
import Derived.Laws.Tables
import Derived.KernelRfl
import Derived.Laws.StructEq
set_option linter.unusedSimpArgs false
set_option linter.unusedVariables false
set_option maxRecDepth 100000
set_option maxHeartbeats 16000000
namespace Go.Fw
open Go
structure Arc where
 f:Int
 i:Int
 o:Int
 t:Int
 w:Int
 deriving DecidableEq,Inhabited
structure Trip where
 a:Int
 b:Int
 c:Int
 deriving DecidableEq,Inhabited
structure Duo where
 a:Int
 b:Int
 deriving DecidableEq,Inhabited
structure Fnd where
 cost:Int
 arc:Int
 s:Int
 i:Int
 o:Int
 dn:Bool
 deriving DecidableEq,Inhabited
structure Sli where
 a:Option Addr
 n:Nat
 c:Nat
 deriving DecidableEq,Inhabited
structure aCa where
 states:Int
 start:Int
 fin:Sli
 arcs:Sli
 deriving DecidableEq,Inhabited
inductive EK where
 |int|bool|arc|trip|duo|str|sli|fst|adr|fnd
@[reducible] def EK.ty:EK->Type
 | .int=>Int
 | .bool=>Bool
 | .arc=>Arc
 | .trip=>Trip
 | .duo=>Duo
 | .str=>ByteArray
 | .sli=>Sli
 | .fst=>aCa
 | .adr=>Option Addr
 | .fnd=>Fnd
def EK.dflt:(k:EK)->k.ty
 | .int=>(0:Int)
 | .bool=>false
 | .arc=>(⟨0,0,0,0,0⟩:Arc)
 | .trip=>(⟨0,0,0⟩:Trip)
 | .duo=>(⟨0,0⟩:Duo)
 | .str=>(⟨#[]⟩:ByteArray)
 | .sli=>(⟨none,0,0⟩:Sli)
 | .fst=>(⟨0,0,⟨none,0,0⟩,⟨none,0,0⟩⟩:aCa)
 | .adr=>(none:Option Addr)
 | .fnd=>(⟨0,0,0,0,0,false⟩:Fnd)
def EK.sz:EK->Nat
 | .arc=>5
 | .trip=>3
 | .duo=>2
 | .fst=>4
 | .fnd=>6
 |_=>1
inductive SC where
 |i (n:Int)
 |b (c:Bool)
 |v (x:Value)
 |ptr (id off:Nat)
 |elt (id sz k off:Nat)
 |sl (id sz lo len cap:Nat)
 |fn (f:Nat) (caps:List (Nat×Nat))
 |fnv (f:Nat) (caps:List Value)
 |u (n:Int)
 |h (x:Sli)
 |q (a:Option Addr)
 |mp (id:Nat)
 |pe (id sz:Nat) (a:Option Addr) (k off:Nat)
 |fm (f id off:Nat)
inductive SA where
 |c (x:SC)
 |agg (l:List SC)
inductive SV where
 |a (x:SA)
 |tup (l:List SA)
@[reducible] def SV.i (n:Int):SV:= .a (.c (.i n))
@[reducible] def SV.b (n:Bool):SV:= .a (.c (.b n))
@[reducible] def SV.c (x:SC):SV:= .a (.c x)
@[reducible] def SV.u:SV:= .tup []
def EK.sym:(k:EK)->k.ty->List SC
 | .int,n=> [.i n]
 | .bool,c=> [.b c]
 | .arc,a=> [.i a.f,.i a.i,.i a.o,.i a.t,.i a.w]
 | .trip,a=> [.i a.a,.i a.b,.i a.c]
 | .duo,a=> [.i a.a,.i a.b]
 | .str,s=> [.v (.string s)]
 | .sli,x=> [.h x]
 | .fst,x=> [.i x.states,.i x.start,.h x.fin,.h x.arcs]
 | .adr,x=> [.q x]
 | .fnd,x=> [.i x.cost,.i x.arc,.i x.s,.i x.i,.i x.o,.b x.dn]
def Qw:List SC->Option Int
 | [.i n]=>some n
 |_=>none
def Gb:List SC->Option Bool
 | [.b n]=>some n
 |_=>none
def Yt:List SC->Option Arc
 | [.i a,.i b,.i c,.i d,.i e]=>some ⟨a,b,c,d,e⟩
 |_=>none
def Ni:List SC->Option Trip
 | [.i a,.i b,.i c]=>some ⟨a,b,c⟩
 |_=>none
def Ys:List SC->Option Duo
 | [.i a,.i b]=>some ⟨a,b⟩
 |_=>none
def Qv:List SC->Option ByteArray
 | [.v (.string s)]=>some s
 |_=>none
def wS:List SC->Option Sli
 | [.h x]=>some x
 | [.v (.slice a n c)]=>some ⟨a,n,c⟩
 |_=>none
def Yq:List SC->Option aCa
 | [.i a,.i b,c,d]=>match wS [c],wS [d]with
   |some x,some y=>some ⟨a,b,x,y⟩
   |_,_=>none
 |_=>none
def Qx:List SC->Option (Option Addr)
 | [.q x]=>some x
 | [.v (.pointer x)]=>some x
 |_=>none
def Yr:List SC->Option Fnd
 | [.i a,.i b,.i c,.i d,.i e,.b f]=>some ⟨a,b,c,d,e,f⟩
 |_=>none
def EK.ofSym:(k:EK)->List SC->Option k.ty
 | .int=>Qw
 | .bool=>Gb
 | .arc=>Yt
 | .trip=>Ni
 | .duo=>Ys
 | .str=>Qv
 | .sli=>wS
 | .fst=>Yq
 | .adr=>Qx
 | .fnd=>Yr
def Ml (x:Arc):Nat->SC->Option Arc
 |0,.i n=>some ⟨n,x.i,x.o,x.t,x.w⟩
 |1,.i n=>some ⟨x.f,n,x.o,x.t,x.w⟩
 |2,.i n=>some ⟨x.f,x.i,n,x.t,x.w⟩
 |3,.i n=>some ⟨x.f,x.i,x.o,n,x.w⟩
 |4,.i n=>some ⟨x.f,x.i,x.o,x.t,n⟩
 |_,_=>none
def Fg (x:Trip):Nat->SC->Option Trip
 |0,.i n=>some ⟨n,x.b,x.c⟩
 |1,.i n=>some ⟨x.a,n,x.c⟩
 |2,.i n=>some ⟨x.a,x.b,n⟩
 |_,_=>none
def Mk (x:Duo):Nat->SC->Option Duo
 |0,.i n=>some ⟨n,x.b⟩
 |1,.i n=>some ⟨x.a,n⟩
 |_,_=>none
def Mj (x:Fnd):Nat->SC->Option Fnd
 |0,.i n=>some ⟨n,x.arc,x.s,x.i,x.o,x.dn⟩
 |1,.i n=>some ⟨x.cost,n,x.s,x.i,x.o,x.dn⟩
 |2,.i n=>some ⟨x.cost,x.arc,n,x.i,x.o,x.dn⟩
 |3,.i n=>some ⟨x.cost,x.arc,x.s,n,x.o,x.dn⟩
 |4,.i n=>some ⟨x.cost,x.arc,x.s,x.i,n,x.dn⟩
 |5,.b c=>some ⟨x.cost,x.arc,x.s,x.i,x.o,c⟩
 |_,_=>none
def EK.setF:(k:EK)->k.ty->Nat->SC->Option k.ty
 | .int,_,0,c=>Qw [c]
 | .bool,_,0,c=>Gb [c]
 | .str,_,0,c=>Qv [c]
 | .sli,_,0,c=>wS [c]
 | .arc,x,n,c=>Ml x n c
 | .trip,x,n,c=>Fg x n c
 | .duo,x,n,c=>Mk x n c
 | .adr,_,0,c=>Qx [c]
 | .fnd,x,n,c=>Mj x n c
 |_,_,_,_=>none
abbrev Env:=Nat->Option Addr
def lkA {α:Type}:List (Addr×α)->Addr->Option α
 | [],_=>none
 |(b,x)::l,a=>if b=a then some x else lkA l a
def aM {α:Type} (m:List (Addr×List α×Nat)) (oa:Option Addr):List α:=match oa with
 |none=> []
 |some a=>match lkA m a with
  |some x=>x.1
  |none=> []
def tA {α:Type} (m:List (Addr×α)) (a:Addr) (y:α):List (Addr×α):=m.map fun p=>if p.1=a then(p.1,y)else p
def mR {α:Type} (m:List (Addr×List α×Nat)) (oa:Option Addr) (j:Nat) (e:α):List (Addr×List α×Nat):=match oa with
 |none=>m
 |some a=>match lkA m a with
  |some x=>tA m a (x.1.set j e,x.2)
  |none=>m
def Hd {α:Type} (m:List (Addr×List α×Nat)) (x:Sli):Prop:=match x.a with
 |none=>x.n=0/\x.c=0
 |some a=>match lkA m a with
  |some y=>x.n=y.1.length/\x.c<=y.1.length+y.2
  |none=>False
inductive App {α:Type} (m:List (Addr×List α×Nat)) (x:Sli) (ys:List α):List (Addr×List α×Nat)->Sli->Prop
 |stay (h:ys=[]):App m x ys m x
 |room {a:Addr} {y:List α×Nat} {sp:Nat} (h:x.a=some a) (hl:lkA m a=some y) (hc:x.c<=y.1.length+ys.length+sp):App m x ys (tA m a (y.1++ys,sp)) ⟨some a,x.n+ys.length,x.c⟩
 |fresh {a:Addr} {sp:Nat} (h:lkA m a=none) (hb: ∀b y,lkA m b=some y->b.block≠a.block):App m x ys ((a,aM m x.a++ys,sp)::m) ⟨some a,x.n+ys.length,x.n+ys.length+sp⟩
inductive Frz {α:Type} (m:List (Addr×List α×Nat)) (xs:List α) (sp len cap:Nat):List (Addr×List α×Nat)->Sli->Prop
 |nil (h:xs=[]):Frz m xs sp len cap m ⟨none,len,cap⟩
 |own {a:Addr} (h:lkA m a=none) (hb: ∀b y,lkA m b=some y->b.block≠a.block):Frz m xs sp len cap ((a,xs,sp)::m) ⟨some a,len,cap⟩
def Pg {κ ν:Type} (es:List (κ×ν×Nat)) (clk:Nat):Prop:=(es.map (·.2.2)).Nodup/\ ∀e∈es,e.2.2<clk
inductive SO where
 |box (T:Nat) (cells:List SC)
 |arr (own:Bool) (E:Nat) (k:EK) (xs:List k.ty) (spare:Nat)
 |gen (A:Option Addr->(Nat->Prop)->World->Prop)
 |pool (E:Nat) (k:EK) (m:List (Addr×List k.ty×Nat))
 |map (kk vk:EK) (es:List (kk.ty×vk.ty×Nat)) (clk:Nat)
 |iter (mid since:Nat) (seen:List Nat) (last cur:Nat)
structure S where
 fr:List (Nat×SV)
 hp:List (Nat×SO)
 nx:Nat
def S.go (s:S) (F:List (Nat×SV)->List (Nat×SO)->Nat->Prop):Prop:=match s with
 |⟨fr,hp,nx⟩=>F fr hp nx
theorem S.go_eq (s:S) (F:List (Nat×SV)->List (Nat×SO)->Nat->Prop):s.go F=F s.fr s.hp s.nx:=by cases s;rfl
structure STy where
 kd:Nat
 agg:Bool
 offs:List (Nat×Nat)
 zero:List SC
 sl:Option (Nat×EK×Nat)
 mp:Option (Nat×EK×Nat×EK)
def aE {α:Type}:List (Nat×α)->Nat->Option α
 | [],_=>none
 |(t,v)::l,u=>match Nat.beq t u with
  |true=>some v
  |false=>aE l u
def upd {α:Type}:List (Nat×α)->Nat->α->List (Nat×α)
 | [],t,v=> [(t,v)]
 |(t',v')::l,t,v=>match Nat.beq t' t with
  |true=>(t,v)::l
  |false=>(t',v')::upd l t v
def eZ {α:Type}:List (Nat×α)->Nat->α->(List (Nat×α)->Prop)->Prop
 | [],t,v,k=>k [(t,v)]
 |(t',v')::l,t,v,k=>match Nat.beq t' t with
  |true=>k ((t,v)::l)
  |false=>eZ l t v fun l'=>k ((t',v')::l')
theorem aX {α:Type} (l:List (Nat×α)) (t:Nat) (v:α) (k:List (Nat×α)->Prop):eZ l t v k <-> k (upd l t v):=by
 induction l generalizing k with
 |nil=>exact Iff.rfl
 |cons p l ih=>
  obtain⟨t',v'⟩:=p
  simp only[eZ,upd]
  split
  ·exact Iff.rfl
  ·exact ih _
theorem cH (a b:Nat):Nat.beq a b=decide (a=b):=by
 rw[Bool.eq_iff_iff];simp
theorem aC {α:Type} (t:Nat) (v:α) (l:List (Nat×α)) (u:Nat):aE ((t,v)::l) u=if t=u then some v else aE l u:=by
 simp only[aE,cH]
 by_cases h:t=u<;>simp[h]
theorem Hv {α:Type} (t':Nat) (v':α) (l:List (Nat×α)) (t:Nat) (v:α):
  upd ((t',v')::l) t v=if t'=t then(t,v)::l else(t',v')::upd l t v:=by
 simp only[upd,cH]
 by_cases h:t'=t<;>simp[h]
theorem cJ {α:Type} (l:List (Nat×α)) (t:Nat) (v:α) (u:Nat):aE (upd l t v) u=if t=u then some v else aE l u:=by
 induction l with
 |nil=>simp only[upd,aC]
 |cons p l ih=>
  obtain⟨t',v'⟩:=p
  rw[Hv]
  by_cases h:t'=t
  ·subst h
   rw[if_pos rfl,aC,aC]
   by_cases hu:t'=u<;>simp[hu]
  ·rw[if_neg h,aC,aC,ih]
   by_cases hu:t'=u
   ·subst hu
    rw[if_pos rfl,if_neg (Ne.symm h),if_pos rfl]
   ·rw[if_neg hu,if_neg hu]
def lit:Value->Option SV
 | .int .i64 n=>some (.i n)
 | .int .u64 n=>some (.c (.u n))
 | .bool b=>some (.b b)
 | .slice none 0 0=>some (.c (.v (.slice none 0 0)))
 | .string s=>some (.c (.v (.string s)))
 | .pointer none=>some (.c (.v (.pointer none)))
 | .map none=>some (.c (.v (.map none)))
 | .nilFunc=>some (.c (.v .nilFunc))
 | .int .u8 n=>some (.c (.v (.int .u8 n)))
 | .nilIface=>some (.c (.v .nilIface))
 |_=>none
def ev (fr:List (Nat×SV)):Operand->Option SV
 | .tmp t=>aE fr t
 | .const v=>lit v
 | .func f=>some (.c (.fn f []))
 | .global _=>none
def yE {α:Type}:List α->Nat->List α
 |_,0=> []
 | [],_=> []
 |a::l,n+1=>a::yE l n
def nU {α:Type}:List α->Nat->Option α
 | [],_=>none
 |a::_,0=>some a
 |_::l,n+1=>nU l n
def Ej {α:Type}:List α->Nat->List α
 |l,0=>l
 | [],_=> []
 |_::l,n+1=>Ej l n
def jQ {α:Type}:List α->List α->List α
 | [],l=>l
 |a::k,l=>a::jQ k l
def dN {α:Type}:List α->Nat
 | []=>0
 |_::l=>dN l+1
theorem sS {α:Type} (l:List α) (n:Nat):yE l n=l.take n:=by
 induction l generalizing n with
 |nil=>cases n<;>rfl
 |cons a l ih=>cases n with
  |zero=>rfl
  |succ n=>simp[yE,ih]
theorem dH {α:Type} (l:List α) (n:Nat):nU l n=l[n]?:=by
 induction l generalizing n with
 |nil=>cases n<;>rfl
 |cons a l ih=>cases n with
  |zero=>rfl
  |succ n=>simp[nU,ih]
theorem Al {α:Type} (l:List α) (n:Nat):Ej l n=l.drop n:=by
 induction l generalizing n with
 |nil=>cases n<;>rfl
 |cons a l ih=>cases n with
  |zero=>rfl
  |succ n=>simp[Ej,ih]
theorem nD {α:Type} (k l:List α):jQ k l=k++l:=by
 induction k with
 |nil=>rfl
 |cons a k ih=>simp[jQ,ih]
theorem bD {α:Type} (l:List α):dN l=l.length:=by
 induction l with
 |nil=>rfl
 |cons a k ih=>simp[dN,ih]
def iZ:List SC->(List SC->Prop)->Prop
 | [],k=>k []
 |c::l,k=>iZ l fun l'=>match c with
  | .i n=>k (.i n::l')
  | .b n=>k (.b n::l')
  | .v n=>k (.v n::l')
  | .ptr a b=>k (.ptr a b::l')
  | .elt a b c d=>k (.elt a b c d::l')
  | .sl a b c d e=>k (.sl a b c d e::l')
  | .fn a b=>k (.fn a b::l')
  | .fnv a b=>k (.fnv a b::l')
  | .u a=>k (.u a::l')
  | .h a=>k (.h a::l')
  | .q a=>k (.q a::l')
  | .mp a=>k (.mp a::l')
  | .pe a b c d e=>k (.pe a b c d e::l')
  | .fm a b c=>k (.fm a b c::l')
theorem dY (l:List SC) (k:List SC->Prop):iZ l k <-> k l:=by
 induction l generalizing k with
 |nil=>exact Iff.rfl
 |cons c l ih=>
  simp only[iZ,ih]
  cases c<;>exact Iff.rfl
def pH (x:SA) (k:SA->Prop):Prop:=match x with
 | .c c=>iZ [c] fun l=>match l with
   | [d]=>k (.c d)
   |_=>False
 | .agg l=>iZ l fun l'=>k (.agg l')
theorem kQ (x:SA) (k:SA->Prop):pH x k <-> k x:=by
 cases x with
 |c c=>simp only[pH,dY]
 |agg l=>simp only[pH,dY]
structure nX (p q:Prop):Prop where
 one:p
 two:q
structure Ob (p:Prop) (k:Prop):Prop where
 ob:p
 go:k
def mH (c:Bool) (x y:Prop):Prop:=match c with
 |true=>x
 |false=>y
theorem mG (c:Bool) (x y:Prop):mH c x y <-> (if c=true then x else y):=by cases c<;>simp[mH]
def InI (n:Int):Prop:= -9223372036854775808<=n/\n<=9223372036854775807
def SO.own:SO->Bool
 | .arr own _ _ _ _=>own
 |_=>true
def EK.isAgg:EK->Bool
 | .arc| .trip| .duo| .fst| .fnd=>true
 |_=>false
def EK.symA (k:EK) (x:k.ty):SA:=match k.isAgg with
 |true=> .agg (k.sym x)
 |false=>match k.sym x with
  | [c]=> .c c
  |l=> .agg l
def EK.beq:EK->EK->Bool
 | .int,.int| .bool,.bool| .arc,.arc| .trip,.trip| .duo,.duo| .str,.str| .sli,.sli| .fst,.fst| .adr,.adr| .fnd,.fnd=>true
 |_,_=>false
theorem EK.beq_eq {k k':EK} (h:EK.beq k k'=true):k=k':=by
 cases k<;>cases k'<;>first|rfl|cases h
def EK.deq:(k:EK)->DecidableEq k.ty
 | .int=>(inferInstance:DecidableEq Int)
 | .bool=>(inferInstance:DecidableEq Bool)
 | .arc=>(inferInstance:DecidableEq Arc)
 | .trip=>(inferInstance:DecidableEq Trip)
 | .duo=>(inferInstance:DecidableEq Duo)
 | .str=>(inferInstance:DecidableEq ByteArray)
 | .sli=>(inferInstance:DecidableEq Sli)
 | .fst=>(inferInstance:DecidableEq aCa)
 | .adr=>(inferInstance:DecidableEq (Option Addr))
 | .fnd=>(inferInstance:DecidableEq Fnd)
instance EK.instDeq (k:EK):DecidableEq k.ty:=k.deq
def lkM {κ ν:Type} [DecidableEq κ]:List (κ×ν×Nat)->κ->Option ν
 | [],_=>none
 |(x,v,_)::l,y=>if x=y then some v else lkM l y
def nS {κ ν:Type} [DecidableEq κ]:List (κ×ν×Nat)->κ->ν->List (κ×ν×Nat)
 | [],_,_=> []
 |(x,w,n)::l,y,v=>if x=y then(x,v,n)::l else(x,w,n)::nS l y v
def bL {κ ν:Type} [DecidableEq κ] (es:List (κ×ν×Nat)) (clk:Nat) (x:κ) (v:ν):List (κ×ν×Nat)×Nat:=
 if(lkM es x).isSome then(nS es x v,clk)else(es++[(x,v,clk)],clk+1)
def SC.den (β:Env):SC->Value
 | .i n=> .int .i64 n
 | .b c=> .bool c
 | .v x=>x
 | .ptr id off=> .pointer ((β id).map (·.add off))
 | .elt id sz k off=> .pointer ((β id).map (·.add (k*sz+off)))
 | .sl id sz lo len cap=> .slice ((β id).map (·.add (lo*sz))) len cap
 | .fn f caps=> .func (.func f) #[] (caps.map fun p=>Value.pointer ((β p.1).map (·.add p.2))).toArray
 | .fnv f caps=> .func (.func f) #[] caps.toArray
 | .u n=> .int .u64 n
 | .h x=> .slice x.a x.n x.c
 | .q a=> .pointer a
 | .mp id=> .map ((β id).map (·.block))
 | .pe _ sz a k off=> .pointer (a.map (·.add (k*sz+off)))
 | .fm f id off=> .func (.func f) #[.pointer ((β id).map (·.add off))] #[]
def SA.den (β:Env):SA->Value
 | .c x=>x.den β
 | .agg l=> .agg (l.map (SC.den β)).toArray
def SV.den (β:Env):SV->Value
 | .a x=>x.den β
 | .tup l=> .tuple (l.map (SA.den β)).toArray
def SC.lt (n:Nat):SC->Prop
 | .ptr id _| .elt id _ _ _| .sl id _ _ _ _| .mp id| .pe id _ _ _ _| .fm _ id _=>id<n
 | .fn _ caps=> ∀p∈caps,p.1<n
 | .v x=>x.oneCell'=true
 |_=>True
def SA.lt (n:Nat):SA->Prop
 | .c x=>x.lt n
 | .agg l=> ∀c∈l,SC.lt n c
def SV.lt (n:Nat):SV->Prop
 | .a x=>x.lt n
 | .tup l=> ∀c∈l,SA.lt n c
def SO.lt (n:Nat):SO->Prop
 | .box _ cs=> ∀c∈cs,SC.lt n c
 | .iter mid _ _ _ _=>mid<n
 |_=>True
theorem SC.lt_mono {n m:Nat} (h:n<=m) {c:SC} (hc:c.lt n):c.lt m:=by
 cases c<;>simp only[SC.lt]at* <;>first|omega|trivial|exact hc|(intro p hp;have:=hc p hp;omega)
theorem SA.lt_mono {n m:Nat} (h:n<=m) {c:SA} (hc:c.lt n):c.lt m:=by
 cases c with
 |c x=>exact SC.lt_mono h hc
 |agg l=>exact fun c hl=>SC.lt_mono h (hc c hl)
theorem SV.lt_mono {n m:Nat} (h:n<=m) {c:SV} (hc:c.lt n):c.lt m:=by
 cases c with
 |a x=>exact SA.lt_mono (c:=x) h hc
 |tup l=>exact fun c hl=>SA.lt_mono h (hc c hl)
theorem SO.lt_mono {n m:Nat} (h:n<=m) {o:SO} (ho:o.lt n):o.lt m:=by
 cases o with
 |box T l=>exact fun c hl=>SC.lt_mono h (ho c hl)
 |iter mid a b c d=>exact Nat.lt_of_lt_of_le ho h
 |_=>trivial
theorem SC.den_congr {n:Nat} {β γ:Env} (h: ∀id,id<n->γ id=β id) {c:SC} (hc:c.lt n):c.den γ=c.den β:=by
 cases c<;>simp only[SC.lt,SC.den]at* <;>try rw[h _ hc]
 congr 2
 apply List.map_congr_left
 intro p hp
 rw[h _ (hc p hp)]
theorem SC.map_den_congr {n:Nat} {β γ:Env} (h: ∀id,id<n->γ id=β id) {l:List SC} (hl: ∀c∈l,SC.lt n c):l.map (SC.den γ)=l.map (SC.den β):=
 List.map_congr_left fun c hc=>SC.den_congr h (hl c hc)
theorem SA.den_congr {n:Nat} {β γ:Env} (h: ∀id,id<n->γ id=β id) {c:SA} (hc:c.lt n):c.den γ=c.den β:=by
 cases c with
 |c x=>exact SC.den_congr h hc
 |agg l=>simp only[SA.den];rw[SC.map_den_congr h hc]
theorem SV.den_congr {n:Nat} {β γ:Env} (h: ∀id,id<n->γ id=β id) {c:SV} (hc:c.lt n):c.den γ=c.den β:=by
 cases c with
 |a x=>exact SA.den_congr (c:=x) h hc
 |tup l=>
  simp only[SV.den]
  rw[List.map_congr_left fun c hl=>SA.den_congr h (hc c hl)]
def EK.cells (k:EK) (x:k.ty):List Value:=(k.sym x).map (SC.den fun _=>none)
theorem EK.sym_den (k:EK) (x:k.ty) (β:Env):(k.sym x).map (SC.den β)=k.cells x:=by
 cases k<;>rfl
theorem EK.sym_lt (k:EK) (x:k.ty) (n:Nat): ∀c∈k.sym x,SC.lt n c:=by
 cases k<;>simp[EK.sym,SC.lt,Value.oneCell']
theorem EK.cells_length (k:EK) (x:k.ty):(k.cells x).length=k.sz:=by cases k<;>rfl
theorem EK.sym_length (k:EK) (x:k.ty):(k.sym x).length=k.sz:=by cases k<;>rfl
def aH (k:EK) (xs:List k.ty):List Value:=xs.flatMap k.cells
theorem aP (k:EK) (xs:List k.ty):(aH k xs).length=xs.length*k.sz:=by
 induction xs with
 |nil=>simp[aH]
 |cons x xs ih=>
  simp only[aH,List.flatMap_cons,List.length_append,EK.cells_length,List.length_cons]at*
  rw[ih,Nat.succ_mul];omega
theorem pI (k:EK): ∀(xs:List k.ty) (i off:Nat),i<xs.length->off<k.sz->(aH k xs)[i*k.sz+off]?=(k.cells (xs.getD i k.dflt))[off]?
 | [],i,off,hi,_=>by simp at hi
 |x::xs,0,off,_,ho=>by
  simp only[aH,List.flatMap_cons,Nat.zero_mul,Nat.zero_add,List.getD_cons_zero]
  rw[List.getElem?_append_left (by rw[EK.cells_length];exact ho)]
 |x::xs,i+1,off,hi,ho=>by
  have ih:=pI k xs i off (by simpa using hi) ho
  simp only[aH,List.flatMap_cons,List.getD_cons_succ]at*
  rw[List.getElem?_append_right (by rw[EK.cells_length,Nat.succ_mul];omega),<-ih,EK.cells_length]
  congr 1
  rw[Nat.succ_mul];omega
def EK.val (k:EK) (x:k.ty):Value:=(k.symA x).den fun _=>none
theorem EK.symA_den (k:EK) (x:k.ty) (β:Env):(k.symA x).den β=k.val x:=by cases k<;>rfl
theorem EK.symA_lt (k:EK) (x:k.ty) (n:Nat):(k.symA x).lt n:=by
 cases k<;>simp[EK.symA,EK.isAgg,EK.sym,SA.lt,SC.lt,Value.oneCell']
def ent (kk vk:EK) (e:kk.ty×vk.ty×Nat):MapEntry:= {key:=kk.val e.1,val:=vk.val e.2.1,born:=e.2.2}
structure gF (fp:Nat->Prop) (w:World) (E:Nat) (k:EK) (m:List (Addr×List k.ty×Nat)):Prop where
 row: ∀a xs sp,lkA m a=some (xs,sp)->a.spot=none/\fp a.block/\ ∃pre post,w.heap[a.block]?=some (.cells (pre++aH k xs++post).toArray E (0,0))/\pre.length=a.off/\sp*k.sz<=post.length
 one: ∀a a' x x',lkA m a=some x->lkA m a'=some x'->a.block=a'.block->a=a'
def SO.ok (β:Env) (Z fp:Nat->Prop) (w:World) (oa:Option Addr):SO->Prop
 | .box T cs=> ∃b,oa=some ⟨b,0,none⟩/\fp b/\w.heap[b]?=some (.cells (cs.map (SC.den β)).toArray T (0,0))
 | .arr own E k xs sp=>match oa with
   |none=>xs=[]/\sp=0
   |some a=>match own with
    |true=>a.spot=none/\fp a.block/\ ∃pre post,w.heap[a.block]?=some (.cells (pre++aH k xs++post).toArray E (0,0))/\pre.length=a.off/\sp*k.sz<=post.length
    |false=>xs≠ []->a.spot=none/\Z a.block/\a.block<w.heap.size/\ ∀j v,(aH k xs)[j]?=some v->w.cell? (a.add j)=some v
 | .pool E k m=>gF fp w E k m
 | .map kk vk es clk=> ∃b,oa=some ⟨b,0,none⟩/\fp b/\w.heap[b]?=some (.map (es.map (ent kk vk)).toArray clk)
 | .iter mid since seen last _=> ∃b r,oa=some ⟨b,0,none⟩/\fp b/\β mid=some ⟨r,0,none⟩/\w.heap[b]?=some (.mapIter (some r) since seen.toArray last)
 | .gen A=>A oa fp w/\ ∀w':World,(∀b,fp b->w'.heap[b]?=w.heap[b]?)->w'.heap[0]?=w.heap[0]?->A oa fp w'
structure aR (β:Env) (Z:Nat->Prop) (fp:Nat->Nat->Prop) (s:S) (w:World):Prop where
 zlt':Z 0/\ ∀b,Z b->b<w.heap.size
 flt: ∀id o,aE s.hp id=some o-> ∀b,fp id b->b<w.heap.size/\ ¬Z b
 sep: ∀id id' o o',aE s.hp id=some o->aE s.hp id'=some o'->id≠id'-> ∀b,fp id b-> ¬fp id' b
 obj: ∀id o,aE s.hp id=some o->o.ok β Z (fp id) w (β id)
 lto: ∀id o,aE s.hp id=some o->id<s.nx/\o.lt s.nx
theorem aR.zlt {β:Env} {Z:Nat->Prop} {fp:Nat->Nat->Prop} {s:S} {w:World} (h:aR β Z fp s w): ∀b,Z b->b<w.heap.size:=h.zlt'.2
abbrev NT:=Nat×List Deferred
structure cQ (β:Env) (s:S) (N:NT) (a:Act):Prop where
 tmp: ∀t v,aE s.fr t=some v->a.tmps[t]?=some (v.den β)
 lt: ∀t v,aE s.fr t=some v->v.lt s.nx
 size:a.tmps.size=N.1
 defers:a.defers=N.2
theorem jY {w:World} {b off E:Nat} {k:EK} {xs:List k.ty} {pre post:List Value}
  (h:w.heap[b]?=some (.cells (pre++aH k xs++post).toArray E (0,0))) (hp:pre.length=off) (j:Nat) (v:Value) (hj:(aH k xs)[j]?=some v):
  w.cell? ⟨b,off+j,none⟩=some v:=by
 have hlt:j<(aH k xs).length:=by
  rcases Nat.lt_or_ge j (aH k xs).length with h'|h'
  ·exact h'
  ·rw[List.getElem?_eq_none h']at hj;cases hj
 simp only[World.cell?,h]
 simp only[Option.isSome_none,Bool.false_eq_true,if_false,List.getElem?_toArray]
 rw[List.append_assoc,List.getElem?_append_right (by omega),List.getElem?_append_left (by omega),<-hj]
 congr 1;omega
theorem SO.ok_cell {β:Env} {Z fp:Nat->Prop} {w:World} {oa:Option Addr} {own:Bool} {E:Nat} {k:EK} {xs:List k.ty} {sp:Nat}
  (h:SO.ok β Z fp w oa (.arr own E k xs sp)) (hne:xs≠ []):
  ∃a,oa=some a/\a.spot=none/\ ∀j v,(aH k xs)[j]?=some v->w.cell? ⟨a.block,a.off+j,none⟩=some v:=by
 cases oa with
 |none=>exact absurd h.1 hne
 |some a=>
  cases own with
  |true=>
   obtain⟨hs,_,pre,post,hh,hp,_⟩:=h
   exact⟨a,rfl,hs,fun j v hj=>jY hh hp j v hj⟩
  |false=>
   obtain⟨hs,_,_,hc⟩:=h hne
   refine⟨a,rfl,hs,fun j v hj=>?_⟩
   have:=hc j v hj
   obtain⟨b,o,sp⟩:=a
   cases hs
   rwa [Addr.add_lit]at this
theorem aI {β:Env} {s:S} {N:NT} {a:Act} (hf:cQ β s N a) {x:Operand} {v:SV} (h:ev s.fr x=some v):a.eval x=v.den β/\v.lt s.nx:=by
 cases x with
 |tmp t=>
  have h1:=hf.tmp t v h
  exact⟨by simp[Act.eval,Array.getD_eq_getD_getElem?,h1],hf.lt t v h⟩
 |const c=>
  simp only[ev,lit]at h
  split at h<;>cases h<;>simp[Act.eval,SV.den,SA.den,SC.den,SV.lt,SA.lt,SC.lt,Value.oneCell']
 |global g=>cases h
 |func f=>
  simp only[ev]at h
  cases h
  simp[Act.eval,SV.den,SA.den,SC.den,SV.lt,SA.lt,SC.lt]
theorem lE {n:Int} (h:InI n):IntKind.i64.wrap n=n:=IntWalk.i64_in n (by have:=h.1;have:=h.2;omega)
def STy.zv (d:STy):Value:=match d.agg with
 |true=> .agg (d.zero.map (SC.den fun _=>none)).toArray
 |false=>match d.zero with
  | [z]=>z.den fun _=>none
  |_=>undef
def jH (kk vk:EK) (x:kk.ty):List (kk.ty×vk.ty×Nat)->Nat->Option (Nat×Value)
 | [],_=>none
 |e::l,i=>if e.1=x then some (i,vk.val e.2.1)else jH kk vk x l (i+1)
structure Lx (P:Program) (t kt:Nat) (kk:EK) (vt:Nat) (vk:EK):Prop where
 ty:P.underlying t=some (.map kt vt)
 ck: ∀(x:kk.ty) (w:World) (e:Bool),(Instr.checkKey e 10000 kt (kk.val x)).run P w= .ok () w
 fk: ∀(x:kk.ty) (es:List (kk.ty×vk.ty×Nat)) (w:World),(Instr.findKey kt (kk.val x) (es.map (ent kk vk))).run P w= .ok (jH kk vk x es 0) w
 sb: ∀x:kk.ty,Instr.sameBits 10000 (kk.val x) (kk.val x)=true
 zv: ∀w,(zeroValue vt).run P w= .ok (vk.val vk.dflt) w
structure bI (P:Program) (t:Nat) (d:STy):Prop where
 agg: ∀w,(isAgg t).run P w= .ok d.agg w:=by intro _;kernel_rfl
 size: ∀w,(sizeOf t).run P w= .ok d.zero.length w:=by intro _;kernel_rfl
 zero: ∀w,(zeroValue t).run P w= .ok d.zv w:=by intro _;kernel_rfl
 one:d.agg=false-> ∃z,d.zero=[z]:=by intro h;first|(cases h;done)|exact⟨_,rfl⟩
 zlt: ∀c∈d.zero,c.lt 0:=by simp[SC.lt,Value.oneCell']
 str:d.agg=true-> ∃fields,P.underlying t=some (.struct fields)/\ ∀(i:Nat) (p:Nat×Nat),d.offs[i]?=some p->
  ∃f:Field,fields[i]?=some f/\f.offset=p.1/\(∀w,(sizeOf f.type).run P w= .ok p.2 w)/\p.2≠0:=by intro h;cases h;done
 bt:d.agg=true-> ∀parts,P.built t parts=Instr.fill (fun i=>d.offs.toArray[i]?) (d.zero.map (SC.den fun _=>none)).toArray parts:=by intro h;first|(cases h;done)|(intro _;kernel_rfl)
 sl: ∀E k bytes,d.sl=some (E,k,bytes)->P.underlying t=some (.slice E)/\(∀w,(sizeOf E).run P w= .ok k.sz w)/\
  ∃(i:TypeInfo) (z:Value),P.info? E=some i/\i.zero=some z/\i.size=k.sz/\i.bytes=bytes/\z.cells.toList=k.cells k.dflt:=by intro _ _ _ h;cases h;done
 mp: ∀kt kk vt vk,d.mp=some (kt,kk,vt,vk)->Lx P t kt kk vt vk:=by intro _ _ _ _ h;cases h;done
 kd1:d.kd=1->P.underlying t=some (.int .i64):=by intro h;first|(cases h;done)|kernel_rfl
 kd2:d.kd=2->P.underlying t=some .bool:=by intro h;first|(cases h;done)|kernel_rfl
 kd3:d.kd=3->P.underlying t=some .string:=by intro h;first|(cases h;done)|kernel_rfl
 kd4:d.kd=4->P.underlying t=some (.int .u64):=by intro h;first|(cases h;done)|kernel_rfl
 kd9:d.kd=9->P.underlying t=some (.int .u8):=by intro h;first|(cases h;done)|kernel_rfl
 kd10:d.kd=10-> ∃ms,P.underlying t=some (.interface ms):=by intro h;cases h;done
 cmp:d.kd=7->(∀(op:BinOp) (x y:Operand) (xs ys:Array Value) (w:World),(eqGuard op t x y (.agg xs) (.agg ys)).run P w= .ok () w)/\
  ∀(l m:List Int) (w:World),l.length=d.zero.length->m.length=d.zero.length->(Op.equalIn 10000 t (.agg (l.map (Value.int .i64)).toArray) (.agg (m.map (Value.int .i64)).toArray)).run P w= .ok (l==m) w:=by intro h;cases h;done
theorem lS {P:Program} {t:Nat} {offs:List (Nat×Nat)} {fields:Array Field} (h:P.underlying t=some (.struct fields)) (h2: ∀(i:Nat) (p:Nat×Nat),offs[i]?=some p-> ∃f:Field,fields[i]?=some f/\f.offset=p.1/\(∀w,(sizeOf f.type).run P w= .ok p.2 w)/\p.2≠0:=by
  intro i p h
  repeat (first|(simp at h;done)|(cases i;(focus (cases h;exact⟨_,rfl,rfl,fun _=>by kernel_rfl,by decide⟩));rename_i i))):
 ∃fields,P.underlying t=some (.struct fields)/\ ∀(i:Nat) (p:Nat×Nat),offs[i]?=some p-> ∃f:Field,fields[i]?=some f/\f.offset=p.1/\(∀w,(sizeOf f.type).run P w= .ok p.2 w)/\p.2≠0:=⟨fields,h,h2⟩
def cZ (P:Program) (ty:List (Nat×STy)):Prop:= ∀t d,aE ty t=some d->bI P t d
def cellsOf:SV->Option (List SC)
 | .a (.c c)=>some [c]
 | .a (.agg l)=>some l
 |_=>none
def wr {α:Type} (z:List α) (off:Nat) (cs:List α):List α:=jQ (yE z off) (jQ cs (Ej z (off+dN cs)))
def Hh (fr:List (Nat×SV)) (offs:List (Nat×Nat)):List (Nat×Operand)->List SC->(List SC->Prop)->Prop
 | [],z,k=>k z
 |(i,x)::r,z,k=>match nU offs i,ev fr x with
  |some (off,size),some v=>match cellsOf v with
   |some cs=>match Nat.beq (dN cs) size,Nat.ble (off+size) (dN z)with
    |true,true=>iZ (wr z off cs) fun z'=>Hh fr offs r z' k
    |_,_=>False
   |none=>False
  |_,_=>False
def Rx (fr:List (Nat×SV)):List Operand->(List (Nat×Nat)->Prop)->Prop
 | [],k=>k []
 |x::l,k=>match ev fr x with
  |some (.a (.c (.ptr id off)))=>Rx fr l fun r=>k ((id,off)::r)
  |_=>False
def aDc (op:BinOp) (x y:Int) (k:SV->Prop):Prop:=
 match op with
 | .add=>Ob (InI (x+y)) (k (.i (x+y)))
 | .sub=>Ob (InI (x-y)) (k (.i (x-y)))
 | .mul=>Ob (InI (x*y)) (k (.i (x*y)))
 | .eql=>k (.b (x==y))
 | .neq=>k (.b (x !=y))
 | .lss=>k (.b (decide (x<y)))
 | .leq=>k (.b (decide (x<=y)))
 | .gtr=>k (.b (decide (x>y)))
 | .geq=>k (.b (decide (x>=y)))
 | .quo=>Ob (0<=x/\0<y/\InI x) (k (.i (x / y)))
 | .rem=>Ob (0<=x/\0<y/\InI x) (k (.i (x % y)))
 |_=>False
def aC9 (op:BinOp) (x y:Int) (k:SV->Prop):Prop:=
 match op with
 | .shr=>Ob (y=1) (k (.c (.u (x / 2))))
 | .eql=>k (.b (x==y))
 | .neq=>k (.b (x !=y))
 | .lss=>k (.b (decide (x<y)))
 | .leq=>k (.b (decide (x<=y)))
 | .gtr=>k (.b (decide (x>y)))
 | .geq=>k (.b (decide (x>=y)))
 |_=>False
def aDd (op:BinOp) (x y:Int) (k:SV->Prop):Prop:=
 match op with
 | .eql=>k (.b (x==y))
 | .neq=>k (.b (x !=y))
 | .lss=>k (.b (decide (x<y)))
 | .leq=>k (.b (decide (x<=y)))
 | .gtr=>k (.b (decide (x>y)))
 | .geq=>k (.b (decide (x>=y)))
 |_=>False
def aDb (op:BinOp) (x:Value) (k:SV->Prop):Prop:=
 match x,op with
 | .nilIface,.eql=>k (.b true)
 | .nilIface,.neq=>k (.b false)
 | .iface _ _,.eql=>k (.b false)
 | .iface _ _,.neq=>k (.b true)
 |_,_=>False
def aBE:Operand->Bool
 | .const _=>true
 |_=>false
def aAu (b:ByteArray) (n:Nat):Int:=((b.data.toList.getD n 0).toNat:Nat)
def zY:List SC->Option (List Int)
 | []=>some []
 | .i n::l=>match zY l with
   |some m=>some (n::m)
   |none=>none
 |_=>none
def aC4 (op:BinOp) (x y:List Int) (k:SV->Prop):Prop:=
 match op with
 | .eql=>k (.b (x==y))
 | .neq=>k (.b (!(x==y)))
 |_=>False
def aCN (op:BinOp) (p:Prop) (k:SV->Prop):Prop:=
 match op with
 | .eql=> ∀c:Bool,(c=true->p)->k (.b c)
 | .neq=> ∀c:Bool,(c=true->p)->k (.b (!c))
 |_=>False
def aDe (kd:Nat) (op:BinOp) (x y:Bool) (k:SV->Prop):Prop:=
 match Nat.beq kd 2 with
 |true=>match op with
  | .eql=>k (.b (x==y))
  | .neq=>k (.b (!(x==y)))
  |_=>False
 |false=>False
def aDa (op:BinOp) (x y:ByteArray) (k:SV->Prop):Prop:=
 match op with
 | .add=>Ob ((x.size+y.size:Nat)<=9223372036854775807) (k (.c (.v (.string (x++y)))))
 | .eql=>k (.b (x.toList==y.toList))
 | .neq=>k (.b (!(x.toList==y.toList)))
 |_=>False
def Tv (fr:List (Nat×SV)) (d:Int):Option Operand->(Int->Prop)->Prop
 |none,k=>k d
 |some x,k=>match ev fr x with
  |some (.a (.c (.i n)))=>k n
  |_=>False
def zX:SV->Bool
 | .a (.agg _)=>true
 |_=>false
def eqB:Bool->Bool->Bool
 |true,true=>true
 |false,false=>true
 |_,_=>false
def wY:List (Nat×SO)->Nat->Option Nat
 | [],_=>none
 |(id,.pool E _ _)::l,T=>match Nat.beq E T with
  |true=>some id
  |false=>wY l T
 |_::l,T=>wY l T
def qOp (ty:List (Nat×STy)) (op:Op) (s:S) (k:SV->Prop):Prop:=
 match op with
 | .move x| .assign x=>match ev s.fr x with
   |some v=>k v
   |none=>False
 | .pick c x y=>match ev s.fr c,ev s.fr x,ev s.fr y with
   |some (.a (.c (.b c))),some v,some u=>mH c (k v) (k u)
   |_,_,_=>False
 | .fieldAddr T x f=>match aE ty T,ev s.fr x with
   |some d,some (.a (.c (.ptr id off)))=>match d.agg,nU d.offs f,aE s.hp id with
    |true,some (o,_),some (.box _ _)=>k (.c (.ptr id (off+o)))
    |_,_,_=>False
   |some d,some (.a (.c (.elt id sz i off)))=>match d.agg,nU d.offs f,aE s.hp id with
    |true,some (o,_),some (.arr _ _ _ xs _)=>Ob (i<xs.length) (k (.c (.elt id sz i (off+o))))
    |_,_,_=>False
   |some d,some (.a (.c (.q a)))=>match d.agg,nU d.offs f,wY s.hp T with
    |true,some (o,_),some id=>match aE s.hp id with
     |some (.pool _ ek m)=>Ob (0<(aM m a).length) (k (.c (.pe id ek.sz a 0 o)))
     |_=>False
    |_,_,_=>False
   |some d,some (.a (.c (.pe id sz a i off)))=>match d.agg,nU d.offs f,aE s.hp id with
    |true,some (o,_),some (.pool _ _ m)=>Ob (i<(aM m a).length) (k (.c (.pe id sz a i (off+o))))
    |_,_,_=>False
   |_,_=>False
 | .load T x=>match aE ty T,ev s.fr x with
   |some d,some (.a (.c (.ptr id off)))=>match aE s.hp id with
    |some (.box _ cells)=>match d.agg with
     |true=>match Nat.ble (off+dN d.zero) (dN cells)with
      |true=>iZ (yE (Ej cells off) (dN d.zero)) fun l=>k (.a (.agg l))
      |false=>False
     |false=>match nU cells off with
      |some c=>k (.a (.c c))
      |none=>False
    |_=>False
   |some d,some (.a (.c (.elt id sz i off)))=>match aE s.hp id with
    |some (.arr _ _ ek xs _)=>match Nat.beq sz ek.sz with
     |true=>Ob (i<xs.length) (match d.agg with
      |true=>match Nat.beq off 0,Nat.beq (dN d.zero) ek.sz with
       |true,true=>iZ (ek.sym (xs.getD i ek.dflt)) fun l=>k (.a (.agg l))
       |_,_=>False
      |false=>match nU (ek.sym (xs.getD i ek.dflt)) off with
       |some c=>k (.a (.c c))
       |none=>False)
     |false=>False
    |_=>False
   |some d,some (.a (.c (.pe id sz a i off)))=>match aE s.hp id with
    |some (.pool _ ek m)=>match Nat.beq sz ek.sz with
     |true=>Ob (i<(aM m a).length) (match d.agg with
      |true=>match Nat.ble (off+dN d.zero) ek.sz with
       |true=>iZ (yE (Ej (ek.sym ((aM m a).getD i ek.dflt)) off) (dN d.zero)) fun l=>k (.a (.agg l))
       |false=>False
      |false=>match nU (ek.sym ((aM m a).getD i ek.dflt)) off with
       |some c=>k (.a (.c c))
       |none=>False)
     |false=>False
    |_=>False
   |some d,some (.a (.c (.q a)))=>match wY s.hp T with
    |some id=>match aE s.hp id with
     |some (.pool _ ek m)=>match d.agg,Nat.beq (dN d.zero) ek.sz with
      |true,true=>Ob (0<(aM m a).length) (iZ (ek.sym ((aM m a).getD 0 ek.dflt)) fun l=>k (.a (.agg l)))
      |_,_=>False
     |_=>False
    |none=>False
   |_,_=>False
 | .nilCheck x=>match ev s.fr x with
   |some (.a (.c (.ptr id off)))=>match aE s.hp id with
    |some (.box _ _)=>k (.c (.ptr id off))
    |_=>False
   |some (.a (.c (.elt id sz i off)))=>match aE s.hp id with
    |some (.arr _ _ _ xs _)=>Ob (i<xs.length) (k (.c (.elt id sz i off)))
    |_=>False
   |some (.a (.c (.fn f c)))=>k (.c (.fn f c))
   |some (.a (.c (.fnv f c)))=>k (.c (.fnv f c))
   |some (.a (.c (.q a)))=>Ob (a.isSome=true) (k (.c (.q a)))
   |_=>False
 | .binOp op T x y _=>match ev s.fr x,ev s.fr y with
   |some (.a (.c (.i a))),some (.a (.c (.i b)))=>aDc op a b k
   |some (.a (.c (.b a))),some (.a (.c (.b b)))=>match aE ty T with
    |some d=>aDe d.kd op a b k
    |none=>False
   |some (.a (.c (.v (.string a)))),some (.a (.c (.v (.string b))))=>aDa op a b k
   |some (.a (.c (.u a))),some (.a (.c (.u b)))=>aC9 op a b k
   |some (.a (.c (.v (.int .u8 a)))),some (.a (.c (.v (.int .u8 b))))=>aDd op a b k
   |some (.a (.c (.v xv))),some (.a (.c (.v .nilIface)))=>match aE ty T,aBE y with
    |some d,true=>match Nat.beq d.kd 10 with
     |true=>aDb op xv k
     |false=>False
    |_,_=>False
   |some (.a (.agg l)),some (.a (.agg m))=>match aE ty T with
    |some d=>match Nat.beq d.kd 7,zY l,zY m with
     |true,some xs,some ys=>match Nat.beq (dN xs) (dN d.zero),Nat.beq (dN ys) (dN d.zero)with
      |true,true=>aC4 op xs ys k
      |_,_=>False
     |_,_,_=>False
    |none=>False
   |some (.a (.c (.sl id _ _ _ _))),some (.a (.c (.v (.slice none 0 0))))=>match aE ty T,aE s.hp id with
    |some d,some (.arr _ _ _ xs _)=>match d.sl with
     |some _=>aCN op (xs=[]) k
     |none=>False
    |_,_=>False
   |_,_=>False
 | .unOp .not _ x=>match ev s.fr x with
   |some (.a (.c (.b c)))=>k (.b (!c))
   |_=>False
 | .unOp .neg _ x=>match ev s.fr x with
   |some (.a (.c (.i n)))=>Ob (InI (0-n)) (k (.i (0-n)))
   |_=>False
 | .convert src dst x=>match ev s.fr x,aE ty src,aE ty dst with
   |some (.a (.c (.i n))),some d,some e=>match Nat.beq d.kd 1,Nat.beq e.kd 1 with
    |true,true=>Ob (InI n) (k (.i n))
    |true,false=>match Nat.beq e.kd 4,Nat.beq e.kd 9 with
     |true,_=>Ob (0<=n/\n<=18446744073709551615) (k (.c (.u n)))
     |false,true=>Ob (0<=n/\n<=255) (k (.c (.v (.int .u8 n))))
     |_,_=>False
    |_,_=>False
   |some (.a (.c (.v (.int .u8 n)))),some d,some e=>match Nat.beq d.kd 9,Nat.beq e.kd 1 with
    |true,true=>Ob (0<=n/\n<=255) (k (.i n))
    |_,_=>False
   |some (.a (.c (.u n))),some d,some e=>match Nat.beq d.kd 4,Nat.beq e.kd 1 with
    |true,true=>Ob (InI n) (k (.i n))
    |true,false=>match Nat.beq e.kd 4 with
     |true=>Ob (0<=n/\n<=18446744073709551615) (k (.c (.u n)))
     |false=>False
    |_,_=>False
   |_,_,_=>False
 | .indexAddr T x ix=>match aE ty T,ev s.fr x,ev s.fr ix with
   |some d,some (.a (.c (.sl id sz lo len _))),some (.a (.c (.i n)))=>match d.sl,aE s.hp id with
    |some (_,ek,_),some (.arr _ _ _ xs _)=>match Nat.beq sz ek.sz with
     |true=>Ob (0<=n/\n<len/\lo+len<=xs.length) (k (.c (.elt id sz (lo+n.toNat) 0)))
     |false=>False
    |some (_,ek,_),some (.box _ _)=>match Nat.beq sz ek.sz with
     |true=>Ob (0<=n/\n<len) (k (.c (.ptr id ((lo+n.toNat)*sz))))
     |false=>False
    |_,_=>False
   |some d,some (.a (.c (.h y))),some (.a (.c (.i n)))=>match d.sl with
    |some (E,ek,_)=>match wY s.hp E with
     |some id=>match aE s.hp id with
      |some (.pool _ k0 m)=>match Nat.beq k0.sz ek.sz with
       |true=>Ob (0<=n/\n<y.n/\n.toNat<(aM m y.a).length) (k (.c (.pe id ek.sz y.a n.toNat 0)))
       |false=>False
      |_=>False
     |none=>False
    |none=>False
   |_,_,_=>False
 | .index T x ix=>match aE ty T,ev s.fr x,ev s.fr ix with
   |some d,some (.a (.c (.v (.string b)))),some (.a (.c (.i n)))=>match Nat.beq d.kd 3 with
    |true=>Ob (0<=n/\n<b.size) (k (.c (.v (.int .u8 (aAu b n.toNat)))))
    |false=>False
   |_,_,_=>False
 | .lookup T x ix ok=>match aE ty T,ev s.fr x,ev s.fr ix with
   |some d,some (.a (.c (.mp id))),some kv=>match d.mp,aE s.hp id,cellsOf kv with
    |some (_,kk,_,vk),some (.map kk0 vk0 es _),some cs=>match kk0.ofSym cs,EK.beq kk0 kk,EK.beq vk0 vk,eqB (zX kv) kk0.isAgg with
     |some key,true,true,true=>pH (vk0.symA ((lkM es key).getD vk0.dflt)) fun v=>match ok with
      |true=>k (.tup [v,.c (.b (lkM es key).isSome)])
      |false=>k (.a v)
     |_,_,_,_=>False
    |_,_,_=>False
   |_,_,_=>False
 | .entry x=>match ev s.fr x with
   |some (.a (.c (.ptr it 0)))=>match aE s.hp it with
    |some (.iter mid _ seen last cur)=>match aE s.hp mid with
     |some (.map kk vk es clk)=>Ob (Pg es clk/\last=clk/\ ∃h:cur<es.length,seen.getLast?=some es[cur].2.2) (∀h:cur<es.length,pH (kk.symA es[cur].1) fun x=>pH (vk.symA es[cur].2.1) fun y=>k (.tup [x,y]))
     |_=>False
    |_=>False
   |_=>False
 | .slice T x lo hi none=>match aE ty T,ev s.fr x with
   |some d,some (.a (.c (.sl id sz lo0 len cap)))=>match d.sl with
    |some (_,ek,_)=>match Nat.beq sz ek.sz with
     |true=>Tv s.fr 0 lo fun l=>Tv s.fr len hi fun h=>Ob (0<=l/\l<=h/\h<=cap)
      (mH (decide (l<cap)) (k (.c (.sl id sz (lo0+l.toNat) (h-l).toNat (cap-l.toNat)))) (k (.c (.sl id sz lo0 (h-l).toNat (cap-l.toNat)))))
     |false=>False
    |none=>False
   |some d,some (.a (.c (.v (.string b))))=>match Nat.beq d.kd 3 with
    |true=>Tv s.fr 0 lo fun l=>Tv s.fr b.size hi fun h=>Ob (0<=l/\l<=h/\h<=b.size) (k (.c (.v (.string (b.extract l.toNat h.toNat)))))
    |false=>False
   |_,_=>False
 | .extract x i=>match ev s.fr x with
   |some (.tup l)=>match nU l i with
    |some v=>k (.a v)
    |none=>False
   |_=>False
 | .build T parts=>match aE ty T with
   |some d=>match d.agg with
    |true=>Hh s.fr d.offs parts.toList d.zero fun l=>k (.a (.agg l))
    |false=>False
   |none=>False
 | .makeFunc (.func f) first caps=>match first.toList with
   | []=>Rx s.fr caps.toList fun l=>k (.c (.fn f l))
   | [x]=>match caps.toList,ev s.fr x with
     | [],some (.a (.c (.ptr id off)))=>k (.c (.fm f id off))
     |_,_=>False
   |_=>False
 | .call {callee:= .builtin .len,args,argTypes}=>match args.toList,argTypes.toList with
   | [x],[t]=>match ev s.fr x,aE ty t with
     |some (.a (.c (.sl _ _ _ n _))),some d=>match d.sl with
      |some _=>k (.i n)
      |none=>False
     |some (.a (.c (.v (.slice none 0 0)))),some d=>match d.sl with
      |some _=>k (.i 0)
      |none=>False
     |some (.a (.c (.h x))),some d=>match d.sl with
      |some _=>k (.i x.n)
      |none=>False
     |some (.a (.c (.mp id))),some d=>match d.mp,aE s.hp id with
      |some _,some (.map _ _ es _)=>k (.i es.length)
      |_,_=>False
     |some (.a (.c (.v (.string b)))),some d=>match Nat.beq d.kd 3 with
      |true=>k (.i b.size)
      |false=>False
     |_,_=>False
   |_,_=>False
 |_=>False
theorem Bw (a b:Nat):Nat.ble a b=decide (a<=b):=by
 rw[Bool.eq_iff_iff];simp[Nat.ble_eq]
theorem qH (off:Nat): ∀(cs:List Value) (k:Nat) (z:Array Value),off+k+cs.length<=z.size->
  ((cs.zipIdx k).foldl (fun z p=>z.setIfInBounds (off+p.2) p.1) z).toList=z.toList.take (off+k)++cs++z.toList.drop (off+k+cs.length)
 | [],k,z,_=>by simp
 |c::cs,k,z,h=>by
  simp only[List.length_cons]at h
  simp only[List.zipIdx_cons,List.foldl_cons]
  rw[qH off cs (k+1) _ (by simp;omega)]
  have hk:off+k<z.toList.length:=by simp;omega
  simp only[Array.toList_setIfInBounds,List.length_cons]
  rw[show off+(k+1)=off+k+1 by omega,List.take_succ_eq_append_getElem (by simpa using hk),List.take_set_of_le (Nat.le_refl _),
   List.getElem_set_self,List.drop_set_of_lt (by omega),List.append_assoc,List.append_assoc,List.append_assoc]
  simp only[List.cons_append,List.nil_append]
  rw[show off+k+1+cs.length=off+k+(cs.length+1) by omega]
theorem kV {β:Env} {n:Nat} {v:SV} {cs:List SC} (h:cellsOf v=some cs) (hlt:v.lt n):(v.den β).cells=(cs.map (SC.den β)).toArray/\ ∀c∈cs,SC.lt n c:=by
 cases v with
 |a x=>
  cases x with
  |c c=>
   simp only[cellsOf,Option.some.injEq]at h
   subst h
   refine⟨?_,by intro c hc;simp at hc;subst hc;exact hlt⟩
   cases c<;>try rfl
   rename_i x
   simp only[SV.lt,SA.lt,SC.lt]at hlt
   cases x<;>first|rfl|(simp[Value.oneCell']at hlt)
  |agg l=>
   simp only[cellsOf,Option.some.injEq]at h
   subst h
   exact⟨rfl,hlt⟩
 |tup l=>cases h
theorem Pj {α:Type} (z:List α) (off:Nat) (cs:List α):wr z off cs=z.take off++cs++z.drop (off+cs.length):=by
 simp[wr,sS,nD,Al,bD]
section
variable {P:Program} {ty:List (Nat×STy)} {β:Env} {Z:Nat->Prop} {fp:Nat->Nat->Prop} {s:S} {w:World} {N:NT} {a:Act}
theorem uI (hf:cQ β s N a) (offs:List (Nat×Nat)) (place:Nat->Option (Nat×Nat))
  (ho: ∀(i:Nat) (p:Nat×Nat),offs[i]?=some p->place i=some p):
  ∀(parts:List (Nat×Operand)) (z:List SC) (k:List SC->Prop),(∀c∈z,SC.lt s.nx c)->Hh s.fr offs parts z k->
   ∃l,Instr.fill place (z.map (SC.den β)).toArray (parts.map fun p=>(p.1,a.eval p.2))=some (l.map (SC.den β)).toArray/\(∀c∈l,SC.lt s.nx c)/\k l
 | [],z,k,hz,h=>⟨z,rfl,hz,h⟩
 |(i,x)::r,z,k,hz,h=>by
  simp only[Hh]at h
  split at h<;>try exact h.elim
  rename_i off size v h1 h2
  split at h<;>try exact h.elim
  rename_i cs hcs
  split at h<;>try exact h.elim
  rename_i hsz hlen
  rw[cH,bD,decide_eq_true_eq]at hsz
  rw[Bw,bD,decide_eq_true_eq]at hlen
  rw[dY]at h
  rw[dH]at h1
  have hp:=ho _ _ h1
  obtain⟨he,hlt⟩:=aI hf h2
  obtain⟨hcells,hclt⟩:=kV (β:=β) hcs hlt
  obtain⟨l,hl,hll,hk⟩:=uI hf offs place ho r (wr z off cs) k (by
   intro c hc
   rw[Pj]at hc
   simp only[List.mem_append]at hc
   rcases hc with(hc|hc)|hc
   ·exact hz c (List.mem_of_mem_take hc)
   ·exact hclt c hc
   ·exact hz c (List.mem_of_mem_drop hc)) h
  refine⟨l,?_,hll,hk⟩
  simp only[List.map_cons,Instr.fill,hp,he,hcells]
  rw[if_neg (by simp;omega),<-hl]
  congr 1
  apply Array.ext'
  have:=qH off (cs.map (SC.den β)) 0 (z.map (SC.den β)).toArray (by simp;omega)
  simp only[Nat.add_zero]at this
  have e1:Array.foldl (fun(cs:Array Value) (x:Value×Nat)=>cs.setIfInBounds (off+x.2) x.1) (z.map (SC.den β)).toArray (cs.map (SC.den β)).toArray.zipIdx=
    List.foldl (fun(z:Array Value) p=>z.setIfInBounds (off+p.2) p.1) (z.map (SC.den β)).toArray (List.zipIdx (cs.map (SC.den β))):=by
   rw[<-Array.foldl_toList];simp
  rw[e1,this,Pj]
  simp
theorem xD (hf:cQ β s N a): ∀(l:List Operand) (k:List (Nat×Nat)->Prop),Rx s.fr l k->
  ∃r:List (Nat×Nat),l.map a.eval=r.map (fun p=>Value.pointer ((β p.1).map (·.add p.2)))/\(∀p∈r,p.1<s.nx)/\k r
 | [],k,h=>⟨[],rfl,by simp,h⟩
 |x::l,k,h=>by
  simp only[Rx]at h
  split at h<;>try exact h.elim
  rename_i id off h1
  obtain⟨he,hlt⟩:=aI hf h1
  obtain⟨r,hr,hrl,hk⟩:=xD hf l _ h
  refine⟨(id,off)::r,by simp[hr,he,SV.den,SA.den,SC.den],?_,hk⟩
  intro p hp
  simp only[List.mem_cons]at hp
  rcases hp with rfl|hp
  ·exact hlt
  ·exact hrl p hp
theorem mS (hf:cQ β s N a) (d:Int) (o:Option Operand) (k:Int->Prop) (h:Tv s.fr d o k):
  ∃n,k n/\((o=none/\n=d)\/ ∃x,o=some x/\a.eval x= .int .i64 n):=by
 cases o with
 |none=>exact⟨d,h,.inl ⟨rfl,rfl⟩⟩
 |some x=>
  simp only[Tv]at h
  split at h<;>try exact h.elim
  rename_i n h1
  exact⟨n,h,.inr ⟨x,rfl,(aI hf h1).1⟩⟩
theorem wF (hs:aR β Z fp s w) {id T:Nat} {cs:List SC} (h:aE s.hp id=some (.box T cs)):
 ∃b,β id=some ⟨b,0,none⟩/\fp id b/\w.heap[b]?=some (.cells (cs.map (SC.den β)).toArray T (0,0)):=hs.obj id _ h
theorem uJ (hs:aR β Z fp s w) {id T:Nat} {cs:List SC} (h:aE s.hp id=some (.box T cs)) {b:Nat} (hb:β id=some ⟨b,0,none⟩)
  (j:Nat) (c:SC) (hj:cs[j]?=some c):w.cell? ⟨b,j,none⟩=some (c.den β):=by
 obtain⟨b',h1,_,h3⟩:=wF hs h
 rw[hb]at h1
 cases h1
 simp[World.cell?,h3,hj]
theorem Ld (hs:aR β Z fp s w) {id E:Nat} {own:Bool} {k:EK} {xs:List k.ty} {sp:Nat} (h:aE s.hp id=some (.arr own E k xs sp)) {i:Nat} (hi:i<xs.length):
  ∃x,β id=some x/\x.spot=none/\ ∀off,off<k.sz->w.cell? ⟨x.block,x.off+(i*k.sz+off),none⟩=((k.sym (xs.getD i k.dflt))[off]?).map (SC.den β):=by
 obtain⟨x,h1,h2,h3⟩:=SO.ok_cell (hs.obj id _ h) (by intro e;rw[e]at hi;simp at hi)
 refine⟨x,h1,h2,fun off ho=>?_⟩
 have hg:=pI k xs i off hi ho
 have hl:off<(k.cells (xs.getD i k.dflt)).length:=by rw[EK.cells_length];exact ho
 rw[List.getElem?_eq_getElem hl]at hg
 rw[h3 _ _ hg,<-List.getElem?_map,EK.sym_den,List.getElem?_eq_getElem hl]
structure aCd (β:Env) (s:S):Prop where
 pool: ∀id E (k:EK) m a y,aE s.hp id=some (.pool E k m)->lkA m a=some y->a.spot=none
 plt: ∀id E (k:EK) m,aE s.hp id=some (.pool E k m)->id<s.nx
 box: ∀id T cs,aE s.hp id=some (.box T cs)-> ∃b,β id=some ⟨b,0,none⟩
 arr: ∀id own E (k:EK) (xs:List k.ty) sp i,aE s.hp id=some (.arr own E k xs sp)->i<xs.length-> ∃x,β id=some x/\x.spot=none
theorem aR.b (hs:aR β Z fp s w):aCd β s:=
 ⟨fun _ _ _ _ a y h hl=>((hs.obj _ _ h).row a y.1 y.2 hl).1,fun _ _ _ _ h=>(hs.lto _ _ h).1,fun _ _ _ h=>let ⟨b,hb,_⟩:=wF hs h;⟨b,hb⟩,fun _ _ _ _ _ _ _ h hi=>let ⟨x,hx,hsp,_⟩:=Ld hs h hi;⟨x,hx,hsp⟩⟩
theorem tC {α:Type} {m:List (Addr×List α×Nat)} {oa:Option Addr} {j:Nat} (h:j<(aM m oa).length): ∃a y,oa=some a/\lkA m a=some y/\aM m oa=y.1:=by
 unfold aM at h⊢
 cases oa with
 |none=>simp at h
 |some a=>
  simp only at h⊢
  cases hl:lkA m a with
  |none=>rw[hl]at h;simp at h
  |some y=>exact⟨a,y,rfl,hl,rfl⟩
theorem Cz (hs:aR β Z fp s w) {id E:Nat} {k:EK} {m:List (Addr×List k.ty×Nat)} (h:aE s.hp id=some (.pool E k m)) {oa:Option Addr} {i:Nat} (hi:i<(aM m oa).length):
  ∃x,oa=some x/\x.spot=none/\ ∀off,off<k.sz->w.cell? ⟨x.block,x.off+(i*k.sz+off),none⟩=((k.sym ((aM m oa).getD i k.dflt))[off]?).map (SC.den β):=by
 obtain⟨a,y,rfl,hl,hr⟩:=tC hi
 rw[hr]at hi⊢
 obtain⟨h1,_,pre,post,h3,h4,_⟩:=(hs.obj _ _ h).row a y.1 y.2 hl
 refine⟨a,rfl,h1,fun off ho=>?_⟩
 have hg:=pI k y.1 i off hi ho
 have hlen:off<(k.cells (y.1.getD i k.dflt)).length:=by rw[EK.cells_length];exact ho
 rw[List.getElem?_eq_getElem hlen]at hg
 rw[jY h3 h4 _ _ hg,<-List.getElem?_map,EK.sym_den,List.getElem?_eq_getElem hlen]
theorem eJ {t:Nat} {d:STy} (h:bI P t d) (x:Addr):
  (Instr.loadAt t (.pointer (some x))).run P w=match d.agg with
   |true=>((loadCells x d.zero.length).run P w).andThen fun cs w=> .ok (.agg cs) w
   |false=>(load x).run P w:=by
 have h1:=h.agg w
 cases hd:d.agg with
 |true=>
  rw[hd]at h1
  simp only[Instr.loadAt,Instr.sureAddr,loadVar,pure_bind,Sem.run_bind,h1,Result.andThen_ok,if_true,h.size,Sem.run_pure]
 |false=>
  rw[hd]at h1
  simp only[Instr.loadAt,Instr.sureAddr,loadVar,pure_bind,Sem.run_bind,h1,Result.andThen_ok,Bool.false_eq_true,if_false]
theorem eR {x:Addr} (h:x.spot=none) (m:Nat):x.add m=⟨x.block,x.off+m,none⟩:=by
 obtain⟨b,o,sp⟩:=x
 cases h
 simp[Addr.add_lit]
theorem rS {cs:List SC} {e:Sli} (h:wS cs=some e):cs.map (SC.den β)=EK.cells .sli e:=by
 unfold wS at h
 split at h<;>cases h<;>rfl
theorem dI {ek:EK} {cs:List SC} {e:ek.ty} (h:ek.ofSym cs=some e):cs.map (SC.den β)=ek.cells e:=by
 cases ek
 case int=>change Qw cs=some e at h;unfold Qw at h;split at h<;>cases h;rfl
 case bool=>change Gb cs=some e at h;unfold Gb at h;split at h<;>cases h;rfl
 case arc=>change Yt cs=some e at h;unfold Yt at h;split at h<;>cases h;rfl
 case trip=>change Ni cs=some e at h;unfold Ni at h;split at h<;>cases h;rfl
 case duo=>change Ys cs=some e at h;unfold Ys at h;split at h<;>cases h;rfl
 case str=>change Qv cs=some e at h;unfold Qv at h;split at h<;>cases h;rfl
 case sli=>exact rS h
 case adr=>change Qx cs=some e at h;unfold Qx at h;split at h<;>cases h<;>rfl
 case fnd=>change Yr cs=some e at h;unfold Yr at h;split at h<;>cases h;rfl
 case fst=>
  change Yq cs=some e at h
  unfold Yq at h
  split at h<;>try cases h
  rename_i p q c d
  cases hc:wS [c]with
  |none=>simp only[hc]at h;cases h
  |some x=>
   cases hd:wS [d]with
   |none=>simp only[hc,hd]at h;cases h
   |some y=>
    simp only[hc,hd]at h
    cases h
    have h1:=rS (β:=β) hc
    have h2:=rS (β:=β) hd
    simp only[List.map_cons,List.map_nil,EK.cells,EK.sym,List.cons.injEq,and_true]at h1 h2
    simp only[List.map_cons,List.map_nil,EK.cells,EK.sym,h1,h2]
    rfl
end
section
variable {P:Program} {ty:List (Nat×STy)} {β:Env} {Z:Nat->Prop} {fp:Nat->Nat->Prop} {s:S} {w:World} {N:NT} {a:Act}
def lB (P:Program) (β:Env) (s:S) (w:World) (a:Act) (o:Oper) (k:SV->Prop):Prop:=
 ∃v,(execOp a.eval o).run P w= .ok (.value (v.den β)) w/\v.lt s.nx/\k v
theorem lB.mk {o:Oper} {k:SV->Prop} (v:SV) (he:(execOp a.eval o).run P w= .ok (.value (v.den β)) w) (hl:v.lt s.nx) (hk:k v):lB P β s w a o k:=⟨v,he,hl,hk⟩
def QOk (P:Program) (β:Env) (s:S) (a:Act) (o:Oper) (k:SV->Prop):Prop:=
 ∃v,(∀w,(execOp a.eval o).run P w= .ok (.value (v.den β)) w)/\v.lt s.nx/\k v
theorem QOk.mk {o:Oper} {k:SV->Prop} (v:SV) (he: ∀w,(execOp a.eval o).run P w= .ok (.value (v.den β)) w) (hl:v.lt s.nx) (hk:k v):QOk P β s a o k:=⟨v,he,hl,hk⟩
theorem It (hty:cZ P ty) (hs:aCd β s) (hf:cQ β s N a) {k:SV->Prop} {dst:Option Nat} {T:TypeId} {x:Operand} {f:Nat} {type:TypeId} {pos:String}
  {after:Array Edge} {guard:Option (Nat×Bool)} (h:qOp ty (.fieldAddr T x f) s k):QOk P β s a ⟨dst,.fieldAddr T x f,type,pos,after,guard⟩ k:=by
 simp only[qOp]at h
 split at h<;>try exact h.elim
 ·rename_i d id off hd hx
  split at h<;>try exact h.elim
  rename_i o sz T' cs hagg ho hl
  obtain⟨he,hlt⟩:=aI hf hx
  obtain⟨b,hb⟩:=hs.box _ _ _ hl
  obtain⟨fields,hu,hfs⟩:=(hty T d hd).str hagg
  rw[dH]at ho
  obtain⟨fd,hf1,hf2,hf3,hf4⟩:=hfs _ _ ho
  refine QOk.mk (.c (.ptr id (off+o))) ?_ hlt h
  simp only at hf2 hf4
  simp[execOp,Instr.fieldAt,run_underlying hu,hf1,he,SV.den,SA.den,SC.den,hb,Instr.sureAddr,fieldPlace,hf3,hf4,hf2,Addr.add_lit]
 ·rename_i d id sz i off hd hx
  split at h<;>try exact h.elim
  rename_i o sz' own E ek xs sp hagg ho hl
  obtain⟨hi,h⟩:=h
  obtain⟨he,hlt⟩:=aI hf hx
  obtain⟨x',hb,hsp⟩:=hs.arr _ _ _ _ _ _ _ hl hi
  obtain⟨fields,hu,hfs⟩:=(hty T d hd).str hagg
  rw[dH]at ho
  obtain⟨fd,hf1,hf2,hf3,hf4⟩:=hfs _ _ ho
  refine QOk.mk (.c (.elt id sz i (off+o))) ?_ hlt h
  simp only at hf2 hf4
  simp[execOp,Instr.fieldAt,run_underlying hu,hf1,he,SV.den,SA.den,SC.den,hb,Instr.sureAddr,fieldPlace,hf3,hf4,hf2,eR hsp,Addr.add_lit,Nat.add_assoc]
 ·rename_i d q hd hx
  split at h<;>try exact h.elim
  rename_i o sz id hagg ho hp
  split at h<;>try exact h.elim
  rename_i E ek m hl
  obtain⟨hi,h⟩:=h
  obtain⟨he,hlt⟩:=aI hf hx
  obtain⟨x',y,rfl,hla,_⟩:=tC hi
  have hsp:=hs.pool _ _ _ _ _ _ hl hla
  obtain⟨fields,hu,hfs⟩:=(hty T d hd).str hagg
  rw[dH]at ho
  obtain⟨fd,hf1,hf2,hf3,hf4⟩:=hfs _ _ ho
  refine QOk.mk (.c (.pe id ek.sz (some x') 0 o)) ?_ (hs.plt _ _ _ _ hl) h
  simp only at hf2 hf4
  simp[execOp,Instr.fieldAt,run_underlying hu,hf1,he,SV.den,SA.den,SC.den,Instr.sureAddr,fieldPlace,hf3,hf4,hf2]
 ·rename_i d id sz q i off hd hx
  split at h<;>try exact h.elim
  rename_i o sz' E ek m hagg ho hl
  obtain⟨hi,h⟩:=h
  obtain⟨he,hlt⟩:=aI hf hx
  obtain⟨x',y,rfl,hla,_⟩:=tC hi
  have hsp:=hs.pool _ _ _ _ _ _ hl hla
  obtain⟨fields,hu,hfs⟩:=(hty T d hd).str hagg
  rw[dH]at ho
  obtain⟨fd,hf1,hf2,hf3,hf4⟩:=hfs _ _ ho
  refine QOk.mk (.c (.pe id sz (some x') i (off+o))) ?_ hlt h
  simp only at hf2 hf4
  simp[execOp,Instr.fieldAt,run_underlying hu,hf1,he,SV.den,SA.den,SC.den,Instr.sureAddr,fieldPlace,hf3,hf4,hf2,eR hsp,Addr.add_lit,Nat.add_assoc]
theorem aCG (hty:cZ P ty) (hs:aR β Z fp s w) (hf:cQ β s N a) {k:SV->Prop} {dst:Option Nat} {T:TypeId} {x:Operand} {type:TypeId} {pos:String}
  {after:Array Edge} {guard:Option (Nat×Bool)} (h:qOp ty (.load T x) s k):lB P β s w a ⟨dst,.load T x,type,pos,after,guard⟩ k:=by
 simp only[qOp]at h
 split at h<;>try exact h.elim
 ·rename_i d id off hd hx
  split at h<;>try exact h.elim
  rename_i T' cs hl
  obtain⟨he,hlt⟩:=aI hf hx
  obtain⟨b,hb,_,_⟩:=wF hs hl
  have hcl: ∀c∈cs,SC.lt s.nx c:=(hs.lto id _ hl).2
  have hrun:(execOp a.eval ⟨dst,.load T x,type,pos,after,guard⟩).run P w=((Instr.loadAt T (.pointer (some ⟨b,off,none⟩))).run P w).andThen fun v w=> .ok (.value v) w:=by
   simp[execOp,he,SV.den,SA.den,SC.den,hb,Addr.add_lit]
  rw[eJ (hty T d hd)]at hrun
  split at h
  ·rename_i hagg
   split at h<;>try exact h.elim
   rename_i hlen
   rw[Bw,bD,bD,decide_eq_true_eq]at hlen
   rw[dY,sS,Al,bD]at h
   refine lB.mk _ ?_ ?_ h
   ·rw[hrun,hagg]
    simp only
    have:=run_loadCells_list (P:=P) w ⟨b,off,none⟩ (((cs.drop off).take d.zero.length).map (SC.den β)) (fun j v hj=>by
     rw[List.getElem?_map]at hj
     obtain⟨c,hc,rfl⟩:=Option.map_eq_some_iff.1 hj
     rw[Addr.add_lit]
     refine uJ hs hl hb _ _ ?_
     rw[List.getElem?_take]at hc
     split at hc
     ·rwa [List.getElem?_drop]at hc
     ·cases hc)
    rw[List.length_map,List.length_take,List.length_drop,Nat.min_eq_left (by omega)]at this
    rw[this]
    simp[SV.den,SA.den]
   ·exact fun c hc=>hcl c (List.mem_of_mem_drop (List.mem_of_mem_take hc))
  ·rename_i hagg
   split at h<;>try exact h.elim
   rename_i c hc
   rw[dH]at hc
   refine lB.mk (.a (.c c)) ?_ (hcl c (List.mem_of_getElem? hc)) h
   rw[hrun,hagg]
   simp[run_load,uJ hs hl hb _ _ hc,SV.den,SA.den]
 ·rename_i d id sz i off hd hx
  split at h<;>try exact h.elim
  rename_i own E ek xs sp hl
  split at h<;>try exact h.elim
  rename_i hsz
  rw[cH,decide_eq_true_eq]at hsz
  subst hsz
  obtain⟨hi,h⟩:=h
  obtain⟨he,hlt⟩:=aI hf hx
  obtain⟨x',hb,hsp,hcell⟩:=Ld hs hl hi
  have hrun:(execOp a.eval ⟨dst,.load T x,type,pos,after,guard⟩).run P w=((Instr.loadAt T (.pointer (some ⟨x'.block,x'.off+(i*ek.sz+off),none⟩))).run P w).andThen fun v w=> .ok (.value v) w:=by
   simp[execOp,he,SV.den,SA.den,SC.den,hb,eR hsp]
  rw[eJ (hty T d hd)]at hrun
  split at h
  ·rename_i hagg
   split at h<;>try exact h.elim
   rename_i h0 hlen
   rw[cH,decide_eq_true_eq]at h0
   rw[cH,bD,decide_eq_true_eq]at hlen
   subst h0
   rw[dY]at h
   refine lB.mk (.a (.agg (ek.sym (xs.getD i ek.dflt)))) ?_ (EK.sym_lt ek _ _) h
   rw[hrun,hagg,hlen]
   simp only
   have:=run_loadCells_list (P:=P) w ⟨x'.block,x'.off+(i*ek.sz+0),none⟩ ((ek.sym (xs.getD i ek.dflt)).map (SC.den β)) (fun j v hj=>by
    rw[List.getElem?_map]at hj
    obtain⟨c,hc,rfl⟩:=Option.map_eq_some_iff.1 hj
    rw[Addr.add_lit]
    have hj':j<ek.sz:=by
     have:=(List.getElem?_eq_some_iff.1 hc).1
     rwa [EK.sym_length]at this
    have:=hcell j hj'
    rw[hc]at this
    simpa[Nat.add_assoc]using this)
   rw[List.length_map,EK.sym_length]at this
   rw[this]
   simp[SV.den,SA.den]
  ·rename_i hagg
   split at h<;>try exact h.elim
   rename_i c hc
   rw[dH]at hc
   have hoff:off<ek.sz:=by
    have:=(List.getElem?_eq_some_iff.1 hc).1
    rwa [EK.sym_length]at this
   refine lB.mk (.a (.c c)) ?_ (EK.sym_lt ek _ _ c (List.mem_of_getElem? hc)) h
   have:=hcell off hoff
   rw[hc]at this
   rw[hrun,hagg]
   simp[run_load,this,SV.den,SA.den]
 ·rename_i d id sz q i off hd hx
  split at h<;>try exact h.elim
  rename_i E ek m hl
  split at h<;>try exact h.elim
  rename_i hsz
  rw[cH,decide_eq_true_eq]at hsz
  subst hsz
  obtain⟨hi,h⟩:=h
  obtain⟨he,hlt⟩:=aI hf hx
  obtain⟨x',rfl,hsp,hcell⟩:=Cz hs hl hi
  generalize (aM m (some x')).getD i ek.dflt=e at*
  have hrun:(execOp a.eval ⟨dst,.load T x,type,pos,after,guard⟩).run P w=((Instr.loadAt T (.pointer (some ⟨x'.block,x'.off+(i*ek.sz+off),none⟩))).run P w).andThen fun v w=> .ok (.value v) w:=by
   simp[execOp,he,SV.den,SA.den,SC.den,eR hsp]
  rw[eJ (hty T d hd)]at hrun
  split at h
  ·rename_i hagg
   split at h<;>try exact h.elim
   rename_i hlen
   rw[Bw,bD,decide_eq_true_eq]at hlen
   rw[dY,sS,Al,bD]at h
   refine lB.mk _ ?_ ?_ h
   ·rw[hrun,hagg]
    simp only
    have:=run_loadCells_list (P:=P) w ⟨x'.block,x'.off+(i*ek.sz+off),none⟩ ((((ek.sym e).drop off).take d.zero.length).map (SC.den β)) (fun j v hj=>by
     rw[List.getElem?_map]at hj
     obtain⟨c,hc,rfl⟩:=Option.map_eq_some_iff.1 hj
     rw[Addr.add_lit]
     rw[List.getElem?_take]at hc
     split at hc
     ·rename_i hjl
      rw[List.getElem?_drop]at hc
      have:=hcell (off+j) (by omega)
      rw[hc]at this
      simpa[Nat.add_assoc]using this
     ·cases hc)
    rw[List.length_map,List.length_take,List.length_drop,EK.sym_length,Nat.min_eq_left (by omega)]at this
    rw[this]
    simp[SV.den,SA.den]
   ·exact fun c hc=>EK.sym_lt ek _ _ c (List.mem_of_mem_drop (List.mem_of_mem_take hc))
  ·rename_i hagg
   split at h<;>try exact h.elim
   rename_i c hc
   rw[dH]at hc
   have hoff:off<ek.sz:=by
    have:=(List.getElem?_eq_some_iff.1 hc).1
    rwa [EK.sym_length]at this
   refine lB.mk (.a (.c c)) ?_ (EK.sym_lt ek _ _ c (List.mem_of_getElem? hc)) h
   have:=hcell off hoff
   rw[hc]at this
   rw[hrun,hagg]
   simp[run_load,this,SV.den,SA.den]
 ·rename_i d q hd hx
  split at h<;>try exact h.elim
  rename_i id hp
  split at h<;>try exact h.elim
  rename_i E ek m hl
  split at h<;>try exact h.elim
  rename_i hagg hlen
  rw[cH,bD,decide_eq_true_eq]at hlen
  obtain⟨hi,h⟩:=h
  rw[dY]at h
  obtain⟨he,hlt⟩:=aI hf hx
  obtain⟨x',rfl,hsp,hcell⟩:=Cz hs hl hi
  generalize (aM m (some x')).getD 0 ek.dflt=e at*
  have hrun:(execOp a.eval ⟨dst,.load T x,type,pos,after,guard⟩).run P w=((Instr.loadAt T (.pointer (some ⟨x'.block,x'.off,none⟩))).run P w).andThen fun v w=> .ok (.value v) w:=by
   have e1:(⟨x'.block,x'.off,none⟩:Addr)=x':=by obtain⟨b,o,sp⟩:=x';cases hsp;rfl
   simp[execOp,he,SV.den,SA.den,SC.den,e1]
  rw[eJ (hty T d hd)]at hrun
  refine lB.mk (.a (.agg (ek.sym e))) ?_ (EK.sym_lt ek _ _) h
  rw[hrun,hagg,hlen]
  simp only
  have:=run_loadCells_list (P:=P) w ⟨x'.block,x'.off,none⟩ ((ek.sym e).map (SC.den β)) (fun j v hj=>by
   rw[List.getElem?_map]at hj
   obtain⟨c,hc,rfl⟩:=Option.map_eq_some_iff.1 hj
   rw[Addr.add_lit]
   have hj':j<ek.sz:=by
    have:=(List.getElem?_eq_some_iff.1 hc).1
    rwa [EK.sym_length]at this
   have:=hcell j hj'
   rw[hc]at this
   simpa[Nat.add_assoc]using this)
  rw[List.length_map,EK.sym_length]at this
  rw[this]
  simp[SV.den,SA.den]
theorem aBa (hty:cZ P ty) (hs:aCd β s) (hf:cQ β s N a) {k:SV->Prop} {dst:Option Nat} {T:TypeId} {x ix:Operand} {type:TypeId} {pos:String}
  {after:Array Edge} {guard:Option (Nat×Bool)} (h:qOp ty (.indexAddr T x ix) s k):QOk P β s a ⟨dst,.indexAddr T x ix,type,pos,after,guard⟩ k:=by
 simp only[qOp]at h
 split at h<;>try exact h.elim
 ·rename_i d id sz lo len cap n hd hx hi
  split at h<;>try exact h.elim
  ·rename_i E ek by_ own E' ek' xs sp hsl hl
   split at h<;>try exact h.elim
   rename_i hsz
   rw[cH,decide_eq_true_eq]at hsz
   obtain⟨⟨h0,h1,h2⟩,h⟩:=h
   obtain⟨he,hlt⟩:=aI hf hx
   obtain⟨hei,_⟩:=aI hf hi
   obtain⟨hu,hE,_⟩:=(hty T d hd).sl _ _ _ hsl
   obtain⟨y,hb,hsp⟩:=hs.arr _ _ _ _ _ _ lo hl (by omega)
   refine QOk.mk (.c (.elt id sz (lo+n.toNat) 0)) (fun w=>?_) hlt h
   have hu':P.underlying T=some (.slice (P.elem T)):=by simp[hu,Program.elem]
   have hE':P.elem T=E:=by simp[hu,Program.elem]
   simp only[execOp,he,hei,SV.den,SA.den,SC.den,hb,Option.map_some,Sem.run_bind,run_indexAt_slice (h:=hu'),if_pos (And.intro h0 h1),hE',hE,Result.andThen_ok,Sem.run_pure]
   rw[eR hsp,eR hsp,Addr.add_lit,hsz,Nat.add_mul,Nat.add_assoc,Nat.add_zero]
  ·rename_i E ek by_ T2 cs hsl hl
   split at h<;>try exact h.elim
   rename_i hsz
   rw[cH,decide_eq_true_eq]at hsz
   obtain⟨⟨h0,h1⟩,h⟩:=h
   obtain⟨he,hlt⟩:=aI hf hx
   obtain⟨hei,_⟩:=aI hf hi
   obtain⟨hu,hE,_⟩:=(hty T d hd).sl _ _ _ hsl
   obtain⟨b,hb⟩:=hs.box _ _ _ hl
   refine QOk.mk (.c (.ptr id ((lo+n.toNat)*sz))) (fun w=>?_) hlt h
   have hu':P.underlying T=some (.slice (P.elem T)):=by simp[hu,Program.elem]
   have hE':P.elem T=E:=by simp[hu,Program.elem]
   simp only[execOp,he,hei,SV.den,SA.den,SC.den,hb,Option.map_some,Sem.run_bind,run_indexAt_slice (h:=hu'),if_pos (And.intro h0 h1),hE',hE,Result.andThen_ok,Sem.run_pure]
   rw[Addr.add_lit,Addr.add_lit,Addr.add_lit,hsz,Nat.add_mul,Nat.add_assoc]
 ·rename_i d hdr n hd hx hi
  split at h<;>try exact h.elim
  rename_i E ek by_ hsl
  split at h<;>try exact h.elim
  rename_i id hp
  split at h<;>try exact h.elim
  rename_i E' k0 m hl
  split at h<;>try exact h.elim
  rename_i hsz
  rw[cH,decide_eq_true_eq]at hsz
  obtain⟨⟨h0,h1,h2⟩,h⟩:=h
  obtain⟨he,hlt⟩:=aI hf hx
  obtain⟨hei,_⟩:=aI hf hi
  obtain⟨hu,hE,_⟩:=(hty T d hd).sl _ _ _ hsl
  obtain⟨y,q,hya,hla,_⟩:=tC h2
  have hsp:=hs.pool _ _ _ _ _ _ hl hla
  refine QOk.mk (.c (.pe id ek.sz hdr.a n.toNat 0)) (fun w=>?_) (hs.plt _ _ _ _ hl) h
  have hu':P.underlying T=some (.slice (P.elem T)):=by simp[hu,Program.elem]
  have hE':P.elem T=E:=by simp[hu,Program.elem]
  simp only[execOp,he,hei,SV.den,SA.den,SC.den,hya,Option.map_some,Sem.run_bind,run_indexAt_slice (h:=hu'),if_pos (And.intro h0 h1),hE',hE,Result.andThen_ok,Sem.run_pure]
  rw[Nat.add_zero]
theorem Oq {op:BinOp} {x y:Int} {k:SV->Prop} (h:aDc op x y k) (t:TypeId) (p q:Operand) (n:Nat):
  ∃v,(∀w,((do eqGuard op t p q (.int .i64 x) (.int .i64 y);binOp op t (.int .i64 x) (.int .i64 y):Sem Value)).run P w= .ok (v.den β) w)/\v.lt n/\k v:=by
 cases op<;>simp only[aDc]at h<;>try exact h.elim
 case add=>exact⟨.i (x+y),fun w=>by simp[go_sem,lE h.ob,SV.den,SA.den,SC.den],trivial,h.go⟩
 case sub=>exact⟨.i (x-y),fun w=>by simp[go_sem,lE h.ob,SV.den,SA.den,SC.den],trivial,h.go⟩
 case mul=>exact⟨.i (x*y),fun w=>by simp[go_sem,lE h.ob,SV.den,SA.den,SC.den],trivial,h.go⟩
 case quo=>
  obtain⟨⟨h0,h1,h2⟩,h⟩:=h
  refine⟨.i (x / y),fun w=>?_,trivial,h⟩
  have hy: ¬y=0:=by omega
  have e:x.tdiv y=x / y:=Int.tdiv_eq_ediv_of_nonneg h0
  have hb:InI (x / y):=by
   have g1:0<=x / y:=Int.ediv_nonneg h0 (by omega)
   have g2:x / y<=x:=Int.ediv_le_self y h0
   unfold InI at h2⊢
   omega
  simp only[eqGuard_at_int,pure_bind,binOp_quo,Op.intDiv,if_neg hy,e,lE hb,Sem.run_pure,SV.den,SA.den,SC.den]
 case rem=>
  obtain⟨⟨h0,h1,h2⟩,h⟩:=h
  refine⟨.i (x % y),fun w=>?_,trivial,h⟩
  have hy: ¬y=0:=by omega
  have e:x.tmod y=x % y:=Int.tmod_eq_emod_of_nonneg h0
  simp only[eqGuard_at_int,pure_bind,binOp_rem,Op.intDiv,if_neg hy,e,Sem.run_pure,SV.den,SA.den,SC.den]
 all_goals
  refine⟨_,?_,?_,h⟩
  ·intro w;simp only[eqGuard_at_int,binOp_eql,binOp_neq,binOp_lss,binOp_leq,binOp_gtr,binOp_geq,pure_bind,Sem.run_pure];rfl
  ·exact trivial
theorem Om {op:BinOp} {x y:Int} {k:SV->Prop} (h:aC9 op x y k) (t:TypeId) (p q:Operand) (n:Nat):
  ∃v,(∀w,((do eqGuard op t p q (.int .u64 x) (.int .u64 y);binOp op t (.int .u64 x) (.int .u64 y):Sem Value)).run P w= .ok (v.den β) w)/\v.lt n/\k v:=by
 cases op<;>simp only[aC9]at h<;>try exact h.elim
 case shr=>
  obtain⟨rfl,h⟩:=h
  refine⟨.c (.u (x / 2)),fun w=>?_,trivial,h⟩
  simp only[eqGuard_at_int,pure_bind,binOp,Op.shift]
  rw[if_neg (by decide)]
  simp only[Sem.run_pure,SV.den,SA.den,SC.den]
  have e:min (1:Int).toNat IntKind.u64.bits=1:=by decide
  rw[e]
  have e2:Int.fdiv x (2^1)=x / 2:=by rw[Int.fdiv_eq_ediv_of_nonneg _ (by decide)];rfl
  rw[e2]
 all_goals
  refine⟨_,?_,?_,h⟩
  ·intro w;simp only[eqGuard_at_int,binOp_eql,binOp_neq,binOp_lss,binOp_leq,binOp_gtr,binOp_geq,pure_bind,Sem.run_pure];rfl
  ·exact trivial
theorem Ot {op:BinOp} {x y:Int} {k:SV->Prop} (h:aDd op x y k) (t:TypeId) (p q:Operand) (n:Nat):
  ∃v,(∀w,((do eqGuard op t p q (.int .u8 x) (.int .u8 y);binOp op t (.int .u8 x) (.int .u8 y):Sem Value)).run P w= .ok (v.den β) w)/\v.lt n/\k v:=by
 cases op<;>simp only[aDd]at h<;>try exact h.elim
 all_goals
  refine⟨_,?_,?_,h⟩
  ·intro w;simp only[eqGuard_at_int,binOp_eql,binOp_neq,binOp_lss,binOp_leq,binOp_gtr,binOp_geq,pure_bind,Sem.run_pure];rfl
  ·exact trivial
theorem Kk {t:TypeId} {ms:_} (ht:P.underlying t=some (.interface ms)) (w:World):(Op.equal t .nilIface .nilIface).run P w= .ok true w:=by
 have key: ∀d,(Op.equalIn (d+1) t .nilIface .nilIface).run P w= .ok true w:=by
  intro d;simp[Op.equalIn,run_underlying ht]
 exact key 9999
theorem Kj {t:TypeId} {ms:_} (ht:P.underlying t=some (.interface ms)) (e:TypeId) (v:Value) (w:World):(Op.equal t (.iface e v) .nilIface).run P w= .ok false w:=by
 have key: ∀d,(Op.equalIn (d+1) t (.iface e v) .nilIface).run P w= .ok false w:=by
  intro d;simp[Op.equalIn,run_underlying ht]
 exact key 9999
theorem Oo {op:BinOp} {x:Value} {k:SV->Prop} (h:aDb op x k) (t:TypeId) {ms:_} (ht:P.underlying t=some (.interface ms)) (p:Operand) (c:Value) (n:Nat):
  ∃v,(∀w,((do eqGuard op t p (.const c) x .nilIface;binOp op t x .nilIface:Sem Value)).run P w= .ok (v.den β) w)/\v.lt n/\k v:=by
 have hg: ∀o,eqGuard o t p (.const c) .nilIface .nilIface=pure ():=by
  intro o;unfold eqGuard;cases o<;>cases p<;>rfl
 have hg2: ∀o e v,eqGuard o t p (.const c) (.iface e v) .nilIface=pure ():=by
  intro o e v;unfold eqGuard;cases o<;>rfl
 unfold aDb at h
 split at h<;>try exact h.elim
 ·refine⟨.b true,fun w=>?_,trivial,h⟩
  rw[hg,pure_bind]
  simp only[binOp]
  simp[Kk ht,SV.den,SA.den,SC.den]
 ·refine⟨.b false,fun w=>?_,trivial,h⟩
  rw[hg,pure_bind]
  simp only[binOp]
  simp[Kk ht,SV.den,SA.den,SC.den]
 ·refine⟨.b false,fun w=>?_,trivial,h⟩
  rw[hg2,pure_bind]
  simp only[binOp]
  simp[Kj ht,SV.den,SA.den,SC.den]
 ·refine⟨.b true,fun w=>?_,trivial,h⟩
  rw[hg2,pure_bind]
  simp only[binOp]
  simp[Kj ht,SV.den,SA.den,SC.den]
theorem rY: ∀ {l:List SC} {xs:List Int},zY l=some xs->l.map (SC.den β)=xs.map (Value.int .i64)
 | [],xs,h=>by cases h;rfl
 |c::l,xs,h=>by
  cases c<;>simp only[zY]at h<;>try cases h
  split at h<;>cases h
  rename_i n m hm
  simp[SC.den,rY hm]
theorem Ok {op:BinOp} {xs ys:List Int} {k:SV->Prop} (h:aC4 op xs ys k) (t:TypeId) {z:Nat}
  (hc:(∀(op:BinOp) (x y:Operand) (xs ys:Array Value) (w:World),(eqGuard op t x y (.agg xs) (.agg ys)).run P w= .ok () w)/\
   ∀(l m:List Int) (w:World),l.length=z->m.length=z->(Op.equalIn 10000 t (.agg (l.map (Value.int .i64)).toArray) (.agg (m.map (Value.int .i64)).toArray)).run P w= .ok (l==m) w)
  (hx:xs.length=z) (hy:ys.length=z) (p q:Operand) (n:Nat):
  ∃v,(∀w,((do eqGuard op t p q (.agg (xs.map (Value.int .i64)).toArray) (.agg (ys.map (Value.int .i64)).toArray);binOp op t (.agg (xs.map (Value.int .i64)).toArray) (.agg (ys.map (Value.int .i64)).toArray):Sem Value)).run P w= .ok (v.den β) w)/\v.lt n/\k v:=by
 cases op<;>simp only[aC4]at h<;>try exact h.elim
 ·refine⟨_,fun w=>?_,?_,h⟩
  ·rw[Sem.run_bind,hc.1,Result.andThen_ok,run_eql_struct,hc.2 xs ys w hx hy];rfl
  ·exact trivial
 ·refine⟨_,fun w=>?_,?_,h⟩
  ·rw[Sem.run_bind,hc.1,Result.andThen_ok,run_neq_struct,hc.2 xs ys w hx hy];rfl
  ·exact trivial
theorem Ef {t e:TypeId} (ht:P.underlying t=some (.slice e)) (a:Option Addr) (l c:Nat) (w:World):(Op.equal t (.slice a l c) (.slice none 0 0)).run P w= .ok a.isNone w:=by
 have key: ∀d,(Op.equalIn (d+1) t (.slice a l c) (.slice none 0 0)).run P w= .ok a.isNone w:=by
  intro d;cases a<;>simp[Op.equalIn,run_underlying ht]
 exact key 9999
theorem aCt {n:Int} (h:0<=n/\n<=18446744073709551615):IntKind.u64.wrap n=n:=by
 simp[IntKind.wrap,IntKind.bits,IntKind.signed];omega
theorem Nl {op:BinOp} {a:Option Addr} {l c:Nat} {pr:Prop} {k:SV->Prop} (h:aCN op pr k) (t e:TypeId) (ht:P.underlying t=some (.slice e)) (ha:a=none->pr) (p q:Operand) (n:Nat):
  ∃v,(∀w,((do eqGuard op t p q (.slice a l c) (.slice none 0 0);binOp op t (.slice a l c) (.slice none 0 0):Sem Value)).run P w= .ok (v.den β) w)/\v.lt n/\k v:=by
 have hg: ∀o,eqGuard o t p q (.slice a l c) (.slice none 0 0)=pure ():=by
  intro o;unfold eqGuard;cases o<;>rfl
 cases op<;>simp only[aCN]at h<;>try exact h.elim
 ·refine⟨_,fun w=>?_,?_,h a.isNone (fun e=>ha (Option.isNone_iff_eq_none.1 e))⟩
  ·rw[hg,pure_bind]
   simp only[binOp]
   simp[Ef ht,SV.den,SA.den,SC.den]
  ·exact trivial
 ·refine⟨_,fun w=>?_,?_,h a.isNone (fun e=>ha (Option.isNone_iff_eq_none.1 e))⟩
  ·rw[hg,pure_bind]
   simp only[binOp]
   simp[Ef ht,SV.den,SA.den,SC.den]
  ·exact trivial
theorem Bc (t:TypeId) (x y:Bool):binOp .eql t (.bool x) (.bool y)=(do pure (.bool (<-Op.equal t (.bool x) (.bool y)))):=rfl
theorem Bb (t:TypeId) (x y:Bool):binOp .neq t (.bool x) (.bool y)=(do pure (.bool (!(<-Op.equal t (.bool x) (.bool y))))):=rfl
theorem oL {t:TypeId} (hu:P.underlying t=some .bool) (x y:Bool):(Op.equal t (.bool x) (.bool y)).run P w= .ok (x==y) w:=by
 unfold Op.equal Op.maxDepth
 rw[show(10000:Nat)=9999+1 from rfl,Op.equalIn]
 simp only[Sem.run_bind,run_underlying hu,Result.andThen_ok,Sem.run_pure]
theorem Ou {kd:Nat} {op:BinOp} {x y:Bool} {k:SV->Prop} (h:aDe kd op x y k) (t:TypeId) (ht:kd=2->P.underlying t=some .bool) (p q:Operand) (n:Nat):
  ∃v,(∀w,((do eqGuard op t p q (.bool x) (.bool y);binOp op t (.bool x) (.bool y):Sem Value)).run P w= .ok (v.den β) w)/\v.lt n/\k v:=by
 unfold aDe at h
 split at h
 ·rename_i hk
  rw[cH,decide_eq_true_eq]at hk
  have hu:=ht hk
  cases op<;>simp only at h<;>try exact h.elim
  case eql=>exact⟨.b (x==y),fun w=>by simp only[eqGuard_at_bool,pure_bind,Bc,Sem.run_bind,oL hu,Result.andThen_ok,Sem.run_pure];rfl,trivial,h⟩
  case neq=>exact⟨.b (!(x==y)),fun w=>by simp only[eqGuard_at_bool,pure_bind,Bb,Sem.run_bind,oL hu,Result.andThen_ok,Sem.run_pure];rfl,trivial,h⟩
 ·exact h.elim
theorem On {op:BinOp} {x y:ByteArray} {k:SV->Prop} (h:aDa op x y k) (t:TypeId) (p q:Operand) (n:Nat):
  ∃v,(∀w,((do eqGuard op t p q (.string x) (.string y);binOp op t (.string x) (.string y):Sem Value)).run P w= .ok (v.den β) w)/\v.lt n/\k v:=by
 cases op<;>simp only[aDa]at h<;>try exact h.elim
 case add=>
  obtain⟨hb,h⟩:=h
  refine⟨.c (.v (.string (x++y))),fun w=>?_,rfl,h⟩
  simp only[eqGuard_at_string,pure_bind,binOp,Op.stringOp]
  rw[if_neg (by have:IntKind.i64.max=9223372036854775807:=rfl;rw[this];omega)]
  rfl
 all_goals
  refine⟨_,?_,?_,h⟩
  ·intro w;simp only[eqGuard_at_string,pure_bind,binOp,Op.stringOp,Sem.run_pure];rfl
  ·exact trivial
end
end Go.Fw
