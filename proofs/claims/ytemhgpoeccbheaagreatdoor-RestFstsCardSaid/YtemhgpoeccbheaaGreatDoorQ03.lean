/-
  One state in the place of another: with other numbers for its objects, and less said.
-/
import Derived.Test.YtemhgpoeccbheaaGreatDoorQ02
import Derived.TacticsIn
import Derived.RangeFuncCalls
set_option linter.unusedSimpArgs false
set_option linter.unusedVariables false
set_option maxRecDepth 100000
set_option maxHeartbeats 16000000
namespace Go.Fw
open Go
def rn (ren:List (Nat×Option Nat)) (id:Nat):Option Nat:=match aE ren id with
 |some r=>r
 |none=>some id
def Gy (ren:List (Nat×Option Nat)) (nx:Nat):List (Nat×Nat)->List (Nat×Nat)->Prop
 | [],[]=>True
 |(i,o)::l,(j,p)::m=>(rn ren i=some j/\o=p/\i<nx)/\Gy ren nx l m
 |_,_=>False
def eqC (ren:List (Nat×Option Nat)) (nx:Nat) (c c':SC):Prop:=
 match c,c' with
 | .i n,.i m=>n=m
 | .b n,.b m=>n=m
 | .v x,.v y=>x=y
 | .ptr i o,.ptr j p=>rn ren i=some j/\o=p/\i<nx
 | .elt i sz k o,.elt j sz' k' o'=>rn ren i=some j/\sz=sz'/\k=k'/\o=o'/\i<nx
 | .sl i sz lo len cap,.sl j sz' lo' len' cap'=>rn ren i=some j/\sz=sz'/\lo=lo'/\len=len'/\cap=cap'/\i<nx
 | .sl i _ _ len cap,.v y=>rn ren i=none/\y= .slice none 0 0/\len=0/\cap=0/\i<nx
 | .fn f l,.fn g m=>f=g/\Gy ren nx l m
 | .fnv f l,.fnv g m=>f=g/\l=m
 | .u n,.u m=>n=m
 | .h n,.h m=>n=m
 | .q n,.q m=>n=m
 | .mp i,.mp j=>rn ren i=some j/\i<nx
 | .fm f i o,.fm g j p=>f=g/\rn ren i=some j/\o=p/\i<nx
 | .pe i sz a k o,.pe j sz' a' k' o'=>rn ren i=some j/\sz=sz'/\a=a'/\k=k'/\o=o'/\i<nx
 |_,_=>False
def aAi (ren:List (Nat×Option Nat)) (nx:Nat):List SC->List SC->Prop
 | [],[]=>True
 |c::l,d::m=>eqC ren nx c d/\aAi ren nx l m
 |_,_=>False
def eqA (ren:List (Nat×Option Nat)) (nx:Nat):SA->SA->Prop
 | .c x,.c y=>eqC ren nx x y
 | .agg l,.agg m=>aAi ren nx l m
 |_,_=>False
def Vd (ren:List (Nat×Option Nat)) (nx:Nat):List SA->List SA->Prop
 | [],[]=>True
 |c::l,d::m=>eqA ren nx c d/\Vd ren nx l m
 |_,_=>False
def eqV (ren:List (Nat×Option Nat)) (nx:Nat):SV->SV->Prop
 | .a x,.a y=>eqA ren nx x y
 | .tup l,.tup m=>Vd ren nx l m
 |_,_=>False
def aBN (ren:List (Nat×Option Nat)) (nx:Nat) (fr:List (Nat×SV)):List (Nat×SV)->Prop
 | []=>True
 |(t,v)::l=>(match aE fr t with
  |some u=>eqV ren nx v u
  |none=>False)/\aBN ren nx fr l
def eqO (ren:List (Nat×Option Nat)) (nx:Nat):SO->SO->Prop
 | .box T cs,.box T' cs'=>T=T'/\aAi ren nx cs cs'
 | .arr own E k xs sp,.arr own' E' k' xs' sp'=>own=own'/\E=E'/\(match EK.cast k' k xs' with
   |some ys=>xs=ys
   |none=>False)/\sp=sp'
 | .gen A,.gen A'=>A=A'
 | .pool E k m,.pool E' k' m'=>E=E'/\k=k'/\HEq m m'
 | .map kk vk es c,.map kk' vk' es' c'=>kk=kk'/\vk=vk'/\HEq es es'/\c=c'
 | .iter i a l b d,.iter j a' l' b' d'=>rn ren i=some j/\a=a'/\l=l'/\b=b'/\d=d'/\i<nx
 |_,_=>False
def cT:SO->Prop
 | .arr _ _ _ xs sp=>xs=[]/\sp=0
 | .pool _ _ m=>m=[]
 |_=>False
def aBM (ren:List (Nat×Option Nat)) (nx:Nat) (hp:List (Nat×SO)):List (Nat×SO)->Prop
 | []=>True
 |(id,o)::l=>(id<nx/\match rn ren id with
  |some j=>(match aE hp j with
   |some o'=>eqO ren nx o o'
   |none=>False)
  |none=>cT o)/\aBM ren nx hp l
def nO (ren:List (Nat×Option Nat)) (j:Option Nat):List (Nat×SO)->Bool
 | []=>true
 |(id,_)::l=>(match j,rn ren id with
  |some i,some i'=> !Nat.beq i i'
  |_,_=>true)&&nO ren j l
def pQ (ren:List (Nat×Option Nat)):List (Nat×SO)->Bool
 | []=>true
 |(id,_)::l=>nO ren (rn ren id) l&&pQ ren l
def zT (n0:Nat):List (Nat×Option Nat)->Bool
 | []=>true
 |(id,r)::l=>(Nat.ble n0 id||match r with
  |some j=>Nat.beq j id
  |none=>false)&&zT n0 l
structure Sub (n0:Nat) (ren:List (Nat×Option Nat)) (s1 s:S):Prop where
 ok:(pQ ren s1.hp&&zT n0 ren&&Nat.ble n0 s1.nx)=true
 fr:aBN ren s1.nx s.fr s1.fr
 hp:aBM ren s1.nx s.hp s1.hp
def fB (ren:List (Nat×Option Nat)) (β:Env):Env:=fun id=>match rn ren id with
 |some j=>β j
 |none=>none
theorem qC {ren:List (Nat×Option Nat)} {β:Env} {i j:Nat} (h:rn ren i=some j):fB ren β i=β j:=by unfold fB;rw[h]
theorem xB {ren:List (Nat×Option Nat)} {nx:Nat} {β:Env}: ∀ {l m:List (Nat×Nat)},Gy ren nx l m->
  (l.map fun p=>Value.pointer ((fB ren β p.1).map (·.add p.2)))=(m.map fun p=>Value.pointer ((β p.1).map (·.add p.2)))/\ ∀p∈l,p.1<nx
 | [],[],_=>⟨rfl,by simp⟩
 |(i,o)::l,(j,p)::m,h=>by
  obtain⟨⟨h1,h2,h3⟩,h⟩:=h
  obtain⟨e1,e2⟩:=xB (β:=β) h
  subst h2
  refine⟨by simp only[List.map_cons,qC h1,e1],?_⟩
  intro q hq
  simp only[List.mem_cons]at hq
  rcases hq with rfl|hq
  ·exact h3
  ·exact e2 q hq
 | [],_::_,h=>h.elim
 |_::_,[],h=>h.elim
theorem Kl {ren:List (Nat×Option Nat)} {nx n:Nat} {β:Env} {c d:SC} (h:eqC ren nx c d) (hd:d.lt n):c.den (fB ren β)=d.den β/\c.lt nx:=by
 unfold eqC at h
 split at h<;>try exact h.elim
 ·subst h;exact⟨rfl,trivial⟩
 ·subst h;exact⟨rfl,trivial⟩
 ·subst h;exact⟨rfl,hd⟩
 ·obtain⟨h1,rfl,h3⟩:=h
  exact⟨by simp[SC.den,fB,h1],h3⟩
 ·obtain⟨h1,rfl,rfl,rfl,h3⟩:=h
  exact⟨by simp[SC.den,fB,h1],h3⟩
 ·obtain⟨h1,rfl,rfl,rfl,rfl,h3⟩:=h
  exact⟨by simp[SC.den,fB,h1],h3⟩
 ·obtain⟨h1,rfl,rfl,rfl,h3⟩:=h
  exact⟨by simp[SC.den,fB,h1],h3⟩
 ·obtain⟨rfl,h⟩:=h
  obtain⟨e1,e2⟩:=xB (β:=β) h
  exact⟨by simp[SC.den,e1],e2⟩
 ·obtain⟨rfl,rfl⟩:=h
  exact⟨rfl,trivial⟩
 ·subst h;exact⟨rfl,trivial⟩
 ·subst h;exact⟨rfl,trivial⟩
 ·subst h;exact⟨rfl,trivial⟩
 ·obtain⟨h1,h3⟩:=h
  exact⟨by simp[SC.den,fB,h1],h3⟩
 ·obtain⟨rfl,h1,rfl,h3⟩:=h
  exact⟨by simp[SC.den,fB,h1],h3⟩
 ·obtain⟨_,rfl,rfl,rfl,rfl,h3⟩:=h
  exact⟨rfl,h3⟩
theorem wB {ren:List (Nat×Option Nat)} {nx n:Nat} {β:Env}: ∀ {l m:List SC},aAi ren nx l m->(∀c∈m,SC.lt n c)->l.map (SC.den (fB ren β))=m.map (SC.den β)/\ ∀c∈l,SC.lt nx c
 | [],[],_,_=>⟨rfl,by simp⟩
 |c::l,d::m,h,hm=>by
  obtain⟨e1,e2⟩:=Kl (β:=β) h.1 (hm d (by simp))
  obtain⟨f1,f2⟩:=wB (β:=β) h.2 (fun c hc=>hm c (by simp[hc]))
  refine⟨by simp[e1,f1],?_⟩
  intro x hx
  simp only[List.mem_cons]at hx
  rcases hx with rfl|hx
  ·exact e2
  ·exact f2 x hx
 | [],_::_,h,_=>h.elim
 |_::_,[],h,_=>h.elim
theorem Km {ren:List (Nat×Option Nat)} {nx n:Nat} {β:Env} {x y:SA} (h:eqA ren nx x y) (hy:y.lt n):x.den (fB ren β)=y.den β/\x.lt nx:=by
 unfold eqA at h
 split at h<;>try exact h.elim
 ·exact Kl h hy
 ·obtain⟨e1,e2⟩:=wB (β:=β) h hy
  exact⟨by simp[SA.den,e1],e2⟩
theorem Ei {ren:List (Nat×Option Nat)} {nx n:Nat} {β:Env}: ∀ {l m:List SA},Vd ren nx l m->(∀c∈m,SA.lt n c)->l.map (SA.den (fB ren β))=m.map (SA.den β)/\ ∀c∈l,SA.lt nx c
 | [],[],_,_=>⟨rfl,by simp⟩
 |c::l,d::m,h,hm=>by
  obtain⟨e1,e2⟩:=Km (β:=β) h.1 (hm d (by simp))
  obtain⟨f1,f2⟩:=Ei (β:=β) h.2 (fun c hc=>hm c (by simp[hc]))
  refine⟨by simp[e1,f1],?_⟩
  intro x hx
  simp only[List.mem_cons]at hx
  rcases hx with rfl|hx
  ·exact e2
  ·exact f2 x hx
 | [],_::_,h,_=>h.elim
 |_::_,[],h,_=>h.elim
theorem kS {ren:List (Nat×Option Nat)} {nx n:Nat} {β:Env} {x y:SV} (h:eqV ren nx x y) (hy:y.lt n):x.den (fB ren β)=y.den β/\x.lt nx:=by
 unfold eqV at h
 split at h<;>try exact h.elim
 ·exact Km h hy
 ·obtain⟨e1,e2⟩:=Ei (β:=β) h hy
  exact⟨by simp[SV.den,e1],e2⟩
theorem wA {ren:List (Nat×Option Nat)} {nx:Nat} {fr:List (Nat×SV)}: ∀ {l:List (Nat×SV)},aBN ren nx fr l-> ∀t v,aE l t=some v-> ∃u,aE fr t=some u/\eqV ren nx v u
 | [],_,t,v,h=>by cases h
 |(t',v')::l,h,t,v,hl=>by
  rw[aC]at hl
  split at hl
  ·rename_i e
   subst e
   cases hl
   have h1:=h.1
   split at h1
   ·rename_i u hu;exact⟨u,hu,h1⟩
   ·exact h1.elim
  ·exact wA h.2 t v hl
theorem jZ {ren:List (Nat×Option Nat)} {nx:Nat} {hp:List (Nat×SO)}: ∀ {l:List (Nat×SO)},aBM ren nx hp l-> ∀id o,aE l id=some o->
  id<nx/\((∃j o',rn ren id=some j/\aE hp j=some o'/\eqO ren nx o o')\/(rn ren id=none/\cT o))
 | [],_,t,v,h=>by cases h
 |(t',v')::l,h,t,v,hl=>by
  rw[aC]at hl
  split at hl
  ·rename_i e
   subst e
   cases hl
   obtain⟨h0,h1⟩:=h.1
   refine⟨h0,?_⟩
   split at h1
   ·rename_i j hj
    split at h1
    ·rename_i o' ho';exact .inl ⟨j,o',hj,ho',h1⟩
    ·exact h1.elim
   ·rename_i hj;exact .inr ⟨hj,h1⟩
  ·exact jZ h.2 t v hl
theorem sM {ren:List (Nat×Option Nat)} {i:Nat}: ∀ {l:List (Nat×SO)},nO ren (some i) l=true-> ∀id o,aE l id=some o->rn ren id≠some i
 | [],_,t,v,h=>by cases h
 |(t',v')::l,h,t,v,hl=>by
  simp only[nO,Bool.and_eq_true]at h
  rw[aC]at hl
  split at hl
  ·rename_i e
   subst e
   intro e
   have h1:=h.1
   rw[e]at h1
   simp at h1
  ·exact sM h.2 t v hl
theorem rE {ren:List (Nat×Option Nat)}: ∀ {l:List (Nat×SO)},pQ ren l=true-> ∀id id' o o' i,aE l id=some o->aE l id'=some o'->id≠id'->rn ren id=some i->rn ren id'≠some i
 | [],_,_,_,_,_,_,h,_,_,_=>by cases h
 |(t,v)::l,h,id,id',o,o',i,h1,h2,hne,hr=>by
  simp only[pQ,Bool.and_eq_true]at h
  rw[aC]at h1 h2
  split at h1<;>split at h2
  ·rename_i e1 e2;exact absurd (e1.symm.trans e2) hne
  ·rename_i e1 e2
   subst e1
   rw[hr]at h
   exact sM h.1 _ _ h2
  ·rename_i e1 e2
   subst e2
   intro e
   rw[e]at h
   exact sM h.1 _ _ h1 hr
  ·exact rE h.2 id id' o o' i h1 h2 hne hr
theorem zS {n0:Nat}: ∀ {l:List (Nat×Option Nat)},zT n0 l=true-> ∀id,id<n0->rn l id=some id
 | [],_,id,_=>rfl
 |(t,r)::l,h,id,hid=>by
  simp only[zT,Bool.and_eq_true,Bool.or_eq_true]at h
  unfold rn
  rw[aC]
  by_cases e:t=id
  ·subst e
   rw[if_pos rfl]
   rcases h.1 with h1|h1
   ·rw[Bw,decide_eq_true_eq]at h1;omega
   ·cases r with
    |none=>cases h1
    |some j=>
     simp only[cH,decide_eq_true_eq]at h1
     rw[h1]
  ·rw[if_neg e]
   exact zS h.2 id hid
theorem Aj {ren:List (Nat×Option Nat)} {nx n:Nat} {β:Env} {Z fp:Nat->Prop} {w:World} {oa:Option Addr} {o o':SO} (h:eqO ren nx o o') (ho:o'.ok β Z fp w oa) (hlt:o'.lt n):
  o.ok (fB ren β) Z fp w oa/\o.lt nx:=by
 unfold eqO at h
 split at h<;>try exact h.elim
 ·obtain⟨rfl,h⟩:=h
  obtain⟨e1,e2⟩:=wB (β:=β) h hlt
  obtain⟨b,h1,h2,h3⟩:=ho
  exact⟨⟨b,h1,h2,by rw[h3,e1]⟩,e2⟩
 ·rename_i own E k xs sp own' E' k' xs' sp'
  obtain⟨rfl,rfl,h,rfl⟩:=h
  split at h
  ·rename_i ys hc
   obtain⟨e,he⟩:=EK.cast_spec hc
   subst e
   change ys=xs' at he
   subst he
   subst h
   exact⟨ho,trivial⟩
  ·exact h.elim
 ·subst h;exact⟨ho,trivial⟩
 ·obtain⟨rfl,rfl,h⟩:=h
  cases h
  exact⟨ho,trivial⟩
 ·obtain⟨rfl,rfl,h,rfl⟩:=h
  cases h
  exact⟨ho,trivial⟩
 ·obtain⟨h1,rfl,rfl,rfl,rfl,h3⟩:=h
  obtain⟨b,r,g1,g2,g3,g4⟩:=ho
  exact⟨⟨b,r,g1,g2,by rw[qC h1];exact g3,g4⟩,h3⟩
theorem Sub.sat {n0:Nat} {ren:List (Nat×Option Nat)} {s1 s:S} (h:Sub n0 ren s1 s) {β:Env} {Z:Nat->Prop} {fp:Nat->Nat->Prop} {w:World} {a:Act} {N:NT}
  (hs:aR β Z fp s w) (hf:cQ β s N a):aR (fB ren β) Z (fun id b=> ∃j,rn ren id=some j/\fp j b) s1 w/\cQ (fB ren β) s1 N a/\(∀id,id<n0->fB ren β id=β id)/\n0<=s1.nx:=by
 have hok:=h.ok
 simp only[Bool.and_eq_true]at hok
 obtain⟨⟨hap,hk⟩,hn⟩:=hok
 rw[Bw,decide_eq_true_eq]at hn
 refine⟨⟨hs.zlt',?_,?_,?_,?_⟩,⟨?_,?_,hf.size,hf.defers⟩,?_,hn⟩
 ·rintro id o hl b ⟨j,hj,hb⟩
  obtain⟨_,h1|h1⟩:=jZ h.hp id o hl
  ·obtain⟨j',o',hj',hl',_⟩:=h1
   rw[hj]at hj'
   cases hj'
   exact hs.flt _ _ hl' b hb
  ·rw[hj]at h1;cases h1.1
 ·rintro id id' o o' hl hl' hne b ⟨j,hj,hb⟩ ⟨j',hj',hb'⟩
  have hjj:j≠j':=fun e=>rE hap id id' o o' j hl hl' hne hj (e▸hj')
  obtain⟨_,h1|h1⟩:=jZ h.hp id o hl
  ·obtain⟨i,oi,hi,hli,_⟩:=h1
   obtain⟨_,h2|h2⟩:=jZ h.hp id' o' hl'
   ·obtain⟨i',oi',hi',hli',_⟩:=h2
    rw[hj]at hi
    rw[hj']at hi'
    cases hi
    cases hi'
    exact hs.sep j j' _ _ hli hli' hjj b hb hb'
   ·rw[hj']at h2;cases h2.1
  ·rw[hj]at h1;cases h1.1
 ·intro id o hl
  obtain⟨_,h1|h1⟩:=jZ h.hp id o hl
  ·obtain⟨j,o',hj,hl',he⟩:=h1
   have:=(Aj he (hs.obj _ _ hl') (hs.lto _ _ hl').2).1
   have e1:fB ren β id=β j:=by simp[fB,hj]
   have e2:(fun b=> ∃j,rn ren id=some j/\fp j b)=fp j:=by
    funext b
    apply propext
    constructor
    ·rintro⟨i,hi,hb⟩;rw[hj]at hi;cases hi;exact hb
    ·intro hb;exact⟨j,hj,hb⟩
   rw[e1,e2]
   exact this
  ·have e1:fB ren β id=none:=by simp[fB,h1.1]
   rw[e1]
   cases o with
   |arr own E k xs sp=>exact h1.2
   |pool E k m=>
    have hm:m=[]:=h1.2
    subst hm
    exact⟨(fun a xs sp hl=>by cases hl),(fun a a' x x' hl=>by cases hl)⟩
   |box T cs=>exact h1.2.elim
   |gen A=>exact h1.2.elim
   |map kk vk es c=>exact h1.2.elim
   |iter a b c d e=>exact h1.2.elim
 ·intro id o hl
  obtain⟨h0,h1|h1⟩:=jZ h.hp id o hl
  ·obtain⟨j,o',hj,hl',he⟩:=h1
   exact⟨h0,(Aj he (hs.obj _ _ hl') (hs.lto _ _ hl').2).2⟩
  ·refine⟨h0,?_⟩
   cases o with
   |arr own E k xs sp=>trivial
   |pool E k m=>trivial
   |box T cs=>exact h1.2.elim
   |gen A=>exact h1.2.elim
   |map kk vk es c=>exact h1.2.elim
   |iter a b c d e=>exact h1.2.elim
 ·intro t v hl
  obtain⟨u,hu,he⟩:=wA h.fr t v hl
  rw[hf.tmp t u hu,(kS (β:=β) he (hf.lt t u hu)).1]
 ·intro t v hl
  obtain⟨u,hu,he⟩:=wA h.fr t v hl
  exact(kS (β:=β) he (hf.lt t u hu)).2
 ·intro id hid
  simp[fB,zS hk id hid]
structure Ctx where
 w0:World
 Z0:Nat->Prop
 β0:Env
 n0:Nat
 N:Nat
 df:List Deferred
structure Cok (C:Ctx) (β:Env) (Z:Nat->Prop) (s:S) (w:World):Prop where
 zz: ∀b,C.Z0 b->Z b
 ext:Ext C.Z0 C.w0 w
 env: ∀id,id<C.n0->β id=C.β0 id
 nx:C.n0<=s.nx
def Sat (C:Ctx) (s:S) (a:Act) (w:World):Prop:= ∃β Z fp,aR β Z fp s w/\cQ β s (C.N,C.df) a/\Cok C β Z s w
def S.putK (N:Nat) (dst:Option Nat) (v:SV) (s:S) (k:S->Prop):Prop:=match dst with
 |none=>k s
 |some d=>match Nat.blt d N with
  |true=>s.go fun fr hp nx=>eZ fr d v fun fr'=>k ⟨fr',hp,nx⟩
  |false=>False
def pG (whole:List Oper) (g:Option (Nat×Bool)) (s:S) (kt kf:S->Prop):Prop:=match g with
 |none=>kt s
 |some (j,want)=>match nU whole j with
  |some oj=>match oj.dst with
   |some d=>s.go fun fr hp nx=>match aE fr d with
    |some (.a (.c (.b c)))=>mH c
     (eZ fr d (.b true) fun fr'=>match want with
      |true=>kt ⟨fr',hp,nx⟩
      |false=>kf ⟨fr',hp,nx⟩)
     (eZ fr d (.b false) fun fr'=>match want with
      |true=>kf ⟨fr',hp,nx⟩
      |false=>kt ⟨fr',hp,nx⟩)
    |some (.tup [])=>kf s
    |_=>False
   |none=>False
  |none=>False
theorem nB (a b:Nat):Nat.blt a b=decide (a<b):=by
 rw[Bool.eq_iff_iff];simp[Nat.blt];omega
theorem yW {C:Ctx} {β:Env} {Z:Nat->Prop} {s s':S} {w w':World} {a:Act} {v:SV} {β':Env} {Z':Nat->Prop} {fp':Nat->Nat->Prop}
  (hf:cQ β s (C.N,C.df) a) (hc:Cok C β Z s w) (hn:Nxt β Z s w v w' β' Z' fp' s') {dst:Option Nat} {k:S->Prop} (h:S.putK C.N dst v s' k):
  ∃s'',k s''/\Sat C s'' (a.put dst (v.den β')) w':=by
 have hc': ∀s'':S,s''.nx=s'.nx->Cok C β' Z' s'' w':=fun s'' e=>⟨fun b hb=>hn.zz b (hc.zz b hb),Ext.trans hc.ext hn.ext hc.zz,fun id hid=>(hn.env id (Nat.lt_of_lt_of_le hid hc.nx)).trans (hc.env id hid),by
  have:=hc.nx;have:=hn.nx;omega⟩
 have hfr: ∀t u,aE s'.fr t=some u->a.tmps[t]?=some (u.den β')/\u.lt s'.nx:=by
  intro t u ht
  rw[hn.fr]at ht
  have hl:=hf.lt t u ht
  exact⟨by rw[hf.tmp t u ht,SV.den_congr hn.env hl],SV.lt_mono hn.nx hl⟩
 cases dst with
 |none=>
  exact⟨s',h,β',Z',fp',hn.sat,⟨fun t u ht=>(hfr t u ht).1,fun t u ht=>(hfr t u ht).2,hf.size,hf.defers⟩,hc' s' rfl⟩
 |some d=>
  simp only[S.putK]at h
  split at h<;>try exact h.elim
  rename_i hd
  rw[nB,decide_eq_true_eq]at hd
  rw[S.go_eq,aX]at h
  refine⟨_,h,β',Z',fp',⟨hn.sat.zlt',hn.sat.flt,hn.sat.sep,hn.sat.obj,hn.sat.lto⟩,⟨?_,?_,by simp[Act.put,hf.size],hf.defers⟩,hc' _ rfl⟩
  ·intro t u ht
   rw[cJ]at ht
   simp only[Act.put,Array.getElem?_setIfInBounds]
   split at ht
   ·rename_i e
    subst e
    cases ht
    simp[hf.size,hd]
   ·rename_i e
    rw[if_neg e]
    exact(hfr t u ht).1
  ·intro t u ht
   rw[cJ]at ht
   split at ht
   ·cases ht;exact hn.lt
   ·exact(hfr t u ht).2
theorem Sat.set {C:Ctx} {s:S} {a:Act} {w:World} (h:Sat C s a w) {d:Nat} {c c':Bool} (hl:aE s.fr d=some (.b c)) (e:c=c'):Sat C ⟨upd s.fr d (.b c'),s.hp,s.nx⟩ a w:=by
 obtain⟨β,Z,fp,hs,hf,hc⟩:=h
 refine⟨β,Z,fp,⟨hs.zlt',hs.flt,hs.sep,hs.obj,hs.lto⟩,⟨?_,?_,hf.size,hf.defers⟩,⟨hc.zz,hc.ext,hc.env,hc.nx⟩⟩
 ·intro t u ht
  rw[cJ]at ht
  split at ht
  ·rename_i e'
   subst e'
   cases ht
   rw[hf.tmp _ _ hl,e]
  ·exact hf.tmp t u ht
 ·intro t u ht
  rw[cJ]at ht
  split at ht
  ·cases ht;trivial
  ·exact hf.lt t u ht
theorem Gs {C:Ctx} {whole:List Oper} {g:Option (Nat×Bool)} {s:S} {a:Act} {w:World} {kt kf:S->Prop} (h:pG whole g s kt kf) (hs:Sat C s a w) (o:Oper) (ho:o.guard=g):
  (Region.wanted o (yielded whole.toArray a.tmps)=true/\ ∃s',kt s'/\Sat C s' a w)\/(Region.wanted o (yielded whole.toArray a.tmps)=false/\ ∃s',kf s'/\Sat C s' a w):=by
 unfold pG at h
 split at h
 ·left
  exact⟨by simp[Region.wanted,ho],s,h,hs⟩
 ·rename_i j want
  split at h<;>try exact h.elim
  rename_i oj hoj
  rw[dH]at hoj
  split at h<;>try exact h.elim
  rename_i d hd
  have hy: ∀v,a.tmps[d]?=some v->yielded whole.toArray a.tmps j=match v with
    | .bool b=>some b
    |_=>none:=by
   intro v hv
   unfold yielded
   simp only[List.getElem?_toArray,hoj,Option.bind_some,hd,hv]
   cases v<;>rfl
  have hs':=hs
  obtain⟨β,Z,fp,hh,hf,hc⟩:=hs
  rw[S.go_eq]at h
  split at h<;>try exact h.elim
  ·rename_i c hl
   rw[mG,aX,aX]at h
   have hy':yielded whole.toArray a.tmps j=some c:=hy _ (hf.tmp _ _ hl)
   have hw:Region.wanted o (yielded whole.toArray a.tmps)=(some c==some want):=by simp[Region.wanted,ho,hy']
   rw[hw]
   have hc1:=hs'.set hl rfl
   cases c with
   |true=>
    rw[if_pos rfl]at h
    cases want with
    |true=>exact .inl ⟨rfl,_,h,hc1⟩
    |false=>exact .inr ⟨rfl,_,h,hc1⟩
   |false=>
    rw[if_neg (by simp)]at h
    cases want with
    |true=>exact .inr ⟨rfl,_,h,hc1⟩
    |false=>exact .inl ⟨rfl,_,h,hc1⟩
  ·rename_i hl
   right
   have hy':yielded whole.toArray a.tmps j=none:=hy _ (hf.tmp _ _ hl)
   exact⟨by simp[Region.wanted,ho,hy'],s,h,hs'⟩
abbrev fnc (ro:Option Nat):Fence:= {Fence.wide with round:=ro}
theorem Mb {P:Program} {o:Oper} {a:Act} {w:World} {next:Act->World->Prop} {Q:Exit->Act->World->Prop} (ro:Option Nat) (n:Nat) (h:o.wp P a w next Q) (hd: ∀c,o.op≠ .defer c):o.wpIn (fnc ro) n P a w next Q:=by
 unfold Oper.wpIn
 refine⟨fun _ _=>trivial,?_⟩
 rw[Oper.semAt_eq _ _ _ hd]
 unfold Oper.wp at h
 generalize (execOp a.eval o).run P w=r at h⊢
 have hdep:(fnc ro).depth.isSome=true->1<=n:=fun h=>by cases h
 cases r with
 |ok x w'=>
  cases x with
  |enter f args=>exact⟨hdep,(callsIn_wide (n:=n-1)).2 h⟩
  |row row args=>
   refine⟨hdep,fun c cs _=>?_⟩
   obtain⟨v,w2,hr,hs⟩:=h c cs
   exact⟨v,w2,hr,stepsIn_wide.2 hs⟩
  |value v=>exact h
  |skip=>exact h
  |defer d=>exact h
  |_=>exact h.elim
 |halt e w'=>
  cases e with
  |panic v=>exact h
  |_=>exact h.elim
def aDl (P:Program) (N:Nat) (E:Env->Prop) (o:Oper) (s:S) (k:S->SV->Prop):Prop:=
 ∀(ro:Option Nat) (n:Nat) β Z fp w a df,E β->aR β Z fp s w->cQ β s (N,df) a-> ∀(next:Act->World->Prop) (Q:Exit->Act->World->Prop),
  (∀v w' β' Z' fp' s',Nxt β Z s w v w' β' Z' fp' s'->k s' v->next (a.put o.dst (v.den β')) w')->o.wpIn (fnc ro) n P a w next Q
@[irreducible] def Bp (P:Program) (N:Nat) (E:Env->Prop) (o:Oper) (s:S) (k:S->SV->Prop):Prop:=aDl P N E o s k
def opF (P:Program) (ty:List (Nat×STy)) (N:Nat) (E:Env->Prop) (o:Oper) (s:S) (k:S->SV->Prop):Prop:=
 match o.op with
 | .defer _=>False
 | .call {callee:= .value f,.. }=>match ev s.fr f with
   |some (.a (.c (.v (.func (.yield _) _ _))))=>Bp P N E o s k
   |_=>opK P ty N o s k
 |_=>opK P ty N o s k
theorem Tx {P:Program} {ty:List (Nat×STy)} (hty:cZ P ty) {N:Nat} {E:Env->Prop} {o:Oper} {s:S} {k:S->SV->Prop} (h:opF P ty N E o s k):aDl P N E o s k:=by
 have key:opK P ty N o s k->(∀c,o.op≠ .defer c)->aDl P N E o s k:=fun h hd ro n β Z fp w a df _ hs hf next Q hn=>
  Mb ro n (Db hty h β Z fp w a df hs hf next Q hn) hd
 unfold opF at h
 split at h
 ·exact h.elim
 ·rename_i hop
  split at h
  ·unfold Bp at h;exact h
  ·exact key h (fun c hc=>by rw[hop]at hc;cases hc)
 ·rename_i hop _
  exact key h (fun c hc=>hop c hc)
section
variable (P:Program) (ty:List (Nat×STy)) (N:Nat) (E:Env->Prop)
def iU (whole:List Oper):List Oper->S->(S->Prop)->Prop
 | [],s,k=>k s
 |o::rest,s,k=>pG whole o.guard s
  (fun s'=>opF P ty N E o s' fun s'' v=>S.putK N o.dst v s'' fun s3=>iU whole rest s3 k)
  (fun s'=>S.putK N o.dst .u s' fun s3=>iU whole rest s3 k)
end
theorem Nxt.refl {β:Env} {Z:Nat->Prop} {fp:Nat->Nat->Prop} {s:S} {w:World} (hs:aR β Z fp s w) {v:SV} (hl:v.lt s.nx):Nxt β Z s w v w β Z fp s:=
 ⟨fun _ _=>rfl,Ext.refl _ _,fun _ h=>h,rfl,Nat.le_refl _,hs,hl⟩
theorem aD0 (n:Nat):SV.u.lt n:=by intro c hc;cases hc
def EOk (C:Ctx) (E:Env->Prop):Prop:= ∀β:Env,(∀id,id<C.n0->β id=C.β0 id)->E β
abbrev lD:Env->Prop:=fun _=>True
theorem jK {P:Program} {ty:List (Nat×STy)} (hty:cZ P ty) {C:Ctx} {E:Env->Prop} (hE:EOk C E) (ro:Option Nat) (n:Nat) (whole:List Oper) {Q:Exit->Act->World->Prop}: ∀(l:List Oper) (s:S) (k:S->Prop) (a:Act) (w:World),
  iU P ty C.N E whole l s k->Sat C s a w->(∀s a w,k s->Sat C s a w->Q .normal a w)->wpListIn (fnc ro) n P whole.toArray Q l a w
 | [],s,k,a,w,h,hs,hQ=>hQ s a w h hs
 |o::rest,s,k,a,w,h,hs,hQ=>by
  simp only[iU]at h
  unfold wpListIn
  rcases Gs h hs o rfl with⟨hw,s',hk,hs'⟩|⟨hw,s',hk,hs'⟩
  ·rw[if_pos hw]
   have h1:=Tx hty hk
   obtain⟨β,Z,fp,hh,hf,hc⟩:=hs'
   refine h1 ro n β Z fp w a C.df (hE β hc.env) hh hf _ _ ?_
   intro v w' β' Z' fp' s'' hn hk'
   obtain⟨s3,hk3,hs3⟩:=yW hf hc hn hk'
   exact jK hty hE ro n whole rest s3 k _ _ hk3 hs3 hQ
  ·rw[if_neg (by rw[hw];simp)]
   obtain⟨β,Z,fp,hh,hf,hc⟩:=hs'
   obtain⟨s3,hk3,hs3⟩:=yW (v:= .u) hf hc (Nxt.refl hh (aD0 _)) hk
   exact⟨fun _ _=>trivial,jK hty hE ro n whole rest s3 k _ _ hk3 hs3 hQ⟩
@[irreducible] def uP (P:Program) (N n0:Nat) (ops:Array Oper) (s:S) (kn:S->Prop):Prop:=
 ∀(C:Ctx) (id:Nat) (a:Act) (w:World) (Q:Exit->Act->World->Prop),C.N=N->C.n0=n0->Sat C s a w->(∀s a w,kn s->Sat C s a w->Q .normal a w)->(Code.region id ops true).wp P Q a w
def QOf (C:Ctx) (kn kr:S->Prop) (ke:Nat->S->Prop):Exit->Act->World->Prop
 | .normal,a,w=> ∃s,kn s/\Sat C s a w
 | .ret,a,w=> ∃s,kr s/\Sat C s a w
 | .exit i,a,w=> ∃s,ke i s/\Sat C s a w
 |_,_,_=>False
theorem Bt {P:Program} {c:Code} {Q:Exit->Act->World->Prop} {a:Act} {w:World} {α:Type} (I:α->Act->World->Prop) (μ:α->Nat) (x0:α) (h₀:I x0 a w)
  (round: ∀x a w,I x a w->c.wp P (Exit.then (fun a' w'=> ∃x',I x' a' w'/\μ x'<μ x) Q) a w):(Code.loop c).wp P Q a w:=by
 intro b k cs
 have key: ∀n x a w,μ x=n->I x a w->
   ∃e a' w',Q e a' w'/\Arrives P (lone (b.at a (.code c:: .inLoop c::k)) cs w) b k cs e a' w':=by
  intro n
  induction n using Nat.strongRecOn with
  |_ n ih=>
   intro x a w hn hI
   obtain⟨e,a₁,w₁,hq,harr⟩:=round x a w hI b (.inLoop c::k) cs
   cases e with
   |normal=>
    obtain⟨x',hI₁,hlt⟩:=hq
    obtain⟨e₂,a₂,w₂,hq₂,harr₂⟩:=ih (μ x') (hn▸hlt) x' a₁ w₁ rfl hI₁
    exact⟨e₂,a₂,w₂,hq₂,.of_steps (Steps.trans harr (.one step_inLoop)) harr₂⟩
   |exit id=>exact⟨_,a₁,w₁,hq,.pass (x:= .inLoop c) rfl (fun _ _=> .inl (by simp)) harr⟩
   |goto l=>exact⟨_,a₁,w₁,hq,.pass (x:= .inLoop c) rfl (fun _ _=> .inl (by simp)) harr⟩
   |ret=>exact⟨_,a₁,w₁,hq,.pass (x:= .inLoop c) rfl (fun _ _=> .inl (by simp)) harr⟩
   |panic ch=>exact⟨_,a₁,w₁,hq,.pass (x:= .inLoop c) rfl (fun _ _=> .inl (by simp)) harr⟩
   |outgrown=>exact⟨_,a₁,w₁,hq,.pass (x:= .inLoop c) rfl (fun _ _=> .inl (by simp)) harr⟩
 obtain⟨e,a',w',hq,harr⟩:=key _ x0 a w rfl h₀
 exact⟨e,a',w',hq,.of_steps (.one step_loop) harr⟩
def gH (P:Program) (N n0:Nat) (c:Code) (kn kr:S->Prop) (ke:Nat->S->Prop) (s:S):Prop:=
 ∀C:Ctx,C.N=N->C.n0=n0-> ∀(a:Act) (w:World),Sat C s a w->c.wp P (QOf C kn kr ke) a w
@[irreducible] def Bs (P:Program) (N n0:Nat) (c:Code) (kn kr:S->Prop) (ke:Nat->S->Prop) (s:S):Prop:=gH P N n0 c kn kr ke s
@[irreducible] def Sj (n0:Nat) (F:(S->Prop)->S->Prop) (s:S):Prop:=
 ∃(α:Type) (pat:α->S) (inv:α->Prop) (μ:α->Nat),(∃x ren,Sub n0 ren (pat x) s/\inv x)/\
  ∀x,inv x->F (fun s'=> ∃x' ren,Sub n0 ren (pat x') s'/\inv x'/\μ x'<μ x) (pat x)
def qS:Nat->List Nat->Bool
 |_,[]=>false
 |a,b::l=>match Nat.beq a b with
  |true=>true
  |false=>qS a l
def wU (n:Nat) (live:List Nat):List (Nat×SV)->(List (Nat×SV)->Prop)->Prop
 | [],k=>k []
 |(t,v)::l,k=>match Nat.blt t n with
  |true=>wU n live l fun l'=>k ((t,v)::l')
  |false=>match qS t live with
   |true=>wU n live l fun l'=>k ((t,v)::l')
   |false=>wU n live l k
def Jq (n:Nat) (live:List Nat) (t:Nat):Bool:=match Nat.blt t n with
 |true=>true
 |false=>qS t live
def tY (n:Nat) (live:List Nat):List (Nat×SV)->List (Nat×SV)
 | []=> []
 |(t,v)::l=>match Jq n live t with
  |true=>(t,v)::tY n live l
  |false=>tY n live l
theorem jW (n:Nat) (live:List Nat): ∀(fr:List (Nat×SV)) (k:List (Nat×SV)->Prop),wU n live fr k <-> k (tY n live fr)
 | [],k=>Iff.rfl
 |(t,v)::l,k=>by
  simp only[wU,tY,Jq]
  cases Nat.blt t n with
  |true=>exact jW n live l _
  |false=>
   simp only
   cases qS t live with
   |true=>exact jW n live l _
   |false=>exact jW n live l _
theorem zQ (n:Nat) (live:List Nat): ∀(fr:List (Nat×SV)) (u:Nat),aE (tY n live fr) u=match Jq n live u with
  |true=>aE fr u
  |false=>none
 | [],u=>by simp only[tY,aE];split<;>rfl
 |(t,v)::l,u=>by
  have ih:=zQ n live l u
  simp only[tY]
  by_cases e:t=u
  ·subst e
   cases hk:Jq n live t with
   |true=>simp[aC]
   |false=>rw[hk]at ih;simpa using ih
  ·cases hk:Jq n live t with
   |true=>simp only[aC,if_neg e];exact ih
   |false=>simp only[aC,if_neg e];exact ih
theorem Dq {n:Nat} {live:List Nat} {fr:List (Nat×SV)} {u:Nat} {v:SV} (h:aE (tY n live fr) u=some v):aE fr u=some v:=by
 rw[zQ]at h
 split at h
 ·exact h
 ·cases h
theorem Sat.keep {C:Ctx} {s:S} {a:Act} {w:World} (h:Sat C s a w) (n:Nat) (live:List Nat):Sat C ⟨tY n live s.fr,s.hp,s.nx⟩ a w:=by
 obtain⟨β,Z,fp,hs,hf,hc⟩:=h
 exact⟨β,Z,fp,⟨hs.zlt',hs.flt,hs.sep,hs.obj,hs.lto⟩,⟨fun t v ht=>hf.tmp t v (Dq ht),fun t v ht=>hf.lt t v (Dq ht),hf.size,hf.defers⟩,⟨hc.zz,hc.ext,hc.env,hc.nx⟩⟩
section
variable (P:Program) (ty:List (Nat×STy)) (N:Nat) (E:Env->Prop) (n0 n:Nat) (live:List Nat)
def jA:Code->(S->Prop)->(S->Prop)->(Nat->S->Prop)->S->Prop
 | .skip,kn,_,_,s=>kn s
 | .label _,kn,_,_,s=>kn s
 | .region _ ops false,kn,_,_,s=>s.go fun fr hp nx=>wU n live fr fun fr'=>iU P ty N E ops.toList ops.toList ⟨fr',hp,nx⟩ kn
 | .region _ ops true,kn,_,_,s=>s.go fun fr hp nx=>wU n live fr fun fr'=>uP P N n0 ops ⟨fr',hp,nx⟩ kn
 | .seq a b,kn,kr,ke,s=>jA a (fun s'=>jA b kn kr ke s') kr ke s
 | .cond c x y,kn,kr,ke,s=>match ev s.fr c with
   |some (.a (.c (.b b)))=>mH b (jA x kn kr ke s) (jA y kn kr ke s)
   |_=>False
 | .block id c,kn,kr,ke,s=>jA c kn kr (fun i s'=>match Nat.beq i id with
   |true=>kn s'
   |false=>ke i s') s
 | .exit id,_,_,ke,s=>ke id s
 | .ret,_,kr,_,s=>kr s
 | .loop c,_,kr,ke,s=>s.go fun fr hp nx=>wU n live fr fun fr'=>Sj n0 (fun k s'=>jA c k kr ke s') ⟨fr',hp,nx⟩
 | .goto _,_,_,_,_=>False
 |c,kn,kr,ke,s=>Bs P N n0 c kn kr ke s
end
theorem Sat.sub {C:Ctx} {s s1:S} {a:Act} {w:World} (h:Sat C s a w) {ren:List (Nat×Option Nat)} (hsub:Sub C.n0 ren s1 s):Sat C s1 a w:=by
 obtain⟨β,Z,fp,hs,hf,hc⟩:=h
 obtain⟨h1,h2,h3,h4⟩:=hsub.sat hs hf
 exact⟨_,Z,_,h1,h2,⟨hc.zz,hc.ext,fun id hid=>(h3 id hid).trans (hc.env id hid),h4⟩⟩
theorem Bs.sem {P:Program} {C:Ctx} {c:Code} {kn kr:S->Prop} {ke:Nat->S->Prop} {s:S} {a:Act} {w:World} (h:Bs P C.N C.n0 c kn kr ke s) (hs:Sat C s a w):c.wp P (QOf C kn kr ke) a w:=by
 unfold Bs at h
 exact h C rfl rfl a w hs
theorem bZ {P:Program} {ty:List (Nat×STy)} (hty:cZ P ty) {n:Nat} {live:List Nat} {C:Ctx} {E:Env->Prop} (hE:EOk C E): ∀(c:Code) (kn kr:S->Prop) (ke:Nat->S->Prop) (s:S) (a:Act) (w:World),
  jA P ty C.N E C.n0 n live c kn kr ke s->Sat C s a w->c.wp P (QOf C kn kr ke) a w
 | .skip,kn,kr,ke,s,a,w,h,hs=>wp_skip ⟨s,h,hs⟩
 | .label _,kn,kr,ke,s,a,w,h,hs=>wp_label ⟨s,h,hs⟩
 | .region id ops false,kn,kr,ke,s,a,w,h,hs=>by
   simp only[jA]at h
   rw[S.go_eq,jW]at h
   refine wpIn_wide.1 (wpIn_region_list (n:=0) ?_)
   have:=jK hty (C:=C) hE none 0 ops.toList (Q:=QOf C kn kr ke) ops.toList _ kn a w h (hs.keep n live) (fun s a w hk hs=>⟨s,hk,hs⟩)
   rw[Array.toArray_toList]at this
   exact this
 | .region id ops true,kn,kr,ke,s,a,w,h,hs=>by
   simp only[jA]at h
   rw[S.go_eq,jW]at h
   unfold uP at h
   exact h C id a w _ rfl rfl (hs.keep n live) (fun s a w hk hs=>⟨s,hk,hs⟩)
 | .seq x y,kn,kr,ke,s,a,w,h,hs=>by
   simp only[jA]at h
   refine wp_seq (wp_mono (bZ hty hE x _ kr ke s a w h hs) ?_)
   intro e a w hq
   cases e<;>first
    |exact hq
    |(obtain⟨s',hk,hs'⟩:=hq;exact bZ hty hE y kn kr ke s' a w hk hs')
 | .cond c x y,kn,kr,ke,s,a,w,h,hs=>by
   simp only[jA]at h
   split at h<;>try exact h.elim
   rename_i b hb
   rw[mG]at h
   have he:a.eval c= .bool b:=by
    obtain⟨β,Z,fp,hh,hf,hc⟩:=hs
    exact(aI hf hb).1
   refine wp_cond he ?_
   split at h
   ·rename_i hb'
    rw[if_pos hb']
    exact bZ hty hE x kn kr ke s a w h hs
   ·rename_i hb'
    rw[if_neg hb']
    exact bZ hty hE y kn kr ke s a w h hs
 | .block id c,kn,kr,ke,s,a,w,h,hs=>by
   simp only[jA]at h
   refine wp_block (wp_mono (bZ hty hE c _ kr _ s a w h hs) ?_)
   intro e a w hq
   cases e<;>try exact hq
   rename_i i
   obtain⟨s',hk,hs'⟩:=hq
   simp only[Exit.inBlock]
   rw[cH]at hk
   by_cases hi:i=id
   ·rw[if_pos hi]
    simp only[hi,decide_true]at hk
    exact⟨s',hk,hs'⟩
   ·rw[if_neg hi]
    simp only[hi,decide_false]at hk
    exact⟨s',hk,hs'⟩
 | .exit id,kn,kr,ke,s,a,w,h,hs=>wp_exit ⟨s,h,hs⟩
 | .ret,kn,kr,ke,s,a,w,h,hs=>wp_ret ⟨s,h,hs⟩
 | .loop c,kn,kr,ke,s,a,w,h,hs=>by
   simp only[jA]at h
   rw[S.go_eq,jW]at h
   unfold Sj at h
   obtain⟨α,pat,inv,μ,⟨x0,ren,hsub,hinv⟩,hround⟩:=h
   refine Bt (fun x a w=>inv x/\Sat C (pat x) a w) μ x0 ⟨hinv,(hs.keep n live).sub hsub⟩ ?_
   rintro x a w ⟨hi,hsat⟩
   refine wp_mono (bZ hty hE c _ kr ke _ a w (hround x hi) hsat) ?_
   intro e a w hq
   cases e<;>first
    |exact hq
    |(obtain⟨s',⟨x',ren',hsub',hi',hlt⟩,hs'⟩:=hq;exact⟨x',⟨hi',hs'.sub hsub'⟩,hlt⟩)
 | .rangeFunc _ _ _ _,kn,kr,ke,s,a,w,h,hs=>Bs.sem h hs
 | .scope _,kn,kr,ke,s,a,w,h,hs=>Bs.sem h hs
 | .refuse _,kn,kr,ke,s,a,w,h,hs=>Bs.sem h hs
def Iq (ty:List (Nat×STy)) (s:S):List ResultVar->(List SA->Prop)->Prop
 | [],k=>k []
 | .tmp t::l,k=>match aE s.fr t with
   |some (.a x)=>Iq ty s l fun r=>k (x::r)
   |_=>False
 | .cell t T::l,k=>match aE ty T,aE s.fr t with
   |some d,some (.a (.c (.ptr id 0)))=>match aE s.hp id with
    |some (.box _ cells)=>match d.agg,Nat.ble (dN d.zero) (dN cells)with
     |true,true=>iZ (yE cells (dN d.zero)) fun c=>Iq ty s l fun r=>k (.agg c::r)
     |false,_=>match cells with
      |c::_=>Iq ty s l fun r=>k (.c c::r)
      | []=>False
     |_,_=>False
    |_=>False
   |_,_=>False
def kH (ty:List (Nat×STy)) (rs:List ResultVar) (post:SV->S->Prop) (s:S):Prop:=Iq ty s rs fun r=>match r with
 | [x]=>post (.a x) s
 |r=>post (.tup r) s
def rQ (tmps:Array Value):ResultVar->Sem Value
 | .tmp t=>pure (tmps.getD t undef)
 | .cell a t=>do loadVar t (<-asAddr (tmps.getD a undef))
theorem kJ {P:Program} {ty:List (Nat×STy)} (hty:cZ P ty) {β:Env} {Z:Nat->Prop} {fp:Nat->Nat->Prop} {s:S} {w:World} {N:NT} {a:Act} (hs:aR β Z fp s w) (hf:cQ β s N a):
  ∀(l:List ResultVar) (k:List SA->Prop),Iq ty s l k-> ∃r:List SA,k r/\(∀x∈r,SA.lt s.nx x)/\
   (l.mapM (rQ a.tmps)).run P w= .ok (r.map (SA.den β)) w
 | [],k,h=>⟨[],h,by simp,by simp⟩
 | .tmp t::l,k,h=>by
   simp only[Iq]at h
   split at h<;>try exact h.elim
   rename_i x hx
   obtain⟨r,hk,hl,hr⟩:=kJ hty hs hf l _ h
   refine⟨x::r,hk,?_,?_⟩
   ·intro y hy
    simp only[List.mem_cons]at hy
    rcases hy with rfl|hy
    ·exact hf.lt t _ hx
    ·exact hl y hy
   ·have h1:=hf.tmp t _ hx
    simp only[List.mapM_cons,rQ,pure_bind,Sem.run_bind,hr,Result.andThen_ok,Sem.run_pure,List.map_cons]
    simp[Array.getD_eq_getD_getElem?,h1,SV.den]
 | .cell t T::l,k,h=>by
   simp only[Iq]at h
   split at h<;>try exact h.elim
   rename_i d id hd hx
   split at h<;>try exact h.elim
   rename_i T' cells hl
   obtain⟨b,hb,_,_⟩:=wF hs hl
   have hcl: ∀c∈cells,SC.lt s.nx c:=(hs.lto id _ hl).2
   have h1:=hf.tmp t _ hx
   have h2:a.tmps.getD t undef= .pointer (some ⟨b,0,none⟩):=by
    simp[Array.getD_eq_getD_getElem?,h1,SV.den,SA.den,SC.den,hb,Addr.add_lit]
   have hload:=eJ (w:=w) (hty T d hd) ⟨b,0,none⟩
   have hload':(do loadVar T (<-asAddr (a.tmps.getD t undef)):Sem Value).run P w=(Instr.loadAt T (.pointer (some ⟨b,0,none⟩))).run P w:=by
    rw[h2];rfl
   rw[hload]at hload'
   have fin: ∀(x:SA),(Iq ty s l fun r=>k (x::r))->x.lt s.nx->(Instr.loadAt T (.pointer (some ⟨b,0,none⟩))).run P w= .ok (x.den β) w->
     ∃r:List SA,k r/\(∀x∈r,SA.lt s.nx x)/\
      ((ResultVar.cell t T::l).mapM (rQ a.tmps)).run P w= .ok (r.map (SA.den β)) w:=by
    intro x hx' hlt hrun
    obtain⟨r,hk,hll,hr⟩:=kJ hty hs hf l _ hx'
    refine⟨x::r,hk,?_,?_⟩
    ·intro y hy
     simp only[List.mem_cons]at hy
     rcases hy with rfl|hy
     ·exact hlt
     ·exact hll y hy
    ·rw[hload,<-hload']at hrun
     rw[List.mapM_cons,Sem.run_bind]
     simp only[rQ]at hrun⊢
     rw[hrun]
     simp only[Result.andThen_ok,Sem.run_bind,hr,Sem.run_pure,List.map_cons]
   split at h<;>try exact h.elim
   ·rename_i hagg hlen
    rw[Bw,bD,bD,decide_eq_true_eq]at hlen
    rw[dY,sS,bD]at h
    refine fin _ h (fun c hc=>hcl c (List.mem_of_mem_take hc)) ?_
    rw[hload,hagg]
    have:=run_loadCells_list (P:=P) w ⟨b,0,none⟩ ((cells.take d.zero.length).map (SC.den β)) (fun j v hj=>by
     rw[List.getElem?_map]at hj
     obtain⟨c,hc,rfl⟩:=Option.map_eq_some_iff.1 hj
     rw[Addr.add_lit,Nat.zero_add]
     refine uJ hs hl hb _ _ ?_
     rw[List.getElem?_take]at hc
     split at hc
     ·exact hc
     ·cases hc)
    rw[List.length_map,List.length_take,Nat.min_eq_left hlen]at this
    simp only[this,Result.andThen_ok,SA.den]
   ·rename_i hagg
    cases cells with
    |nil=>exact h.elim
    |cons c rest=>
     refine fin (.c c) h (hcl c (by simp)) ?_
     rw[hload,hagg]
     simp[run_load,uJ hs hl hb 0 c (by simp),SA.den]
def kU:Nat->List SV->List (Nat×SV)
 |_,[]=> []
 |n,v::l=>(n,v)::kU (n+1) l
theorem fJ: ∀(l:List SV) (n t:Nat) (v:SV),aE (kU n l) t=some v->n<=t/\l[t-n]?=some v
 | [],n,t,v,h=>by cases h
 |x::l,n,t,v,h=>by
  simp only[kU,aC]at h
  split at h
  ·rename_i e
   subst e
   cases h
   simp
  ·rename_i e
   obtain⟨h1,h2⟩:=fJ l (n+1) t v h
   refine⟨by omega,?_⟩
   rw[show t-n=(t-(n+1))+1 by omega,List.getElem?_cons_succ]
   exact h2
theorem entry {P:Program} {ty:List (Nat×STy)} (hty:cZ P ty) {f:FuncId} {fn:Func} {c:Code} {R:Ending->World->Prop} (n:Nat) (live:List Nat) (avs:List SV) (hp:List (Nat×SO)) (nx:Nat) (post:SV->S->Prop)
  {β:Env} {Z:Nat->Prop} {fp:Nat->Nat->Prop} {w:World} (hf:P.funcs[f]?=some fn) (hb:fn.body=some c) (hs:aR β Z fp ⟨[],hp,nx⟩ w) (hlt: ∀v∈avs,SV.lt nx v) (hn:avs.length<=fn.ntmps)
  {fr:List (Nat×SV)} (hfr:fr=kU 0 avs)
  (hex:jA P ty fn.ntmps lD nx n live c (kH ty fn.results.toList post) (kH ty fn.results.toList post) (fun _ _=>False) ⟨fr,hp,nx⟩)
  (hR: ∀v w' β' Z' fp' s',Nxt β Z ⟨[],hp,nx⟩ w v w' β' Z' fp' ⟨[],s'.hp,s'.nx⟩->post v s'->R (.returned (v.den β')) w'):
  Calls P f (avs.map (SV.den β)).toArray w R:=by
 subst hfr
 refine calls_of_wp hf hb ?_
 let C:Ctx:=⟨w,Z,β,nx,fn.ntmps,[]⟩
 have hsat:Sat C ⟨kU 0 avs,hp,nx⟩ {tmps:=(avs.map (SV.den β)).toArray++Array.replicate (fn.ntmps-(avs.map (SV.den β)).toArray.size) undef,defers:= []} w:=by
  refine⟨β,Z,fp,⟨hs.zlt',hs.flt,hs.sep,hs.obj,hs.lto⟩,⟨?_,?_,?_,rfl⟩,⟨fun _ h=>h,Ext.refl _ _,fun _ _=>rfl,Nat.le_refl _⟩⟩
  ·intro t v ht
   obtain⟨_,h2⟩:=fJ avs 0 t v ht
   rw[Nat.sub_zero]at h2
   have hlt':t<avs.length:=(List.getElem?_eq_some_iff.1 h2).1
   rw[Array.getElem?_append_left (by simpa using hlt')]
   simp[h2]
  ·intro t v ht
   obtain⟨_,h2⟩:=fJ avs 0 t v ht
   exact hlt v (List.mem_of_getElem? h2)
  ·show _=fn.ntmps
   simp;omega
 have hmain:=bZ hty (C:=C) (E:=lD) (fun _ _=>trivial) c _ _ _ _ _ _ hex hsat
 have hres: ∀s a w',kH ty fn.results.toList post s->Sat C s a w'->a.defers=[]/\ ∃v,(results fn a.tmps).run P w'= .ok v w'/\R (.returned v) w':=by
  intro s a w' hr hsat'
  obtain⟨β',Z',fp',hs',hf',hc'⟩:=hsat'
  refine⟨hf'.defers,?_⟩
  obtain⟨r,hk,hl,hrun⟩:=kJ hty hs' hf' _ _ hr
  have hnxt: ∀v:SV,v.lt s.nx->Nxt β Z ⟨[],hp,nx⟩ w v w' β' Z' fp' ⟨[],s.hp,s.nx⟩:=fun v hv=>
   ⟨hc'.env,hc'.ext,hc'.zz,rfl,hc'.nx,⟨hs'.zlt',hs'.flt,hs'.sep,hs'.obj,hs'.lto⟩,hv⟩
  have hrun2:(results fn a.tmps).run P w'= .ok (if h:(r.map (SA.den β')).toArray.size=1 then(r.map (SA.den β')).toArray[0]else .tuple (r.map (SA.den β')).toArray) w':=by
   have e1:results fn a.tmps=(do let vs<-fn.results.mapM (rQ a.tmps);pure (if h:vs.size=1 then vs[0]else .tuple vs)):=rfl
   rw[e1,Sem.run_bind,Array.mapM_eq_mapM_toList]
   simp only[Sem.run_map,hrun,Result.andThen_ok,Sem.run_pure]
  match r,hk,hl,hrun2 with
  | [x],hk,hl,hrun2=>
    refine⟨_,hrun2,?_⟩
    have:=hR (.a x) w' β' Z' fp' s (hnxt (.a x) (hl x (by simp))) hk
    simpa[SV.den]using this
  | [],hk,hl,hrun2=>
    refine⟨_,hrun2,?_⟩
    have:=hR (.tup []) w' β' Z' fp' s (hnxt (.tup []) hl) hk
    simpa[SV.den]using this
  |x::y::r,hk,hl,hrun2=>
   refine⟨_,hrun2,?_⟩
   have:=hR (.tup (x::y::r)) w' β' Z' fp' s (hnxt (.tup (x::y::r)) hl) hk
   rw[dif_neg (by simp)]
   exact this
 refine wp_mono hmain ?_
 intro e a w' hq
 cases e with
 |normal=>obtain⟨s,hr,hs'⟩:=hq;exact hres s a w' hr hs'
 |ret=>obtain⟨s,hr,hs'⟩:=hq;exact hres s a w' hr hs'
 |exit i=>obtain⟨s,hr,_⟩:=hq;exact hr.elim
 |goto l=>exact hq.elim
 |panic ch=>exact hq.elim
 |outgrown=>exact hq.elim
def Old (w:World):Nat->Prop:=fun b=>b<w.heap.size
abbrev Ly (w w':World):Prop:=Ext (Old w) w w'
theorem cP {c:Bool} {x y:Prop} (h1:c=true->x) (h2:c=false->y):mH c x y:=by cases c;exact h2 rfl;exact h1 rfl
section
variable {P:Program} {β:Env} {Z:Nat->Prop} {fp:Nat->Nat->Prop} {s:S} {w w':World}
theorem Pq {α:Type} (xs:List α):sub xs 0 xs.length=xs:=by simp[sub]
theorem aR.kept (hs:aR β Z fp s w) (hk:Ly w w'):aR β Z fp s w':=by
 refine⟨⟨hs.zlt'.1,fun b hb=>Nat.lt_of_lt_of_le (hs.zlt b hb) hk.size⟩,fun id o hl b hb=>⟨Nat.lt_of_lt_of_le (hs.flt id o hl b hb).1 hk.size,(hs.flt id o hl b hb).2⟩,hs.sep,fun id o hl=>?_,hs.lto⟩
 refine SO.ok_mono (hs.obj id o hl) (hs.lto id o hl).2 (fun _ _=>rfl) (fun _ h=>h) (fun b hb=>hk.block b ?_) hk.size hs.zlt'.1
 rcases hb with hb|hb
 ·exact hs.zlt b hb
 ·exact(hs.flt id o hl b hb).1
theorem Nxt.kept (hs:aR β Z fp s w) (hk:Ly w w') {v:SV} (hv:v.lt s.nx):Nxt β Z s w v w' β Z fp s:=
 ⟨fun _ _=>rfl,hk.mono hs.zlt,fun _ h=>h,rfl,Nat.le_refl _,hs.kept hk,hv⟩
end
def Rz:Ground->Bool
 | .textOnly _| .gcOnly _=>false
 |_=>true
theorem Kz (e:Edge):Region.binds .any e=Rz e.ground:=by
 unfold Region.binds Rz
 cases e.ground<;>rfl
def El:List Edge->List Nat
 | []=> []
 |e::l=>match Rz e.ground with
  |true=>e.on::El l
  |false=>El l
def gL (o:Oper):List Nat:=El o.after.toList
theorem qG {d:Nat}: ∀ {l:List Edge},d∈El l <-> ∃e∈l,Region.binds .any e=true/\e.on=d
 | []=>by simp[El]
 |e::l=>by
  simp only[El]
  cases hb:Rz e.ground with
  |true=>
   simp only[List.mem_cons,qG (l:=l)]
   constructor
   ·rintro(rfl|⟨e',h1,h2⟩)
    ·exact⟨e,.inl rfl,by rw[Kz,hb],rfl⟩
    ·exact⟨e',.inr h1,h2⟩
   ·rintro⟨e',rfl|h1,h2,h3⟩
    ·exact .inl h3.symm
    ·exact .inr ⟨e',h1,h2,h3⟩
  |false=>
   simp only[qG (l:=l),List.mem_cons]
   constructor
   ·rintro⟨e',h1,h2⟩;exact⟨e',.inr h1,h2⟩
   ·rintro⟨e',rfl|h1,h2,h3⟩
    ·rw[Kz,hb]at h2;cases h2
    ·exact⟨e',h1,h2,h3⟩
inductive Anc (ops:List Oper) (i:Nat):Nat->Prop
 |base {j:Nat} {o:Oper} (h:ops[j]?=some o) (hd:i∈gL o):Anc ops i j
 |step {j k:Nat} {o:Oper} (h:ops[j]?=some o) (hd:k∈gL o) (ha:Anc ops i k):Anc ops i j
def Hc (ops:List Oper) (j:Nat):List Nat:=match nU ops j with
 |some o=>gL o
 |none=> []
def clo (ops:List Oper):Nat->List Nat->List Nat->List Nat
 |0,_,acc=>acc
 |_,[],acc=>acc
 |n+1,x::xs,acc=>match qS x acc with
  |true=>clo ops n xs acc
  |false=>clo ops n (jQ (Hc ops x) xs) (x::acc)
theorem iL {a:Nat}: ∀ {l:List Nat},qS a l=true <-> a∈l
 | []=>by simp[qS]
 |b::l=>by
  simp only[qS,cH,List.mem_cons]
  by_cases h:a=b
  ·simp[h]
  ·simp only[h,decide_false,false_or];exact iL
theorem zL {ops:List Oper} {i j:Nat} (h:i∈Hc ops j):Anc ops i j:=by
 unfold Hc at h
 split at h
 ·rename_i o ho
  rw[dH]at ho
  exact .base ho h
 ·cases h
theorem Anc.trans {ops:List Oper} {i j k:Nat} (h:Anc ops i j) (h':Anc ops j k):Anc ops i k:=by
 induction h' with
 |base ho hd=>exact .step ho hd h
 |step ho hd _ ih=>exact .step ho hd ih
theorem Aw {ops:List Oper} {j:Nat}: ∀(n:Nat) (fr acc:List Nat),(∀x∈fr,Anc ops x j)->(∀x∈acc,Anc ops x j)-> ∀x∈clo ops n fr acc,Anc ops x j
 |0,_,_,_,ha=>ha
 |n+1,[],_,_,ha=>ha
 |n+1,x::xs,acc,hf,ha=>by
  simp only[clo]
  split
  ·exact Aw n xs acc (fun y hy=>hf y (List.mem_cons_of_mem _ hy)) ha
  ·have hx:=hf x (by simp)
   refine Aw n _ _ ?_ ?_
   ·intro y hy
    rw[nD,List.mem_append]at hy
    rcases hy with hy|hy
    ·exact(zL hy).trans hx
    ·exact hf y (List.mem_cons_of_mem _ hy)
   ·intro y hy
    simp only[List.mem_cons]at hy
    rcases hy with rfl|hy
    ·exact hx
    ·exact ha y hy
def Hl (ops:List Oper) (j:Nat):List Nat:=clo ops 400 (Hc ops j) []
theorem qP {ops:List Oper} {i j:Nat} (h:i∈Hl ops j):Anc ops i j:=
 Aw 400 _ _ (fun x hx=>zL hx) (by simp) i h
def fY (op:Op):Bool:=match op with
 | .assign _=>false
 |op=>Nat.beq (Zo op) 0
def Ju:Op->Bool
 | .select _ _=>true
 |_=>false
def Am (ops:List Oper):Bool:=
 ops.zipIdx.all fun(o,i)=>
  (gL o).all (· <i)&& !Ju o.op&&
  match o.dst with
  |none=>true
  |some d=>ops.zipIdx.all fun(o',j)=>
   (if fY o.op then(!(o'.looksAt ops.toArray).contains d||(Hl ops j).contains i)&&(i==j||o'.dst !=some d)
    else !fY o'.op||(!(o'.looksAt ops.toArray).contains d||(Hl ops j).contains i||(Hl ops i).contains j))
structure xF (ops:List Oper):Prop where
 lt: ∀(i:Nat) (o:Oper),ops[i]?=some o-> ∀d∈gL o,d<i
 sel: ∀(i:Nat) (o:Oper),ops[i]?=some o-> ∀cs b,o.op≠ .select cs b
 qu: ∀(i:Nat) (o:Oper),ops[i]?=some o->fY o.op=true-> ∀d,o.dst=some d-> ∀(j:Nat) (o':Oper),ops[j]?=some o'->(d∈o'.looksAt ops.toArray->Anc ops i j)/\(i≠j->o'.dst≠some d)
 ld: ∀(i:Nat) (o:Oper),ops[i]?=some o->fY o.op=false-> ∀d,o.dst=some d-> ∀(j:Nat) (o':Oper),ops[j]?=some o'->fY o'.op=true->d∈o'.looksAt ops.toArray->Anc ops i j\/Anc ops j i
theorem qF {ops:List Oper} {i:Nat} {o:Oper} (h:ops[i]?=some o):(o,i)∈ops.zipIdx:=by
 rw[List.mem_zipIdx_iff_getElem?]
 exact h
theorem Kq {ops:List Oper} (h:Am ops=true):xF ops:=by
 unfold Am at h
 rw[List.all_eq_true]at h
 refine⟨?_,?_,?_,?_⟩
 ·intro i o ho d hd
  have:=h _ (qF ho)
  simp only[Bool.and_eq_true,List.all_eq_true,decide_eq_true_eq]at this
  exact this.1.1 d hd
 ·intro i o ho cs b e
  have:=h _ (qF ho)
  simp only[Bool.and_eq_true]at this
  have:=this.1.2
  rw[e]at this
  simp[Ju]at this
 ·intro i o ho hq d hd j o' ho'
  have:=h _ (qF ho)
  simp only[Bool.and_eq_true]at this
  have:=this.2
  rw[hd]at this
  simp only[List.all_eq_true]at this
  have:=this _ (qF ho')
  simp only[hq,if_true,Bool.and_eq_true,Bool.or_eq_true,Bool.not_eq_true',List.contains_eq_mem,decide_eq_false_iff_not,decide_eq_true_eq,beq_iff_eq,bne_iff_ne]at this
  exact⟨fun hm=>qP (this.1.resolve_left (fun hn=>hn hm)),fun hne=>this.2.resolve_left hne⟩
 ·intro i o ho hq d hd j o' ho' hq' hm
  have:=h _ (qF ho)
  simp only[Bool.and_eq_true]at this
  have:=this.2
  rw[hd]at this
  simp only[List.all_eq_true]at this
  have:=this _ (qF ho')
  simp only[hq,hq',Bool.false_eq_true,if_false,Bool.or_eq_true,Bool.not_eq_true',List.contains_eq_mem,decide_eq_false_iff_not,decide_eq_true_eq,Bool.not_true,false_or]at this
  rcases this with(h1|h1)|h1
  ·exact absurd hm h1
  ·exact .inl (qP h1)
  ·exact .inr (qP h1)
theorem Anc.lt {ops:List Oper} (hc:xF ops) {i j:Nat} (h:Anc ops i j):i<j:=by
 induction h with
 |base ho hd=>exact hc.lt _ _ ho _ hd
 |step ho hd _ ih=>exact Nat.lt_trans ih (hc.lt _ _ ho _ hd)
theorem wK {ops:List Oper} {o:Oper} {a b:Act} (hs: ∀cs b,o.op≠ .select cs b) (h: ∀t∈o.looksAt ops.toArray,a.tmps[t]?=b.tmps[t]?):
  execOp a.eval o=execOp b.eval o/\Region.wanted o (yielded ops.toArray a.tmps)=Region.wanted o (yielded ops.toArray b.tmps):=by
 constructor
 ·refine execOp_congr o hs fun x hx=>?_
  cases x with
  |tmp t=>
   have:=h t (List.mem_append_left _ (List.mem_filterMap.2 ⟨.tmp t,by simpa using hx,rfl⟩))
   simp[Act.eval,Array.getD_eq_getD_getElem?,this]
  |_=>rfl
 ·unfold Region.wanted
  cases hg:o.guard with
  |none=>rfl
  |some p=>
   obtain⟨g,want⟩:=p
   simp only
   congr 1
   unfold yielded
   cases hd:(ops.toArray[g]?).bind (·.dst)with
   |none=>rfl
   |some d=>
    have:=h d (List.mem_append_right _ (by rw[hg];simp only[hd];simp))
    simp only[Option.bind_some,this]
section
variable (P:Program) (ty:List (Nat×STy)) (N:Nat) (whole:List Oper)
def Aq (done:List Nat):List Nat->Bool
 | []=>true
 |d::l=>match qS d done with
  |true=>Aq done l
  |false=>false
def iV (done:List Nat) (i:Nat) (o:Oper):Bool:=match qS i done with
 |true=>false
 |false=>Aq done (gL o)
def mQ (done:List Nat):List Oper->Nat->Option (Nat×Oper)
 | [],_=>none
 |o::l,i=>match fY o.op with
  |true=>match iV done i o with
   |true=>some (i,o)
   |false=>mQ done l (i+1)
  |false=>mQ done l (i+1)
def kK (done:List Nat):List Oper->Nat->List (Nat×Oper)
 | [],_=> []
 |o::l,i=>match iV done i o with
  |true=>(i,o)::kK done l (i+1)
  |false=>kK done l (i+1)
def tX (as:List Nat):List (Nat×SV)->List (Nat×SV)
 | []=> []
 |(i,v)::l=>match qS i as with
  |true=>tX as l
  |false=>(i,v)::tX as l
def yQ:List (Nat×SV)->S->Prop->Prop
 | [],_,p=>p
 |(i,v)::l,s,p=>match nU whole i with
  |some o=>qOp ty o.op s fun v'=>Ob (v'=v) (yQ l s p)
  |none=>False
def aB1:List (Nat×Oper)->(Nat->Oper->Prop)->Prop
 | [],_=>True
 | [(i,o)],F=>F i o
 |(i,o)::l,F=>nX (F i o) (aB1 l F)
def Se:Nat->List Nat->Bool
 |0,_=>true
 |n+1,done=>match qS n done with
  |true=>Se n done
  |false=>false
def aDj (b:Bool) (i:Nat) (v:SV) (pe:List (Nat×SV)):List (Nat×SV):=match b with
 |true=>(i,v)::pe
 |false=>pe
def pK (kn:S->Prop):Nat->List Nat->List (Nat×SV)->S->Prop
 |0,_,_,_=>False
 |n+1,done,pe,s=>match mQ done whole 0 with
  |some (i,o)=>pG whole o.guard s
   (fun s'=>qOp ty o.op s' fun v=>S.putK N o.dst v s' fun s''=>pK kn n (i::done) (aDj (vT o.op) i v pe) s'')
   (fun s'=>S.putK N o.dst .u s' fun s''=>pK kn n (i::done) pe s'')
  |none=>match kK done whole 0 with
   | []=>match Se whole.length done with
     |true=>kn s
     |false=>False
   |l=>aB1 l fun i o=>pG whole o.guard s
    (fun s'=>opK P ty N o s' fun s1 v=>S.putK N o.dst v s1 fun s2=>yQ ty whole (tX (Hl whole i) pe) s2 (pK kn n (i::done) (tX (Hl whole i) pe) s2))
    (fun s'=>S.putK N o.dst .u s' fun s2=>pK kn n (i::done) pe s2)
end
theorem Ap {done:List Nat}: ∀ {l:List Nat},Aq done l=true <-> ∀d∈l,d∈done
 | []=>by simp[Aq]
 |d::l=>by
  simp only[Aq]
  cases h:qS d done with
  |true=>
   rw[iL]at h
   simp only[Ap (l:=l),List.mem_cons,forall_eq_or_imp,h,true_and]
  |false=>
   have h':d∉done:=fun hm=>by rw[<-iL]at hm;rw[hm]at h;cases h
   simp only[List.mem_cons,forall_eq_or_imp,h',false_and,Bool.false_eq_true]
theorem yU {done:List Nat} {i:Nat} {o:Oper}:iV done i o=true <-> i∉done/\ ∀d∈gL o,d∈done:=by
 unfold iV
 cases h:qS i done with
 |true=>rw[iL]at h;simp[h]
 |false=>
  have h':i∉done:=fun hm=>by rw[<-iL]at hm;rw[hm]at h;cases h
  simp only[Ap,h',not_false_eq_true,true_and]
theorem wQ {done:List Nat}: ∀ {l:List Oper} {k i:Nat} {o:Oper},mQ done l k=some (i,o)->k<=i/\l[i-k]?=some o/\fY o.op=true/\iV done i o=true
 | [],_,_,_,h=>by cases h
 |x::l,k,i,o,h=>by
  simp only[mQ]at h
  have tail:mQ done l (k+1)=some (i,o)->k<=i/\(x::l)[i-k]?=some o/\fY o.op=true/\iV done i o=true:=by
   intro h
   obtain⟨h1,h2,h3⟩:=wQ h
   refine⟨by omega,?_,h3⟩
   rw[show i-k=(i-(k+1))+1 by omega,List.getElem?_cons_succ]
   exact h2
  split at h
  ·rename_i hq
   split at h
   ·rename_i hr
    cases h
    exact⟨Nat.le_refl _,by simp,hq,hr⟩
   ·exact tail h
  ·exact tail h
theorem wR {done:List Nat}: ∀ {l:List Oper} {k:Nat},mQ done l k=none-> ∀(i:Nat) (o:Oper),l[i]?=some o->fY o.op=true->iV done (k+i) o=false
 | [],_,_,i,o,h,_=>by simp at h
 |x::l,k,hn,i,o,h,hq=>by
  simp only[mQ]at hn
  have tail:mQ done l (k+1)=none->i≠0->iV done (k+i) o=false:=by
   intro hn hi
   obtain⟨m,rfl⟩:=Nat.exists_eq_succ_of_ne_zero hi
   have:=wR hn m o (by simpa using h) hq
   rw[show k+m.succ=k+1+m by omega];exact this
  cases i with
  |zero=>
   simp only[List.getElem?_cons_zero,Option.some.injEq]at h
   subst h
   rw[hq]at hn
   simp only at hn
   split at hn
   ·cases hn
   ·rename_i hr;exact hr
  |succ m=>
   split at hn
   ·split at hn
    ·cases hn
    ·exact tail hn (by simp)
   ·exact tail hn (by simp)
theorem yT {done:List Nat}: ∀ {l:List Oper} {k i:Nat} {o:Oper},l[i]?=some o->iV done (k+i) o=true->(k+i,o)∈kK done l k
 | [],_,_,_,h,_=>by simp at h
 |x::l,k,i,o,h,hr=>by
  simp only[kK]
  cases i with
  |zero=>
   simp only[List.getElem?_cons_zero,Option.some.injEq]at h
   subst h
   simp only[Nat.add_zero]at hr⊢
   rw[hr]
   simp
  |succ m=>
   have:=yT (k:=k+1) (i:=m) (o:=o) (by simpa using h) (by rw[show k+1+m=k+(m+1) by omega];exact hr)
   rw[show k+1+m=k+(m+1) by omega]at this
   split
   ·exact List.mem_cons_of_mem _ this
   ·exact this
theorem Lo: ∀ {l:List (Nat×Oper)} {F:Nat->Oper->Prop},aB1 l F-> ∀i o,(i,o)∈l->F i o
 | [],_,_,_,_,h=>by cases h
 | [(i,o)],F,h,i',o',hm=>by simp only[List.mem_singleton]at hm;cases hm;exact h
 |(i,o)::p::l,F,h,i',o',hm=>by
  simp only[List.mem_cons]at hm
  rcases hm with hm|hm
  ·cases hm;exact h.one
  ·exact Lo h.two i' o' (by simpa using hm)
theorem vR {as:List Nat}: ∀ {l:List (Nat×SV)} {i:Nat} {v:SV},(i,v)∈l->i∉as->(i,v)∈tX as l
 |(j,u)::l,i,v,h,hn=>by
  simp only[tX]
  simp only[List.mem_cons]at h
  cases hm:qS j as with
  |true=>
   rcases h with h|h
   ·cases h;exact absurd (iL.1 hm) hn
   ·exact vR h hn
  |false=>
   rcases h with h|h
   ·cases h;simp
   ·exact List.mem_cons_of_mem _ (vR h hn)
section
variable {P:Program} {ty:List (Nat×STy)} {ops:List Oper}
def Yd (P:Program) (ops:List Oper) (β:Env) (n:Nat) (pe:List (Nat×SV)) (i:Nat) (o:Oper) (a:Act) (w:World):Prop:=
 (Region.wanted o (yielded ops.toArray a.tmps)=false/\ ∀d,o.dst=some d->a.tmps[d]?=some undef)\/
 (Region.wanted o (yielded ops.toArray a.tmps)=true/\ ∃v:SV,v.lt n/\(execOp a.eval o).run P w= .ok (.value (v.den β)) w/\(∀d,o.dst=some d->a.tmps[d]?=some (v.den β))/\
  ((∀w',(execOp a.eval o).run P w'= .ok (.value (v.den β)) w')\/(i,v)∈pe))
structure Rel (P:Program) (ops:List Oper) (D:List Nat) (pe:List (Nat×SV)) (listed:Array Bool) (ae ar:Act) (β:Env) (n:Nat) (w:World):Prop where
 lsz:listed.size=ops.length
 sub: ∀i,listed[i]?=some true->i∈D
 down: ∀(i:Nat) (o:Oper),listed[i]?=some true->ops[i]?=some o-> ∀d∈gL o,listed[d]?=some true
 downD: ∀(i:Nat) (o:Oper),i∈D->ops[i]?=some o-> ∀d∈gL o,d∈D
 qu: ∀(i:Nat) (o:Oper),i∈D->listed[i]?≠some true->ops[i]?=some o->fY o.op=true/\Yd P ops β n pe i o ae w
 tm: ∀t,(∀(i:Nat) (o:Oper),i∈D->listed[i]?≠some true->ops[i]?=some o->o.dst≠some t)->ar.tmps[t]?=ae.tmps[t]?
 sz:ar.tmps.size=ae.tmps.size
 df:ar.defers=ae.defers
theorem Bn {ops:List Oper} {listed:Array Bool} (down: ∀(i:Nat) (o:Oper),listed[i]?=some true->ops[i]?=some o-> ∀d∈gL o,listed[d]?=some true) {i j:Nat} (h:Anc ops i j)
  (hj: ∀o,ops[j]?=some o-> ∀d∈gL o,listed[d]?=some true):listed[i]?=some true:=by
 induction h with
 |base ho hd=>exact hj _ ho _ hd
 |step ho hd _ ih=>
  have hk:=hj _ ho _ hd
  exact ih fun o ho' d hd'=>down _ o hk ho' d hd'
theorem Lm {ops:List Oper} {D:List Nat} (down: ∀(i:Nat) (o:Oper),i∈D->ops[i]?=some o-> ∀d∈gL o,d∈D) {i j:Nat} (h:Anc ops i j) (hj:j∈D):i∈D:=by
 induction h with
 |base ho hd=>exact down _ _ hj ho _ hd
 |step ho hd _ ih=>exact ih (down _ _ hj ho _ hd)
theorem Rel.alike (hc:xF ops) {D:List Nat} {pe:List (Nat×SV)} {listed:Array Bool} {ae ar:Act} {β:Env} {n:Nat} {w:World} (h:Rel P ops D pe listed ae ar β n w) {i:Nat} {o:Oper} (ho:ops[i]?=some o)
  (hd: ∀d∈gL o,listed[d]?=some true):execOp ar.eval o=execOp ae.eval o/\Region.wanted o (yielded ops.toArray ar.tmps)=Region.wanted o (yielded ops.toArray ae.tmps):=by
 refine wK (hc.sel i o ho) fun t ht=>h.tm t ?_
 intro q oq hq hql hoq hdst
 have hquiet:=(h.qu q oq hq hql hoq).1
 have hanc:=(hc.qu q oq hoq hquiet t hdst i o ho).1 ht
 refine hql (Bn h.down hanc ?_)
 intro o' ho' d hd'
 rw[ho]at ho'
 cases ho'
 exact hd d hd'
theorem dX {listed:Array Bool} {i j:Nat} (hi:i<listed.size):(listed.setIfInBounds i true)[j]?=some true <-> j=i\/listed[j]?=some true:=by
 rw[Array.getElem?_setIfInBounds]
 by_cases h:i=j
 ·subst h;simp[hi]
 ·simp only[if_neg h]
  constructor
  ·exact .inr
  ·rintro(rfl|h')
   ·exact absurd rfl h
   ·exact h'
end
theorem lH {C:Ctx} {β:Env} {Z:Nat->Prop} {s s':S} {w w':World} {a:Act} {v:SV} {β':Env} {Z':Nat->Prop} {fp':Nat->Nat->Prop}
  (hf:cQ β s (C.N,C.df) a) (hc:Cok C β Z s w) (hn:Nxt β Z s w v w' β' Z' fp' s') {dst:Option Nat} {k:S->Prop} (h:S.putK C.N dst v s' k):
  ∃s'',k s''/\s''.nx=s'.nx/\aR β' Z' fp' s'' w'/\cQ β' s'' (C.N,C.df) (a.put dst (v.den β'))/\Cok C β' Z' s'' w':=by
 have hc': ∀s'':S,s''.nx=s'.nx->Cok C β' Z' s'' w':=fun s'' e=>⟨fun b hb=>hn.zz b (hc.zz b hb),Ext.trans hc.ext hn.ext hc.zz,fun id hid=>(hn.env id (Nat.lt_of_lt_of_le hid hc.nx)).trans (hc.env id hid),by
  have:=hc.nx;have:=hn.nx;omega⟩
 have hfr: ∀t u,aE s'.fr t=some u->a.tmps[t]?=some (u.den β')/\u.lt s'.nx:=by
  intro t u ht
  rw[hn.fr]at ht
  have hl:=hf.lt t u ht
  exact⟨by rw[hf.tmp t u ht,SV.den_congr hn.env hl],SV.lt_mono hn.nx hl⟩
 cases dst with
 |none=>
  exact⟨s',h,rfl,hn.sat,⟨fun t u ht=>(hfr t u ht).1,fun t u ht=>(hfr t u ht).2,hf.size,hf.defers⟩,hc' s' rfl⟩
 |some d=>
  simp only[S.putK]at h
  split at h<;>try exact h.elim
  rename_i hd
  rw[nB,decide_eq_true_eq]at hd
  rw[S.go_eq,aX]at h
  refine⟨_,h,rfl,⟨hn.sat.zlt',hn.sat.flt,hn.sat.sep,hn.sat.obj,hn.sat.lto⟩,⟨?_,?_,by simp[Act.put,hf.size],hf.defers⟩,hc' _ rfl⟩
  ·intro t u ht
   rw[cJ]at ht
   simp only[Act.put,Array.getElem?_setIfInBounds]
   split at ht
   ·rename_i e
    subst e
    cases ht
    simp[hf.size,hd]
   ·rename_i e
    rw[if_neg e]
    exact(hfr t u ht).1
  ·intro t u ht
   rw[cJ]at ht
   split at ht
   ·cases ht;exact hn.lt
   ·exact(hfr t u ht).2
theorem aD2 {C:Ctx} {β:Env} {Z:Nat->Prop} {fp:Nat->Nat->Prop} {s:S} {a:Act} {w:World} (hs:aR β Z fp s w) (hf:cQ β s (C.N,C.df) a) (hc:Cok C β Z s w) {d:Nat} {c c':Bool} (hl:aE s.fr d=some (.b c)) (e:c=c'):
  aR β Z fp ⟨upd s.fr d (.b c'),s.hp,s.nx⟩ w/\cQ β ⟨upd s.fr d (.b c'),s.hp,s.nx⟩ (C.N,C.df) a/\Cok C β Z ⟨upd s.fr d (.b c'),s.hp,s.nx⟩ w:=by
 refine⟨⟨hs.zlt',hs.flt,hs.sep,hs.obj,hs.lto⟩,⟨?_,?_,hf.size,hf.defers⟩,⟨hc.zz,hc.ext,hc.env,hc.nx⟩⟩
 ·intro t u ht
  rw[cJ]at ht
  split at ht
  ·rename_i e'
   subst e'
   cases ht
   rw[hf.tmp _ _ hl,e]
  ·exact hf.tmp t u ht
 ·intro t u ht
  rw[cJ]at ht
  split at ht
  ·cases ht;trivial
  ·exact hf.lt t u ht
theorem rA {C:Ctx} {whole:List Oper} {g:Option (Nat×Bool)} {s:S} {a:Act} {w:World} {kt kf:S->Prop} (h:pG whole g s kt kf) {β:Env} {Z:Nat->Prop} {fp:Nat->Nat->Prop}
  (hs:aR β Z fp s w) (hf:cQ β s (C.N,C.df) a) (hc:Cok C β Z s w) (o:Oper) (ho:o.guard=g):
  (Region.wanted o (yielded whole.toArray a.tmps)=true/\ ∃s',kt s'/\s'.nx=s.nx/\aR β Z fp s' w/\cQ β s' (C.N,C.df) a/\Cok C β Z s' w)\/
  (Region.wanted o (yielded whole.toArray a.tmps)=false/\ ∃s',kf s'/\s'.nx=s.nx/\aR β Z fp s' w/\cQ β s' (C.N,C.df) a/\Cok C β Z s' w):=by
 unfold pG at h
 split at h
 ·left
  exact⟨by simp[Region.wanted,ho],s,h,rfl,hs,hf,hc⟩
 ·rename_i j want
  split at h<;>try exact h.elim
  rename_i oj hoj
  rw[dH]at hoj
  split at h<;>try exact h.elim
  rename_i d hd
  have hy: ∀v,a.tmps[d]?=some v->yielded whole.toArray a.tmps j=match v with
    | .bool b=>some b
    |_=>none:=by
   intro v hv
   unfold yielded
   simp only[List.getElem?_toArray,hoj,Option.bind_some,hd,hv]
   cases v<;>rfl
  rw[S.go_eq]at h
  split at h<;>try exact h.elim
  ·rename_i c hl
   rw[mG,aX,aX]at h
   have hy':yielded whole.toArray a.tmps j=some c:=hy _ (hf.tmp _ _ hl)
   have hw:Region.wanted o (yielded whole.toArray a.tmps)=(some c==some want):=by simp[Region.wanted,ho,hy']
   rw[hw]
   have hc1:=aD2 hs hf hc hl rfl
   cases c with
   |true=>
    rw[if_pos rfl]at h
    cases want with
    |true=>exact .inl ⟨rfl,_,h,rfl,hc1⟩
    |false=>exact .inr ⟨rfl,_,h,rfl,hc1⟩
   |false=>
    rw[if_neg (by simp)]at h
    cases want with
    |true=>exact .inr ⟨rfl,_,h,rfl,hc1⟩
    |false=>exact .inl ⟨rfl,_,h,rfl,hc1⟩
  ·rename_i hl
   right
   have hy':yielded whole.toArray a.tmps j=none:=hy _ (hf.tmp _ _ hl)
   exact⟨by simp[Region.wanted,ho,hy'],s,h,rfl,hs,hf,hc⟩
section
variable {P:Program} {ty:List (Nat×STy)} {ops:List Oper}
theorem tD (hty:cZ P ty) {β:Env} {Z:Nat->Prop} {fp:Nat->Nat->Prop} {s:S} {w:World} {N:NT} {a:Act} (hs:aR β Z fp s w) (hf:cQ β s N a):
  ∀ {l:List (Nat×SV)} {p:Prop},yQ ty ops l s p->p/\ ∀i v,(i,v)∈l-> ∃o,ops[i]?=some o/\(execOp a.eval o).run P w= .ok (.value (v.den β)) w
 | [],p,h=>⟨h,fun _ _ h=>by cases h⟩
 |(i,v)::l,p,h=>by
  simp only[yQ]at h
  split at h<;>try exact h.elim
  rename_i o ho
  rw[dH]at ho
  obtain⟨v',hr,_,e,h2⟩:=vE hty hs hf h
  subst e
  obtain⟨hp,hl⟩:=tD hty hs hf h2
  refine⟨hp,fun j u hm=>?_⟩
  simp only[List.mem_cons]at hm
  rcases hm with hm|hm
  ·cases hm;exact⟨o,ho,hr⟩
  ·exact hl j u hm
theorem Yc {a b:Act} (hsz:a.tmps.size=b.tmps.size) (hdf:a.defers=b.defers) {dst:Option Nat} {u v:Value} (h:a.put dst u=a.put dst v):b.put dst u=b.put dst v:=by
 cases dst with
 |none=>rfl
 |some d=>
  have h1:a.tmps.setIfInBounds d u=a.tmps.setIfInBounds d v:=by
   have:=congrArg Act.tmps h
   exact this
  by_cases hd:d<a.tmps.size
  ·have h2:=congrArg (fun t:Array Value=>t[d]?) h1
   simp[hd]at h2
   rw[h2]
  ·show({b with tmps:=b.tmps.setIfInBounds d u}:Act)= {b with tmps:=b.tmps.setIfInBounds d v}
   have h3: ∀x:Value,b.tmps.setIfInBounds d x=b.tmps:=fun x=>by
    apply Array.ext'
    simp only[Array.toList_setIfInBounds]
    exact List.set_eq_of_length_le (by simp;omega)
   rw[h3,h3]
theorem kL {a:Act} {d:Option Nat} {v:Value}:(a.put d v).defers=a.defers:=by cases d<;>rfl
theorem aAJ {o:Oper} {ae ar:Act} {w:World} (hsz:ae.tmps.size=ar.tmps.size) (hdf:ae.defers=ar.defers) (he:execOp ar.eval o=execOp ae.eval o) {K:Act->World->Prop} {Q:Exit->Act->World->Prop}
  (h:o.wp P ae w (fun a' w'=> ∃v,a'=ae.put o.dst v/\K (ar.put o.dst v) w') (fun _ _ _=>False)):o.wp P ar w K Q:=by
 have hk: ∀v w',(∃v',ae.put o.dst v=ae.put o.dst v'/\K (ar.put o.dst v') w')->K (ar.put o.dst v) w':=by
  rintro v w' ⟨v',e,hK⟩
  rw[Yc hsz hdf e]
  exact hK
 unfold Oper.wp at*
 rw[he]
 generalize (execOp ae.eval o).run P w=r at*
 cases r with
 |ok x w'=>
  cases x<;>simp only[Oper.upon]at h⊢
  case value v=>exact hk v w' h
  case skip=>exact hk _ w' h
  case defer d=>
   obtain⟨v',e,_⟩:=h
   have:=congrArg (fun a:Act=>a.defers.length) e
   simp[kL]at this
  case enter f args=>
   refine Calls.mono h ?_
   intro e w'' he'
   cases e with
   |returned v=>exact hk v w'' he'
   |panicked c=>exact he'.elim
   |outgrown=>obtain⟨_,_,hx⟩:=he';exact hx.elim
  case row row args=>exact Rows.mono h fun v w'' he'=>hk v w'' he'
 |halt x w'=>cases x<;>simp only[Oper.upon]at h⊢ <;>exact h.elim
def cnt (l:List Bool):Nat:=l.countP (fun b=> !b)
theorem He: ∀(l:List Bool) (i:Nat),l[(i:Nat)]?=some false->cnt (l.set i true)+1=cnt l
 | [],i,h=>by simp at h
 |b::l,0,h=>by
  simp only[List.getElem?_cons_zero,Option.some.injEq]at h
  subst h
  simp[cnt]
 |b::l,i+1,h=>by
  have:=He l (i:Nat) (by simpa using h)
  simp only[cnt,List.set_cons_succ,List.countP_cons]at*
  omega
theorem Kv: ∀(l:List Bool),cnt l=0-> ∀(i:Nat),l[i]?≠some false
 | [],_,i=>by simp
 |b::l,h,i=>by
  simp only[cnt,List.countP_cons]at h
  cases b with
  |false=>simp at h
  |true=>
   cases i with
   |zero=>simp
   |succ i=>simpa using Kv l (by simpa[cnt]using h) i
end
section
variable {P:Program} {ty:List (Nat×STy)} {ops:List Oper}
theorem Ql {N:Nat} {dst:Option Nat} {v:SV} {s:S} {k:S->Prop} (h:S.putK N dst v s k): ∀d,dst=some d->d<N:=by
 intro d e
 subst e
 simp only[S.putK]at h
 split at h<;>try exact h.elim
 rename_i hd
 rw[nB,decide_eq_true_eq]at hd
 exact hd
theorem Ms {a:Act} {dst:Option Nat} {v:Value} {d:Nat} (h:dst=some d) (hd:d<a.tmps.size):(a.put dst v).tmps[d]?=some v:=by
 subst h;simp[Act.put,hd]
theorem oT {a:Act} {dst:Option Nat} {v:Value} {d:Nat} (h:dst≠some d):(a.put dst v).tmps[d]?=a.tmps[d]?:=by
 cases dst with
 |none=>rfl
 |some e=>simp only[Act.put,Array.getElem?_setIfInBounds];rw[if_neg (by rintro rfl;exact h rfl)]
theorem Fq {a:Act} {dst:Option Nat} {v:Value}:(a.put dst v).tmps.size=a.tmps.size:=by
 cases dst<;>simp[Act.put]
theorem aCH {a b:Act} (hsz:a.tmps.size=b.tmps.size) {dst:Option Nat} {v:Value} {t:Nat} (h:dst≠some t->a.tmps[t]?=b.tmps[t]?):(a.put dst v).tmps[t]?=(b.put dst v).tmps[t]?:=by
 by_cases e:dst=some t
 ·subst e
  simp only[Act.put,Array.getElem?_setIfInBounds,if_true,hsz]
 ·rw[oT e,oT e];exact h e
theorem Yd.move {β β':Env} {n n':Nat} {pe pe':List (Nat×SV)} {q:Nat} {oq:Oper} {ae ae':Act} {w w':World} (h:Yd P ops β n pe q oq ae w)
  (hx:execOp ae'.eval oq=execOp ae.eval oq) (hw:Region.wanted oq (yielded ops.toArray ae'.tmps)=Region.wanted oq (yielded ops.toArray ae.tmps))
  (hd: ∀d,oq.dst=some d->ae'.tmps[d]?=ae.tmps[d]?) (hn:n<=n') (hβ: ∀id,id<n->β' id=β id)
  (hpe: ∀v:SV,(q,v)∈pe->(execOp ae.eval oq).run P w= .ok (.value (v.den β)) w->(q,v)∈pe'/\(execOp ae.eval oq).run P w'= .ok (.value (v.den β')) w'):Yd P ops β' n' pe' q oq ae' w':=by
 unfold Yd at*
 rw[hx,hw]
 rcases h with⟨h1,h2⟩|⟨h1,v,h2,h3,h4,h5⟩
 ·exact .inl ⟨h1,fun d e=>by rw[hd d e];exact h2 d e⟩
 ·have e:=SV.den_congr hβ h2
  refine .inr ⟨h1,v,SV.lt_mono hn h2,?_,fun d e'=>by rw[hd d e',e];exact h4 d e',?_⟩
  ·rcases h5 with h5|h5
   ·rw[e];exact h5 w'
   ·exact(hpe v h5 h3).2
  ·rcases h5 with h5|h5
   ·left;rw[e];exact h5
   ·exact .inr (hpe v h5 h3).1
theorem Rel.quiet (hc:xF ops) {D:List Nat} {pe pe':List (Nat×SV)} {listed:Array Bool} {ae ar:Act} {β:Env} {n:Nat} {w:World} (h:Rel P ops D pe listed ae ar β n w) {i:Nat} {o:Oper} (ho:ops[i]?=some o)
  (hq:fY o.op=true) (hi:i∉D) (hd: ∀d∈gL o,d∈D) {u:Value} (hpe: ∀x∈pe,x∈pe')
  (hy:(Region.wanted o (yielded ops.toArray ae.tmps)=false/\ ∀d,o.dst=some d->(ae.put o.dst u).tmps[d]?=some undef)\/
   (Region.wanted o (yielded ops.toArray ae.tmps)=true/\ ∃v:SV,v.lt n/\(execOp ae.eval o).run P w= .ok (.value (v.den β)) w/\(∀d,o.dst=some d->(ae.put o.dst u).tmps[d]?=some (v.den β))/\
    ((∀w',(execOp ae.eval o).run P w'= .ok (.value (v.den β)) w')\/(i,v)∈pe'))):
  Rel P ops (i::D) pe' listed (ae.put o.dst u) ar β n w:=by
 have hil:listed[i]?≠some true:=fun e=>hi (h.sub i e)
 have same: ∀(q:Nat) (oq:Oper),(q=i\/q∈D)->ops[q]?=some oq->execOp (ae.put o.dst u).eval oq=execOp ae.eval oq/\Region.wanted oq (yielded ops.toArray (ae.put o.dst u).tmps)=Region.wanted oq (yielded ops.toArray ae.tmps):=by
  intro q oq hqD hoq
  refine wK (hc.sel q oq hoq) fun t ht=>oT ?_
  intro e
  have ha:=(hc.qu i o ho hq t e q oq hoq).1 ht
  rcases hqD with rfl|hqD
  ·exact absurd (ha.lt hc) (by omega)
  ·exact hi (Lm h.downD ha hqD)
 refine⟨h.lsz,fun j hj=>List.mem_cons_of_mem _ (h.sub j hj),h.down,?_,?_,?_,by rw[Fq];exact h.sz,by rw[kL];exact h.df⟩
 ·intro j oj hj hoj d hdj
  simp only[List.mem_cons]at hj⊢
  rcases hj with rfl|hj
  ·rw[ho]at hoj;cases hoj;exact .inr (hd d hdj)
  ·exact .inr (h.downD j oj hj hoj d hdj)
 ·intro q oq hqD hql hoq
  simp only[List.mem_cons]at hqD
  by_cases e:q=i
  ·subst e
   rw[ho]at hoq
   cases hoq
   refine⟨hq,?_⟩
   unfold Yd
   rw[(same q o (.inl rfl) ho).1,(same q o (.inl rfl) ho).2]
   exact hy
  ·have hqD':=hqD.resolve_left e
   obtain⟨h1,h2⟩:=h.qu q oq hqD' hql hoq
   refine⟨h1,h2.move (same q oq hqD hoq).1 (same q oq hqD hoq).2 (fun d hdq=>oT ?_) (Nat.le_refl _) (fun _ _=>rfl) (fun v hv hr=>⟨hpe _ hv,hr⟩)⟩
   intro e'
   exact(hc.qu i o ho hq d e' q oq hoq).2 (fun e''=>e e''.symm) hdq
 ·intro t ht
  rw[oT (ht i o (by simp) hil ho)]
  exact h.tm t fun q oq hqD=>ht q oq (List.mem_cons_of_mem _ hqD)
theorem Rel.list (hc:xF ops) {D:List Nat} {pe:List (Nat×SV)} {listed:Array Bool} {ae ar:Act} {β:Env} {n:Nat} {w:World} (h:Rel P ops D pe listed ae ar β n w) {i:Nat} {o:Oper} (ho:ops[i]?=some o)
  (hi:i∈D) (hd: ∀d∈gL o,listed[d]?=some true) {u:Value} (hu: ∀d,o.dst=some d->ae.tmps[d]?=some u):
  Rel P ops D pe (listed.setIfInBounds i true) ae (ar.put o.dst u) β n w:=by
 have hlt:i<listed.size:=by rw[h.lsz];exact(List.getElem?_eq_some_iff.1 ho).1
 refine⟨by simp[h.lsz],?_,?_,h.downD,?_,?_,by rw[Fq];exact h.sz,by rw[kL];exact h.df⟩
 ·intro j hj
  rw[dX hlt]at hj
  rcases hj with rfl|hj
  ·exact hi
  ·exact h.sub j hj
 ·intro j oj hj hoj d hdj
  rw[dX hlt]at hj⊢
  rcases hj with rfl|hj
  ·rw[ho]at hoj;cases hoj;exact .inr (hd d hdj)
  ·exact .inr (h.down j oj hj hoj d hdj)
 ·intro q oq hqD hql hoq
  exact h.qu q oq hqD (fun e=>hql ((dX hlt).2 (.inr e))) hoq
 ·intro t ht
  by_cases e:o.dst=some t
  ·have h1:=hu t e
   have hts:t<ar.tmps.size:=by rw[h.sz];exact(Array.getElem?_eq_some_iff.1 h1).1
   rw[h1,Ms e hts]
  ·rw[oT e]
   refine h.tm t fun q oq hqD hql hoq=>?_
   by_cases e':q=i
   ·subst e';rw[ho]at hoq;cases hoq;exact e
   ·exact ht q oq hqD (fun e''=>((dX hlt).1 e'').elim e' hql) hoq
theorem Rel.both (hc:xF ops) {D:List Nat} {pe pe':List (Nat×SV)} {listed:Array Bool} {ae ar:Act} {β β':Env} {n n':Nat} {w w':World} (h:Rel P ops D pe listed ae ar β n w) {i:Nat} {o:Oper} (ho:ops[i]?=some o)
  (hq:fY o.op=false) (hi:i∉D) (hd: ∀d∈gL o,listed[d]?=some true) (u:Value) (hn:n<=n') (hβ: ∀id,id<n->β' id=β id)
  (hpe: ∀(q:Nat) (oq:Oper) (v:SV),ops[q]?=some oq->q∈D-> ¬Anc ops q i->execOp (ae.put o.dst u).eval oq=execOp ae.eval oq->(q,v)∈pe->(execOp ae.eval oq).run P w= .ok (.value (v.den β)) w->(q,v)∈pe'/\(execOp ae.eval oq).run P w'= .ok (.value (v.den β')) w'):
  Rel P ops (i::D) pe' (listed.setIfInBounds i true) (ae.put o.dst u) (ar.put o.dst u) β' n' w':=by
 have hlt:i<listed.size:=by rw[h.lsz];exact(List.getElem?_eq_some_iff.1 ho).1
 refine⟨by simp[h.lsz],?_,?_,?_,?_,?_,by rw[Fq,Fq];exact h.sz,by rw[kL,kL];exact h.df⟩
 ·intro j hj
  rw[dX hlt]at hj
  rcases hj with rfl|hj
  ·simp
  ·exact List.mem_cons_of_mem _ (h.sub j hj)
 ·intro j oj hj hoj d hdj
  rw[dX hlt]at hj⊢
  rcases hj with rfl|hj
  ·rw[ho]at hoj;cases hoj;exact .inr (hd d hdj)
  ·exact .inr (h.down j oj hj hoj d hdj)
 ·intro j oj hj hoj d hdj
  simp only[List.mem_cons]at hj⊢
  rcases hj with rfl|hj
  ·rw[ho]at hoj;cases hoj;exact .inr (h.sub d (hd d hdj))
  ·exact .inr (h.downD j oj hj hoj d hdj)
 ·intro q oq hqD hql hoq
  have hql':q≠i/\listed[q]?≠some true:=⟨fun e=>hql ((dX hlt).2 (.inl e)),fun e=>hql ((dX hlt).2 (.inr e))⟩
  simp only[List.mem_cons]at hqD
  have hqD':=hqD.resolve_left hql'.1
  obtain⟨h1,h2⟩:=h.qu q oq hqD' hql'.2 hoq
  have hna: ¬Anc ops q i:=fun ha=>hql'.2 (Bn h.down ha fun o' ho'=>by rw[ho]at ho';cases ho';exact hd)
  have same:execOp (ae.put o.dst u).eval oq=execOp ae.eval oq/\Region.wanted oq (yielded ops.toArray (ae.put o.dst u).tmps)=Region.wanted oq (yielded ops.toArray ae.tmps):=by
   refine wK (hc.sel q oq hoq) fun t ht=>oT ?_
   intro e
   rcases hc.ld i o ho hq t e q oq hoq h1 ht with ha|ha
   ·exact hi (Lm h.downD ha hqD')
   ·exact hna ha
  refine⟨h1,h2.move same.1 same.2 (fun d hdq=>oT ?_) hn hβ (fun v hv hr=>hpe q oq v hoq hqD' hna same.1 hv hr)⟩
  exact(hc.qu q oq hoq h1 d hdq i o ho).2 hql'.1
 ·intro t ht
  refine aCH h.sz fun e=>h.tm t fun q oq hqD hql hoq=>?_
  by_cases e':q=i
  ·subst e';exact absurd hqD hi
  ·exact ht q oq (List.mem_cons_of_mem _ hqD) (fun e''=>((dX hlt).1 e'').elim e' hql) hoq
theorem vC {listed:Array Bool} {i:Nat} (hl:listed.size=ops.length):i∈Region.ready .any ops.toArray listed <-> listed[i]?≠some true/\ ∃o,ops[i]?=some o/\ ∀d∈gL o,listed[d]?=some true:=by
 rw[mem_ready]
 have hg: ∀j,listed.getD j false=true <-> listed[j]?=some true:=by
  intro j
  rw[Array.getD_eq_getD_getElem?]
  cases listed[j]? with
  |none=>simp
  |some b=>simp
 constructor
 ·rintro⟨h1,o,ho,h2⟩
  rw[List.getElem?_toArray]at ho
  refine⟨?_,o,ho,?_⟩
  ·intro e
   rw[Array.getD_eq_getD_getElem?,e]at h1
   cases h1
  ·intro d hd
   obtain⟨e,he,hb,rfl⟩:=qG.1 hd
   exact(hg _).1 (h2 e (by simpa using he) hb)
 ·rintro⟨h1,o,ho,h2⟩
  have hlt:i<listed.size:=by rw[hl];exact(List.getElem?_eq_some_iff.1 ho).1
  refine⟨?_,o,by rw[List.getElem?_toArray];exact ho,?_⟩
  ·rw[Array.getD_eq_getD_getElem?]
   cases hx:listed[i]? with
   |none=>rw[Array.getElem?_eq_none_iff]at hx;omega
   |some b=>
    cases b with
    |false=>rfl
    |true=>exact absurd hx h1
  ·intro e he hb
   exact(hg _).2 (h2 _ (qG.2 ⟨e,by simpa using he,hb,rfl⟩))
theorem Oz (hc:xF ops) {listed:Array Bool} (hl:listed.size=ops.length) (h:Region.ready .any ops.toArray listed=[]): ∀i,i<ops.length->listed[i]?=some true:=by
 intro i
 induction i using Nat.strongRecOn with
 |_ i ih=>
  intro hi
  refine Classical.byContradiction fun hn=>?_
  have:i∈Region.ready .any ops.toArray listed:=(vC hl).2 ⟨hn,ops[i],List.getElem?_eq_getElem hi,fun d hd=>ih d (hc.lt i _ (List.getElem?_eq_getElem hi) d hd) (Nat.lt_trans (hc.lt i _ (List.getElem?_eq_getElem hi) d hd) hi)⟩
  rw[h]at this
  cases this
end
end Go.Fw
