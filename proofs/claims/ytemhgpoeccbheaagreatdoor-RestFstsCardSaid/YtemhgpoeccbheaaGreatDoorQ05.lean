/-
  Rows of a pool lent to a callee.
-/
import Derived.Test.YtemhgpoeccbheaaGreatDoorQ04
import Derived.RangeFuncIn
import Derived.RangeFuncRecord
import Derived.RangeFuncLeaves
set_option linter.unusedSimpArgs false
set_option linter.unusedVariables false
set_option maxRecDepth 100000
set_option maxHeartbeats 16000000
namespace Go.Fw
open Go
def Qi (sz:Nat):Nat->List Bool->List SV->(List SV->List Sli->Prop)->Prop
 |nx,true::bs,.a (.c (.h x))::l,k=>Qi sz (nx+1) bs l fun l' vs=>k (.c (.sl nx sz 0 x.n x.c)::l') (x::vs)
 |nx,false::bs,v::l,k=>Qi sz nx bs l fun l' vs=>k (v::l') vs
 |_,[],l,k=>k l []
 |_,_,_,_=>False
def lU (E:Nat) (k:EK) (m:List (Addr×List k.ty×Nat)):Nat->List Sli->List (Nat×SO)
 |_,[]=> []
 |nx,x::l=>(nx,.arr false E k (aM m x.a) 0)::lU E k m (nx+1) l
def SO.strict:SO->Bool
 | .arr own _ _ _ _=>own
 |_=>true
def SO.ro:SO->Bool
 | .arr own _ _ _ _=> !own
 |_=>false
def Vc (p:SO->Bool):List (Nat×SO)->(List (Nat×SO)->Prop)->Prop
 | [],k=>k []
 |(i,o)::l,k=>match p o with
  |true=>Vc p l fun l'=>k ((i,o)::l')
  |false=>Vc p l k
def xI (p:SO->Bool):List (Nat×SO)->List (Nat×SO)
 | []=> []
 |(i,o)::l=>match p o with
  |true=>(i,o)::xI p l
  |false=>xI p l
theorem Ai (p:SO->Bool): ∀(l:List (Nat×SO)) (k:List (Nat×SO)->Prop),Vc p l k <-> k (xI p l)
 | [],k=>Iff.rfl
 |(i,o)::l,k=>by
  simp only[Vc,xI]
  cases p o<;>exact Ai p l _
theorem rN {sz n0:Nat}: ∀(bs:List Bool) (nx:Nat) (l:List SV) (k:List SV->List Sli->Prop),Qi sz nx bs l k->n0<=nx->(∀v∈l,SV.lt n0 v)->
  ∃l' vs,k l' vs/\ ∀β γ:Env,(∀id,id<n0->γ id=β id)->(∀i x,vs[i]?=some x->γ (nx+i)=x.a)->l'.map (SV.den γ)=l.map (SV.den β)
 | [],nx,l,k,h,_,hl=>by
   refine⟨l,[],by cases l<;>exact h,fun β γ h1 _=>?_⟩
   refine List.map_congr_left fun v hv=>?_
   exact SV.den_congr h1 (hl v hv)
 |true::bs,nx,[],k,h,_,_=>h.elim
 |false::bs,nx,[],k,h,_,_=>h.elim
 |false::bs,nx,v::l,k,h,hn,hl=>by
  obtain⟨l',vs,hk,hd⟩:=rN bs nx l _ h hn (fun v hv=>hl v (List.mem_cons_of_mem _ hv))
  refine⟨_,_,hk,fun β γ h1 h2=>?_⟩
  rw[List.map_cons,List.map_cons,hd β γ h1 h2,SV.den_congr h1 (hl v (List.mem_cons_self ..))]
 |true::bs,nx,v::l,k,h,hn,hl=>by
  obtain⟨x,rfl⟩: ∃x,v= .a (.c (.h x)):=by
   cases v with
   |tup _=>exact h.elim
   |a y=>cases y with
    |agg _=>exact h.elim
    |c z=>cases z<;>first|exact h.elim|exact⟨_,rfl⟩
  obtain⟨l',vs,hk,hd⟩:=rN bs (nx+1) l _ h (by omega) (fun v hv=>hl v (List.mem_cons_of_mem _ hv))
  refine⟨_,_,hk,fun β γ h1 h2=>?_⟩
  have h0:=h2 0 x rfl
  rw[List.map_cons,List.map_cons,hd β γ h1 (fun i y hy=>by have:=h2 (i+1) y (by simpa using hy);rw[<-this];congr 1;omega)]
  congr 1
  show Value.slice ((γ nx).map (·.add (0*sz))) x.n x.c=Value.slice x.a x.n x.c
  rw[show γ nx=x.a from h0]
  congr 1
  cases x.a with
  |none=>rfl
  |some a=>simp[Addr.add]
theorem vQ {α:Type}: ∀(l m:List (Nat×α)) (i:Nat),aE (jQ l m) i=match aE l i with
  |some x=>some x
  |none=>aE m i
 | [],m,i=>rfl
 |(j,x)::l,m,i=>by
  simp only[jQ,aC]
  by_cases h:j=i
  ·simp[h]
  ·simp only[h,if_false];exact vQ l m i
theorem zO {E:Nat} {k:EK} {m:List (Addr×List k.ty×Nat)}: ∀(vs:List Sli) (nx i:Nat),aE (lU E k m nx vs) i=if nx<=i then(vs[i-nx]?).map (fun x=>SO.arr false E k (aM m x.a) 0)else none
 | [],nx,i=>by simp[lU,aE]
 |x::l,nx,i=>by
  simp only[lU,aC]
  by_cases h:nx=i
  ·subst h;simp
  ·rw[if_neg h,zO l (nx+1) i]
   by_cases h2:nx<=i
   ·rw[if_pos h2,if_pos (by omega),show i-nx=(i-(nx+1))+1 by omega,List.getElem?_cons_succ]
   ·rw[if_neg h2,if_neg (by omega)]
theorem vP {p:SO->Bool}: ∀ {l:List (Nat×SO)} {i:Nat} {o:SO},mA l=true->aE (xI p l) i=some o->aE l i=some o/\p o=true
 | [],_,_,_,h=>by cases h
 |(j,x)::l,i,o,hk,h=>by
  simp only[mA,Bool.and_eq_true,Bool.not_eq_true']at hk
  have tail:aE (xI p l) i=some o->aE ((j,x)::l) i=some o/\p o=true:=by
   intro h
   obtain⟨h1,h2⟩:=vP hk.2 h
   refine⟨?_,h2⟩
   rw[aC]
   split
   ·rename_i e;subst e;rw[mW hk.1]at h1;cases h1
   ·exact h1
  simp only[xI]at h
  cases hp:p x with
  |true=>
   rw[hp]at h
   simp only[aC]at h
   split at h
   ·rename_i e
    subst e
    cases h
    exact⟨by simp[aC],hp⟩
   ·exact tail (by assumption)
  |false=>
   rw[hp]at h
   exact tail h
theorem SO.strict_ok {β:Env} {Z Z' fp:Nat->Prop} {w:World} {oa:Option Addr} {o:SO} (hs:o.strict=true) (h:o.ok β Z fp w oa):o.ok β Z' fp w oa:=by
 cases o with
 |box T cs=>exact h
 |gen A=>exact h
 |pool E k m=>exact h
 |map kk vk es c=>exact h
 |iter a b c d e=>exact h
 |arr own E k xs sp=>
  cases own with
  |false=>cases hs
  |true=>
   cases oa with
   |none=>exact h
   |some a=>exact h
theorem SO.ro_ok {β:Env} {Z fp fp':Nat->Prop} {w:World} {oa:Option Addr} {o:SO} (hs:o.ro=true) (h:o.ok β Z fp w oa):o.ok β Z fp' w oa:=by
 cases o with
 |arr own E k xs sp=>
  cases own with
  |true=>cases hs
  |false=>
   cases oa with
   |none=>exact h
   |some a=>exact h
 |box T cs=>cases hs
 |gen A=>cases hs
 |pool E k m=>cases hs
 |map kk vk es c=>cases hs
 |iter a b c d e=>cases hs
section
variable {P:Program} {β:Env} {Z:Nat->Prop} {fp:Nat->Nat->Prop} {s:S} {w w':World}
theorem Hg {f:Nat} {args:List SV} {ex:List Value} {k:S->SV->Prop} (pid:Nat) (bs:List Bool) (hcf: ∀args w,(callFunc f args).run P w= .ok (.enter f args) w) (hlt: ∀v∈args,SV.lt s.nx v)
  (h:s.go fun fr hp nx=>match aE hp pid with
   |some (.pool E ek m)=>match mA hp with
    |true=>Qi ek.sz nx bs args fun args1 vs=>By hp pid fun hp1=>Vc SO.ro hp fun hpr=>eH P f args1 ex ⟨fr,jQ (lU E ek m nx vs) hp1,nx+dN vs⟩
     (fun s2 v=>s2.go fun fr2 hp2 nx2=>match mA hp2 with
      |true=>Vc SO.strict hp2 fun hp3=>k ⟨fr2,(pid,.pool E ek m)::jQ hpr hp3,nx2⟩ v
      |false=>False)
    |false=>False
   |_=>False):eH P f args ex s k:=by
 rw[S.go_eq]at h
 split at h<;>try exact h.elim
 rename_i E ek m hpool
 split at h<;>try exact h.elim
 rename_i hknd
 obtain⟨args1,vs,h,hden⟩:=rN (n0:=s.nx) bs s.nx args _ h (Nat.le_refl _) hlt
 rw[mF,Ai]at h
 unfold eH at h⊢
 refine⟨hcf,fun β Z fp w hs=>?_⟩
 let β1:Env:=fun id=>if id<s.nx then β id else match vs[id-s.nx]? with
  |some x=>x.a
  |none=>none
 let Z1:Nat->Prop:=fun b=>Z b\/fp pid b
 let fp1:Nat->Nat->Prop:=fun id b=>id<s.nx/\fp id b
 have hβ1: ∀id,id<s.nx->β1 id=β id:=fun id hid=>if_pos hid
 have hβv: ∀i x,vs[i]?=some x->β1 (s.nx+i)=x.a:=by
  intro i x hx
  show(if s.nx+i<s.nx then _ else _)=_
  rw[if_neg (by omega),show s.nx+i-s.nx=i by omega,hx]
 have hpl:=hs.obj pid _ hpool
 have hplt:=(hs.lto pid _ hpool).1
 have hcase: ∀id o,aE (jQ (lU E ek m s.nx vs) (mY s.hp pid)) id=some o->(∃x,s.nx<=id/\vs[id-s.nx]?=some x/\o= .arr false E ek (aM m x.a) 0)\/(aE s.hp id=some o/\id≠pid):=by
  intro id o hl
  rw[vQ,zO]at hl
  split at hl
  ·rename_i y hy
   cases hl
   split at hy
   ·rename_i h1
    obtain⟨x,hx,rfl⟩:=Option.map_eq_some_iff.1 hy
    exact .inl ⟨x,h1,hx,rfl⟩
   ·cases hy
  ·rw[jV]at hl
   split at hl
   ·cases hl
   ·rename_i hne
    exact .inr ⟨hl,fun e=>hne e.symm⟩
 have hs1:aR β1 Z1 fp1 ⟨s.fr,jQ (lU E ek m s.nx vs) (mY s.hp pid),s.nx+dN vs⟩ w:=by
  refine⟨⟨.inl hs.zlt'.1,?_⟩,?_,?_,?_,?_⟩
  ·rintro b (hb|hb)
   ·exact hs.zlt b hb
   ·exact(hs.flt pid _ hpool b hb).1
  ·rintro id o hl b ⟨hid,hb⟩
   rcases hcase id o hl with⟨x,hx,_⟩|⟨h1,h2⟩
   ·omega
   ·refine⟨(hs.flt id o h1 b hb).1,?_⟩
    rintro(hz|hz)
    ·exact(hs.flt id o h1 b hb).2 hz
    ·exact hs.sep id pid o _ h1 hpool h2 b hb hz
  ·rintro id id' o o' hl hl' hne b ⟨hid,hb⟩ ⟨hid',hb'⟩
   rcases hcase id o hl with⟨x,hx,_⟩|⟨h1,h2⟩
   ·omega
   rcases hcase id' o' hl' with⟨x,hx,_⟩|⟨h1',h2'⟩
   ·omega
   exact hs.sep id id' o o' h1 h1' hne b hb hb'
  ·intro id o hl
   rcases hcase id o hl with⟨x,hx,hv,rfl⟩|⟨h1,h2⟩
   ·have e:=hβv (id-s.nx) x hv
    rw[show s.nx+(id-s.nx)=id by omega]at e
    show SO.ok β1 Z1 (fp1 id) w (β1 id) _
    rw[e]
    cases hxa:x.a with
    |none=>exact⟨rfl,rfl⟩
    |some a=>
     intro hne
     have hr: ∃y,lkA m a=some y:=by
      cases hla:lkA m a with
      |some y=>exact⟨y,rfl⟩
      |none=>exfalso;apply hne;simp[aM,hla]
     obtain⟨⟨xs,sp⟩,hla⟩:=hr
     obtain⟨g1,g2,pre,post,g3,g4,g5⟩:=hpl.row a xs sp hla
     have exs:aM m (some a)=xs:=by simp[aM,hla]
     refine⟨g1,.inr g2,(hs.flt pid _ hpool _ g2).1,?_⟩
     intro j v hj
     rw[exs]at hj
     rw[eR g1]
     exact jY g3 g4 j v hj
   ·have hlo:=hs.lto id o h1
    show SO.ok β1 Z1 (fp1 id) w (β1 id) o
    rw[hβ1 id hlo.1,show fp1 id=fp id from funext fun b=>propext ⟨fun h=>h.2,fun h=>⟨hlo.1,h⟩⟩]
    exact SO.ok_mono (hs.obj id o h1) hlo.2 hβ1 (fun b hb=> .inl hb) (fun _ _=>rfl) (Nat.le_refl _) hs.zlt'.1
  ·intro id o hl
   show id<s.nx+dN vs/\o.lt (s.nx+dN vs)
   rw[bD]
   rcases hcase id o hl with⟨x,hx,hv,rfl⟩|⟨h1,h2⟩
   ·have:=(List.getElem?_eq_some_iff.1 hv).1
    exact⟨by omega,trivial⟩
   ·have hlo:=hs.lto id o h1
    exact⟨by omega,SO.lt_mono (by omega) hlo.2⟩
 have hc:=h.2 _ _ _ w hs1
 rw[hden β β1 hβ1 hβv]at hc
 refine hc.mono ?_
 rintro e w' ⟨v,β',Z',fp',s',rfl,hn,hk⟩
 rw[S.go_eq]at hk
 split at hk<;>try exact hk.elim
 rename_i hknd2
 rw[Ai]at hk
 have hbw: ∀b,Z b\/fp pid b->w'.heap[b]?=w.heap[b]?:=fun b hb=>hn.ext.block b hb
 have hsz:=hn.ext.size
 have henv: ∀id,id<s.nx->β' id=β id:=fun id hid=>(hn.env id (Nat.lt_of_lt_of_le hid (Nat.le_add_right _ _))).trans (hβ1 id hid)
 have hnx:s.nx<=s'.nx:=Nat.le_trans (Nat.le_add_right _ _) hn.nx
 let fp2:Nat->Nat->Prop:=fun id b=>if id=pid then fp pid b else if(aE (xI SO.ro s.hp) id).isSome=true then False else fp' id b
 have hc2: ∀id o,aE ((pid,SO.pool E ek m)::jQ (xI SO.ro s.hp) (xI SO.strict s'.hp)) id=some o->
   (id=pid/\o= .pool E ek m/\ ∀b,fp2 id b <-> fp pid b)\/(id≠pid/\aE s.hp id=some o/\o.ro=true/\ ∀b,¬fp2 id b)\/(id≠pid/\aE s'.hp id=some o/\o.strict=true/\ ∀b,fp2 id b <-> fp' id b):=by
  intro id o hl
  rw[aC]at hl
  split at hl
  ·rename_i e
   subst e
   cases hl
   exact .inl ⟨rfl,rfl,fun b=>by simp[fp2]⟩
  ·rename_i hne
   rw[vQ]at hl
   split at hl
   ·rename_i y hy
    cases hl
    obtain⟨g1,g2⟩:=vP hknd hy
    exact .inr (.inl ⟨Ne.symm hne,g1,g2,fun b=>by simp[fp2,Ne.symm hne,hy]⟩)
   ·rename_i hno
    obtain⟨g1,g2⟩:=vP hknd2 hl
    exact .inr (.inr ⟨Ne.symm hne,g1,g2,fun b=>by simp[fp2,Ne.symm hne,hno]⟩)
 refine⟨v,β',Z,fp2,⟨s'.fr,(pid,SO.pool E ek m)::jQ (xI SO.ro s.hp) (xI SO.strict s'.hp),s'.nx⟩,rfl,⟨henv,hn.ext.mono fun b hb=> .inl hb,fun _ h=>h,hn.fr,hnx,⟨⟨hs.zlt'.1,fun b hb=>Nat.lt_of_lt_of_le (hs.zlt b hb) hsz⟩,?_,?_,?_,?_⟩,hn.lt⟩,hk⟩
 ·intro id o hl b hb
  rcases hc2 id o hl with⟨_,_,g⟩|⟨_,_,_,g⟩|⟨_,g1,_,g⟩
  ·have:=hs.flt pid _ hpool b ((g b).1 hb)
   exact⟨Nat.lt_of_lt_of_le this.1 hsz,this.2⟩
  ·exact absurd hb (g b)
  ·have:=hn.sat.flt id o g1 b ((g b).1 hb)
   exact⟨this.1,fun hz=>this.2 (hn.zz b (.inl hz))⟩
 ·intro id id' o o' hl hl' hne b hb hb'
  rcases hc2 id o hl with⟨e,_,g⟩|⟨_,_,_,g⟩|⟨_,g1,_,g⟩<;>rcases hc2 id' o' hl' with⟨e',_,g'⟩|⟨_,_,_,g'⟩|⟨_,g1',_,g'⟩
  ·exact hne (e.trans e'.symm)
  ·exact g' b hb'
  ·exact(hn.sat.flt id' o' g1' b ((g' b).1 hb')).2 (hn.zz b (.inr ((g b).1 hb)))
  ·exact g b hb
  ·exact g b hb
  ·exact g b hb
  ·exact(hn.sat.flt id o g1 b ((g b).1 hb)).2 (hn.zz b (.inr ((g' b).1 hb')))
  ·exact g' b hb'
  ·exact hn.sat.sep id id' o o' g1 g1' hne b ((g b).1 hb) ((g' b).1 hb')
 ·intro id o hl
  show SO.ok β' Z (fp2 id) w' (β' id) o
  rcases hc2 id o hl with⟨e,e2,g⟩|⟨_,g1,g2,g⟩|⟨_,g1,g2,g⟩
  ·subst e e2
   rw[henv _ hplt,show fp2 id=fp id from funext fun b=>propext (g b)]
   exact SO.ok_mono (n:=s.nx) hpl (hs.lto id _ hpool).2 henv (fun _ h=>h) hbw hsz hs.zlt'.1
  ·have hlo:=hs.lto id o g1
   rw[henv id hlo.1]
   have g0:o.ok β Z (fun _=>False) w (β id):=SO.ro_ok g2 (hs.obj id o g1)
   have g3:o.ok β' Z (fun _=>False) w' (β id):=SO.ok_mono g0 hlo.2 henv (fun _ h=>h) (fun b hb=>hbw b (by rcases hb with hb|hb;exact .inl hb;exact hb.elim)) hsz hs.zlt'.1
   exact SO.ro_ok g2 g3
  ·rw[show fp2 id=fp' id from funext fun b=>propext (g b)]
   exact SO.strict_ok g2 (hn.sat.obj id o g1)
 ·intro id o hl
  rcases hc2 id o hl with⟨e,e2,_⟩|⟨_,g1,g2,g⟩|⟨_,g1,g2,g⟩
  ·subst e e2
   exact⟨Nat.lt_of_lt_of_le hplt hnx,trivial⟩
  ·have hlo:=hs.lto id o g1
   exact⟨Nat.lt_of_lt_of_le hlo.1 hnx,SO.lt_mono hnx hlo.2⟩
  ·exact hn.sat.lto id o g1
end
def Pp:Nat->Code->Code
 |0,_=> .skip
 |k+1,.seq a b=> .seq a (Pp k b)
 |_+1,_=> .goto 0
def Rt:Nat->Code->Code
 |0,c=>c
 |k+1,.seq _ b=>Rt k b
 |_+1,_=> .skip
theorem gH.of {P:Program} {ty:List (Nat×STy)} (hty:cZ P ty) {N n0:Nat} (n:Nat) (live:List Nat) {c:Code} {kn kr:S->Prop} {ke:Nat->S->Prop} {s:S} (h:jA P ty N lD n0 n live c kn kr ke s):gH P N n0 c kn kr ke s:=by
 intro C hN h0 a w hs
 subst hN h0
 exact bZ hty (E:=lD) (fun _ _=>trivial) c kn kr ke s a w h hs
theorem gH.sub {P:Program} {N n0:Nat} {c:Code} {kn kr:S->Prop} {ke:Nat->S->Prop} {s s1:S} {ren:List (Nat×Option Nat)} (h:gH P N n0 c kn kr ke s1) (hs:Sub n0 ren s1 s):gH P N n0 c kn kr ke s:=by
 intro C hN h0 a w hsat
 subst h0
 exact h C hN rfl a w (hsat.sub hs)
theorem gH.cut {P:Program} {ty:List (Nat×STy)} (hty:cZ P ty) {N n0:Nat} (n:Nat) (live:List Nat) {kn kr:S->Prop} {ke:Nat->S->Prop} {α:Type} (pat:α->S) (inv:α->Prop): ∀(k:Nat) (c:Code) (s:S),
  jA P ty N lD n0 n live (Pp k c) (fun s'=> ∃x ren,Sub n0 ren (pat x) s'/\inv x) kr ke s->(∀x,inv x->gH P N n0 (Rt k c) kn kr ke (pat x))->gH P N n0 c kn kr ke s
 |0,c,s,h,hk=>by
  obtain⟨x,ren,hsub,hi⟩:=h
  exact(hk x hi).sub hsub
 |k+1,c,s,h,hk=>by
  cases c<;>first
   |exact h.elim
   |skip
  rename_i x y
  intro C hN h0 a w hs
  subst hN h0
  refine wp_seq (wp_mono (bZ hty (E:=lD) (fun _ _=>trivial) x _ kr ke s a w h hs) ?_)
  intro e a w hq
  cases e<;>first
   |exact hq
   |(obtain⟨s',hk',hs'⟩:=hq;exact gH.cut hty n live pat inv k y s' hk' hk C rfl rfl a w hs')
theorem aC0 {P:Program} {ty:List (Nat×STy)} (hty:cZ P ty) {f:FuncId} {fn:Func} {c:Code} {R:Ending->World->Prop} (avs:List SV) (hp:List (Nat×SO)) (nx:Nat) (post:SV->S->Prop)
  {β:Env} {Z:Nat->Prop} {fp:Nat->Nat->Prop} {w:World} (hf:P.funcs[f]?=some fn) (hb:fn.body=some c) (hs:aR β Z fp ⟨[],hp,nx⟩ w) (hlt: ∀v∈avs,SV.lt nx v) (hn:avs.length<=fn.ntmps)
  {fr:List (Nat×SV)} (hfr:fr=kU 0 avs)
  (hex:gH P fn.ntmps nx c (kH ty fn.results.toList post) (kH ty fn.results.toList post) (fun _ _=>False) ⟨fr,hp,nx⟩)
  (hR: ∀v w' β' Z' fp' s',Nxt β Z ⟨[],hp,nx⟩ w v w' β' Z' fp' ⟨[],s'.hp,s'.nx⟩->post v s'->R (.returned (v.den β')) w'):
  Calls P f (avs.map (SV.den β)).toArray w R:=by
 subst hfr
 refine calls_of_wp hf hb ?_
 let C:Ctx:=⟨w,Z,β,nx,fn.ntmps,[]⟩
 have hsat:Sat C ⟨kU 0 avs,hp,nx⟩ {tmps:=(avs.map (SV.den β)).toArray++Array.replicate (fn.ntmps-(avs.map (SV.den β)).toArray.size) undef,defers:= []} w:=by
  refine⟨β,Z,fp,⟨hs.zlt',hs.flt,hs.sep,hs.obj,hs.lto⟩,⟨?_,?_,?_,rfl⟩,⟨fun _ h=>h,Ext.refl _ _,fun _ _=>rfl,Nat.le_refl _⟩⟩
  ·intro t v ht
   obtain⟨_,h2⟩:=fJ avs 0 t v ht
   rw[Nat.sub_zero]at h2
   have hlt':t<avs.length:=(List.getElem?_eq_some_iff.1 h2).1
   rw[Array.getElem?_append_left (by simpa using hlt')]
   simp[h2]
  ·intro t v ht
   obtain⟨_,h2⟩:=fJ avs 0 t v ht
   exact hlt v (List.mem_of_getElem? h2)
  ·show _=fn.ntmps
   simp;omega
 have hmain:=hex C rfl rfl _ _ hsat
 have hres: ∀s a w',kH ty fn.results.toList post s->Sat C s a w'->a.defers=[]/\ ∃v,(results fn a.tmps).run P w'= .ok v w'/\R (.returned v) w':=by
  intro s a w' hr hsat'
  obtain⟨β',Z',fp',hs',hf',hc'⟩:=hsat'
  refine⟨hf'.defers,?_⟩
  obtain⟨r,hk,hl,hrun⟩:=kJ hty hs' hf' _ _ hr
  have hnxt: ∀v:SV,v.lt s.nx->Nxt β Z ⟨[],hp,nx⟩ w v w' β' Z' fp' ⟨[],s.hp,s.nx⟩:=fun v hv=>
   ⟨hc'.env,hc'.ext,hc'.zz,rfl,hc'.nx,⟨hs'.zlt',hs'.flt,hs'.sep,hs'.obj,hs'.lto⟩,hv⟩
  have hrun2:(results fn a.tmps).run P w'= .ok (if h:(r.map (SA.den β')).toArray.size=1 then(r.map (SA.den β')).toArray[0]else .tuple (r.map (SA.den β')).toArray) w':=by
   have e1:results fn a.tmps=(do let vs<-fn.results.mapM (rQ a.tmps);pure (if h:vs.size=1 then vs[0]else .tuple vs)):=rfl
   rw[e1,Sem.run_bind,Array.mapM_eq_mapM_toList]
   simp only[Sem.run_map,hrun,Result.andThen_ok,Sem.run_pure]
  match r,hk,hl,hrun2 with
  | [x],hk,hl,hrun2=>
    refine⟨_,hrun2,?_⟩
    have:=hR (.a x) w' β' Z' fp' s (hnxt (.a x) (hl x (by simp))) hk
    simpa[SV.den]using this
  | [],hk,hl,hrun2=>
    refine⟨_,hrun2,?_⟩
    have:=hR (.tup []) w' β' Z' fp' s (hnxt (.tup []) hl) hk
    simpa[SV.den]using this
  |x::y::r,hk,hl,hrun2=>
   refine⟨_,hrun2,?_⟩
   have:=hR (.tup (x::y::r)) w' β' Z' fp' s (hnxt (.tup (x::y::r)) hl) hk
   rw[dif_neg (by simp)]
   exact this
 refine wp_mono hmain ?_
 intro e a w' hq
 cases e with
 |normal=>obtain⟨s,hr,hs'⟩:=hq;exact hres s a w' hr hs'
 |ret=>obtain⟨s,hr,hs'⟩:=hq;exact hres s a w' hr hs'
 |exit i=>obtain⟨s,hr,_⟩:=hq;exact hr.elim
 |goto l=>exact hq.elim
 |panic ch=>exact hq.elim
 |outgrown=>exact hq.elim
theorem ctC {P:Program} {ty:List (Nat×STy)} (hty:cZ P ty) {f:FuncId} {fn:Func} {c:Code} {avs:List SV} {hp:List (Nat×SO)} {nx:Nat} {post:SV->S->Prop}
  (hf:P.funcs[f]?=some fn) (hb:fn.body=some c) (hlt: ∀v∈avs,SV.lt nx v) (hn:avs.length<=fn.ntmps) {fr:List (Nat×SV)} (hfr:fr=kU 0 avs)
  (hex:gH P fn.ntmps nx c (kH ty fn.results.toList (aQ nx post)) (kH ty fn.results.toList (aQ nx post)) (fun _ _=>False) ⟨fr,hp,nx⟩):Ct P f avs [] hp nx post:=by
 intro β Z fp w hs
 rw[List.append_nil]
 refine aC0 hty avs hp nx (aQ nx post) hf hb hs hlt hn hfr hex fun v w' β' Z' fp' s' hN hp=>?_
 obtain⟨ren,hp1,nx1,v1,h1,h2,h3⟩:=hp
 obtain⟨g1,_,g3,g4⟩:=h1.sat (N:=(0,[])) (a:= {tmps:= #[],defers:= []}) hN.sat ⟨fun t v h=>(by cases h),fun t v h=>(by cases h),rfl,rfl⟩
 obtain⟨e1,e2⟩:=kS (β:=β') h2 hN.lt
 exact⟨v1,fB ren β',Z',_,⟨[],hp1,nx1⟩,by rw[e1],⟨fun id hid=>(g3 id hid).trans (hN.env id hid),hN.ext,hN.zz,rfl,g4,g1,e2⟩,h3⟩
section
variable {P:Program} {ty:List (Nat×STy)}
theorem aC5 (hty:cZ P ty) {N:Nat} {dst:Option Nat} {T E id lo len cap sp:Nat} {ek:EK} {bytes:Nat} {xs:List ek.ty} {x:Operand} {type:TypeId} {pos:String} {after:Array Edge} {guard:Option (Nat×Bool)} {s:S} {k:S->SV->Prop} {d:STy}
  (hd:aE ty T=some d) (hsl:d.sl=some (E,ek,bytes)) (hx:ev s.fr x=some (.c (.sl id ek.sz lo len cap))) (hl:aE s.hp id=some (.arr true E ek xs sp)) (hle:lo+len<=xs.length)
  (hk:eZ s.hp id (.arr true E ek (xs.take lo++List.replicate len ek.dflt++xs.drop (lo+len)) sp) fun hp'=>k ⟨s.fr,hp',s.nx⟩ .u):
  XOp P N ⟨dst,.call ⟨.builtin .clear, #[x], #[T]⟩,type,pos,after,guard⟩ s k:=by
 rw[aX]at hk
 unfold XOp
 intro β Z fp w a df hs hf next Q hn
 obtain⟨hu,hE,i,z,hi,hz,hisz,hib,hzc⟩:=(hty T d hd).sl _ _ _ hsl
 obtain⟨hex,hltx⟩:=aI hf hx
 have hzsz:z.cells.size=ek.sz:=by rw[<-Array.length_toList,hzc,EK.cells_length]
 have hlk:LOk P β Z s w a ⟨dst,.call ⟨.builtin .clear, #[x], #[T]⟩,type,pos,after,guard⟩ k:=by
  have hrun: ∀w',(Builtin.clear_ #[T] type #[SV.den β (.a (.c (.sl id ek.sz lo len cap)))]).run P w= .ok (.tuple #[]) w'->
    (execOp a.eval ⟨dst,.call ⟨.builtin .clear, #[x], #[T]⟩,type,pos,after,guard⟩).run P w= .ok (.value (SV.u.den β)) w':=by
   intro w' hr
   simp only[SV.den]at hr
   simp[execOp,resolve,invoke,builtin,hex,hr,SV.den]
  have hok:=hs.obj _ _ hl
  by_cases h0:len=0
  ·subst h0
   have hr:(Builtin.clear_ #[T] type #[SV.den β (.a (.c (.sl id ek.sz lo 0 cap)))]).run P w= .ok (.tuple #[]) w:=by
    simp only[SV.den,SA.den,SC.den]
    cases β id with
    |none=>simp[Builtin.clear_,run_underlying hu]
    |some y=>simp[Builtin.clear_,run_underlying hu]
   have e:xs.take lo++List.replicate 0 ek.dflt++xs.drop (lo+0)=xs:=by simp
   rw[e]at hk
   refine⟨_,w,.u,β,fp,⟨s.fr,upd s.hp id _,s.nx⟩,hrun _ hr,.inl rfl,fun _ _=>rfl,Ext.refl _ _,rfl,Nat.le_refl _,?_,(by intro c hc;cases hc),hk⟩
   exact hs.put (w':=w) hl (fun _ _=>rfl) rfl hok trivial
  cases hb:β id with
  |none=>
   rw[hb]at hok
   obtain⟨rfl,_⟩:=hok
   simp at hle
   omega
  |some x'=>
   rw[hb]at hok
   obtain⟨hsp,hfp,pre,post,hh,hpre,hpost⟩:=hok
   have hml2:lo*ek.sz+len*ek.sz<=(aH ek xs).length:=by
    rw[aP,<-Nat.add_mul];exact Nat.mul_le_mul_right _ hle
   have e2:(aH ek (List.replicate len ek.dflt)).length=len*ek.sz:=by rw[aP,List.length_replicate]
   have hst:=run_storeCells_at P x'.block (x'.off+lo*ek.sz) E (aH ek (List.replicate len ek.dflt)) 0 (pre++aH ek xs++post).toArray w hh
    (by simp only[Nat.add_zero,e2,List.size_toArray,List.length_append];omega) (uD ek _)
   simp only[Nat.add_zero]at hst
   have hzero:(Builtin.zeroCells z.cells len).toList=aH ek (List.replicate len ek.dflt):=by
    rw[<-Dp ek z.cells hzc]
    unfold Builtin.zeroCells madeCells
    rw[hzsz]
   have hzv: ∀w,(zeroValue E).run P w= .ok z w:=by intro w;simp[zeroValue,typeInfo,hi,hz]
   have hr:(Builtin.clear_ #[T] type #[SV.den β (.a (.c (.sl id ek.sz lo len cap)))]).run P w= .ok (.tuple #[]) (w.setRow x'.block (pre++aH ek (xs.take lo++List.replicate len ek.dflt++xs.drop (lo+len))++post).toArray):=by
    obtain⟨m,rfl⟩: ∃m,len=m+1:=⟨len-1,by omega⟩
    simp only[SV.den,SA.den,SC.den,hb,Option.map_some,eR hsp]
    have e1:(w.setRow x'.block ((pre++aH ek xs++post).take (x'.off+lo*ek.sz)++aH ek (List.replicate (m+1) ek.dflt)++(pre++aH ek xs++post).drop (x'.off+lo*ek.sz+(aH ek (List.replicate (m+1) ek.dflt)).length)).toArray)=
      (w.setRow x'.block (pre++aH ek (xs.take lo++List.replicate (m+1) ek.dflt++xs.drop (lo+(m+1)))++post).toArray):=by
     rw[e2,oB pre (aH ek xs) post _ (lo*ek.sz) (by omega) (by omega),uF pre (aH ek xs) post _ (lo*ek.sz+(m+1)*ek.sz) (by omega) hml2]
     congr 2
     rw[bB,bB]
     have l1:aH ek (xs.take lo)=(aH ek xs).take (lo*ek.sz):=by
      have e3:aH ek xs=aH ek (xs.take lo)++aH ek (xs.drop lo):=by rw[<-bB,List.take_append_drop]
      have e4:(aH ek (xs.take lo)).length=lo*ek.sz:=by rw[aP,List.length_take,Nat.min_eq_left (by omega)]
      rw[e3,<-e4,List.take_left]
     have l2:aH ek (xs.drop (lo+(m+1)))=(aH ek xs).drop (lo*ek.sz+(m+1)*ek.sz):=by
      have e3:aH ek xs=aH ek (xs.take (lo+(m+1)))++aH ek (xs.drop (lo+(m+1))):=by rw[<-bB,List.take_append_drop]
      have e4:(aH ek (xs.take (lo+(m+1)))).length=lo*ek.sz+(m+1)*ek.sz:=by rw[aP,List.length_take,Nat.min_eq_left hle,Nat.add_mul]
      rw[e3,<-e4,List.drop_left]
     rw[l1,l2]
     simp[List.append_assoc]
    rw[<-e1]
    simp[Builtin.clear_,run_underlying hu,hzv,hzero,hst]
   refine Zk (v:= .u) (ob':= .arr true E ek (xs.take lo++List.replicate len ek.dflt++xs.drop (lo+len)) sp) hs hl hfp (hrun _ hr) ?_ trivial (by intro c hc;cases hc) hk
   rw[hb]
   refine⟨hsp,hfp,pre,post,?_,hpre,hpost⟩
   rw[setRow_heap w _ _ _ E _ hh]
 obtain⟨r,w',v,β',fp',s',R⟩:=hlk
 unfold Oper.wp
 rw[R.run]
 have:=hn v w' β' Z fp' s' ⟨R.env,R.ext,fun _ h=>h,R.fr,R.nx,R.sat,R.lt⟩ R.go
 rcases R.val with rfl|⟨rfl,rfl⟩
 ·exact this
 ·exact this
theorem aR.short {β:Env} {Z:Nat->Prop} {fp:Nat->Nat->Prop} {w:World} {id E sp n:Nat} {ek:EK} {xs ys:List ek.ty} (hs:aR β Z fp ⟨[],[(id,.arr true E ek (xs++ys) sp)],n⟩ w):
  aR β Z fp ⟨[],[(id,.arr true E ek xs (ys.length+sp))],n⟩ w:=by
 have hl:aE [(id,SO.arr true E ek (xs++ys) sp)] id=some (.arr true E ek (xs++ys) sp):=by rw[aC,if_pos rfl]
 have:=hs.put (o':= .arr true E ek xs (ys.length+sp)) hl (w':=w) (fun _ _=>rfl) rfl ?_ trivial
 ·rw[Hv,if_pos rfl]at this
  exact this
 ·have hok:=hs.obj _ _ hl
  cases hb:β id with
  |none=>
   rw[hb]at hok
   obtain⟨h1,h2⟩:=hok
   have h3:=List.append_eq_nil_iff.1 h1
   exact⟨h3.1,by rw[h3.2,h2];rfl⟩
  |some x'=>
   rw[hb]at hok
   obtain⟨hsp,hfp,pre,post,hh,hpre,hpost⟩:=hok
   refine⟨hsp,hfp,pre,aH ek ys++post,?_,hpre,?_⟩
   ·rw[hh,bB];simp[List.append_assoc]
   ·rw[List.length_append,aP,Nat.add_mul];omega
theorem Ct.short {f:Nat} {args:List SV} {ex:List Value} {hp:List (Nat×SO)} {m:Nat} {p q:SV->S->Prop} (h:Ct P f args ex hp m p)
  (hpq: ∀v s,p v s-> ∃(id E sp:Nat) (ek:EK) (xs ys:List ek.ty),s.hp=[(id,.arr true E ek (xs++ys) sp)]/\q v ⟨s.fr,[(id,.arr true E ek xs (ys.length+sp))],s.nx⟩):Ct P f args ex hp m q:=
 fun β Z fp w hs=>(h β Z fp w hs).mono fun e w' ⟨v,β',Z',fp',s',h1,h2,h3⟩=>by
  obtain⟨id,E,sp,ek,xs,ys,e1,h4⟩:=hpq v s' h3
  have hsat:=h2.sat
  rw[e1]at hsat
  exact⟨v,β',Z',fp',(⟨s'.fr,[(id,.arr true E ek xs (ys.length+sp))],s'.nx⟩:S),h1,⟨h2.env,h2.ext,h2.zz,h2.fr,h2.nx,aR.short hsat,h2.lt⟩,h4⟩
end
def cU (l:Nat) (r:Loop):SO:= .gen fun oa fp w=>oa=some ⟨l,0,none⟩/\fp l/\w.heap[l]?=some (.loop r)
def jF (D:Nat):SO:= .gen fun oa fp w=>oa=some ⟨D,0,none⟩/\fp D/\w.heap[D]?=some (.deferred (some []))
section
variable {P:Program} {ty:List (Nat×STy)} {β:Env} {Z:Nat->Prop} {fp:Nat->Nat->Prop} {s:S} {w:World}
theorem tT (hs:aR β Z fp s w) {id l:Nat} {r:Loop} (hl:aE s.hp id=some (cU l r)):β id=some ⟨l,0,none⟩/\fp id l/\w.heap[l]?=some (.loop r):=(hs.obj _ _ hl).1
theorem aBr (hs:aR β Z fp s w) {id D:Nat} (hl:aE s.hp id=some (jF D)):β id=some ⟨D,0,none⟩/\fp id D/\w.heap[D]?=some (.deferred (some [])):=(hs.obj _ _ hl).1
theorem Jl {oa:Option Addr} {fp:Nat->Prop} {l:Nat} {r:Loop} (h1:oa=some ⟨l,0,none⟩) (h2:fp l) (h3:w.heap[l]?=some (.loop r)):(cU l r).ok β Z fp w oa:=
 ⟨⟨h1,h2,h3⟩,fun w' hw _=>⟨h1,h2,by rw[hw l h2];exact h3⟩⟩
theorem Za {oa:Option Addr} {fp:Nat->Prop} {D:Nat} (h1:oa=some ⟨D,0,none⟩) (h2:fp D) (h3:w.heap[D]?=some (.deferred (some []))):(jF D).ok β Z fp w oa:=
 ⟨⟨h1,h2,h3⟩,fun w' hw _=>⟨h1,h2,by rw[hw D h2];exact h3⟩⟩
theorem eT {l:Nat} {o:Obj} {b:Nat} (h:b≠l):(w.putObj l o).heap[b]?=w.heap[b]?:=World.putObj_heap_other h
theorem Tq {l:Nat} {o o':Obj} (h:w.heap[l]?=some o'):(w.putObj l o).heap[l]?=some o:=by
 have hl:=(Array.getElem?_eq_some_iff.1 h).1
 simp[World.putObj,hl]
theorem aR.setLoop (hs:aR β Z fp s w) {id l:Nat} {r:Loop} (r':Loop) (hl:aE s.hp id=some (cU l r)):aR β Z fp ⟨s.fr,upd s.hp id (cU l r'),s.nx⟩ (w.putObj l (.loop r')):=by
 obtain⟨h1,h2,h3⟩:=tT hs hl
 refine hs.put hl (fun b hb=>eT (fun e=>hb (e▸h2))) (by simp[World.putObj]) ?_ trivial
 exact Jl h1 h2 (Tq h3)
theorem Wg {F:Fence} {n:Nat} {c c':Code} {Q:Exit->Act->World->Prop} {a:Act} {w:World} (h:c=c') (hw:c'.wpIn F n P Q a w):c.wpIn F n P Q a w:=h▸hw
theorem Fn (hty:cZ P ty) {C:Ctx} {E:Env->Prop} (hE:EOk C E) {ro:Option Nat} {n i:Nat} {ops:Array Oper} {s:S} {k:S->Prop} {a:Act} {w:World} {Q:Exit->Act->World->Prop}
  (h:iU P ty C.N E ops.toList ops.toList s k) (hs:Sat C s a w) (hQ: ∀s a w,k s->Sat C s a w->Q .normal a w):(Code.region i ops false).wpIn (fnc ro) n P Q a w:=by
 refine wpIn_region_list ?_
 have:=jK hty hE ro n ops.toList ops.toList s k a w h hs hQ
 rw[Array.toArray_toList]at this
 exact this
theorem aCs (hty:cZ P ty) {N Nr:Nat} {E:Env->Prop} {k:S->SV->Prop} {f x y:Operand} {ats:Array TypeId} {dst:Option Nat} {type:TypeId} {pos:String} {after:Array Edge} {guard:Option (Nat×Bool)}
  {id l:Nat} {r:Loop} {n m:Int} {p q i1 i2 i3 b:Nat} {ops1 ops2 ops3:Array Oper} {fr0:List (Nat×SV)} {β1:Env} {n1:Nat}
  (hf:ev s.fr f=some (.c (.v (.func (.yield l) #[] #[])))) (hx:ev s.fr x=some (.i n)) (hy:ev s.fr y=some (.i m))
  (hl:aE s.hp id=some (cU l r)) (hrd:r.state= .ready) (hpd:r.pending=none) (hps:r.params= #[p,q]) (has:r.assign= .seq (.region i1 ops1 false) (.region i2 ops2 false)) (hbo:r.body= .block b (.region i3 ops3 false))
  (hE: ∀β,E β-> ∀id,id<n1->β id=β1 id) (hfr: ∀t v,aE fr0 t=some v->r.tmps[t]?=some (v.den β1)/\v.lt n1) (hsz:r.tmps.size=Nr) (hn1:n1<=s.nx) (hp:p<Nr) (hq:q<Nr)
  (hgo:iU P ty Nr lD ops1.toList ops1.toList ⟨upd (upd fr0 p (.i n)) q (.i m),s.hp,s.nx⟩ fun s1=>iU P ty Nr lD ops2.toList ops2.toList s1 fun s2=>Ob (s2.hp=s.hp/\s2.nx=s.nx)
   (eZ s.hp id (cU l {r with state:= .busy}) fun hpb=>iU P ty Nr lD ops3.toList ops3.toList ⟨s2.fr,hpb,s.nx⟩ fun s3=>Ob (aE s3.hp id=some (cU l {r with state:= .busy}))
    (eZ s3.hp id (cU l r) fun hpe=>k ⟨s.fr,hpe,s3.nx⟩ (.b true)))):
  Bp P N E ⟨dst,.call ⟨.value f, #[x,y],ats⟩,type,pos,after,guard⟩ s k:=by
 unfold Bp
 intro ro n' β Z fp w a df hEβ hs hfs next Q hn
 obtain⟨hb,hfl,hw⟩:=tT hs hl
 obtain⟨hef,_⟩:=aI hfs hf
 obtain⟨hex,_⟩:=aI hfs hx
 obtain⟨hey,_⟩:=aI hfs hy
 refine⟨fun _ _=>trivial,?_⟩
 rw[Oper.semAt_eq _ _ _ (fun c h=>by cases h)]
 have hrun:(execOp a.eval ⟨dst,.call ⟨.value f, #[x,y],ats⟩,type,pos,after,guard⟩).run P w= .ok (.round l r.fn ((r.tmps.setIfInBounds p (.int .i64 n)).setIfInBounds q (.int .i64 m)) r.assign r.body) w:=by
  have hy:=run_yield (P:=P) (args:= #[.int .i64 n,.int .i64 m]) hw (by rw[hps];rfl)
  simp only[SV.den,SA.den,SC.den]at hef hex hey
  simp[execOp,resolve,invoke,Deferred.ofValue,hef,hex,hey,hy,hps]
 rw[hrun]
 refine⟨fun h=>(by cases h),roundIn_of_wpIn trivial ?_⟩
 rw[has]
 let C:Ctx:=⟨w,Z,β,s.nx,Nr,[]⟩
 have hE1:EOk C lD:=fun _ _=>trivial
 have hsat:Sat C ⟨upd (upd fr0 p (.i n)) q (.i m),s.hp,s.nx⟩ {tmps:=(r.tmps.setIfInBounds p (.int .i64 n)).setIfInBounds q (.int .i64 m),defers:= []} w:=by
  refine⟨β,Z,fp,⟨hs.zlt',hs.flt,hs.sep,hs.obj,hs.lto⟩,⟨?_,?_,by simp[hsz,C],rfl⟩,⟨fun _ h=>h,Ext.refl _ _,fun _ _=>rfl,Nat.le_refl _⟩⟩
  ·intro t v ht
   rw[cJ]at ht
   simp only[Array.getElem?_setIfInBounds,Array.size_setIfInBounds]
   split at ht
   ·rename_i e;subst e;cases ht;rw[if_pos rfl,if_pos (by omega)];rfl
   ·rename_i e
    rw[if_neg e]
    rw[cJ]at ht
    split at ht
    ·rename_i e;subst e;cases ht;rw[if_pos rfl,if_pos (by omega)];rfl
    ·rename_i e
     rw[if_neg e]
     obtain⟨h1,h2⟩:=hfr t v ht
     rw[h1,SV.den_congr (fun id hid=>(hE β hEβ id hid).symm) h2]
  ·intro t v ht
   rw[cJ]at ht
   split at ht
   ·cases ht;trivial
   ·rw[cJ]at ht
    split at ht
    ·cases ht;trivial
    ·exact SV.lt_mono hn1 (hfr t v ht).2
 refine wpIn_seq (Fn hty (C:=C) hE1 hgo hsat ?_)
 intro s1 a1 w1 hk1 hs1
 refine Fn hty (C:=C) hE1 hk1 hs1 ?_
 rintro s2 a2 w2 ⟨⟨he1,he2⟩,hk2⟩ ⟨β2,Z2,fp2,hh2,hf2,hc2⟩
 have hl2:aE s2.hp id=some (cU l r):=by rw[he1];exact hl
 obtain⟨_,_,hw2⟩:=tT hh2 hl2
 refine⟨_,run_beginRound hw2 hrd,?_⟩
 have hh3:=hh2.setLoop {r with state:= .busy} hl2
 rw[aX]at hk2
 rw[he1]at hh3
 have hsz2: ∀b:Nat,b<w2.heap.size->b<(w2.putObj l (.loop {r with state:= .busy})).heap.size:=fun b hb=>by simpa[World.putObj]using hb
 have hs3:Sat C ⟨s2.fr,upd s.hp id (cU l {r with state:= .busy}),s.nx⟩ a2 (w2.putObj l (.loop {r with state:= .busy})):=by
  rw[he2]at hh3
  refine⟨β2,Z2,fp2,hh3,⟨hf2.tmp,fun t v ht=>by rw[<-he2];exact hf2.lt t v ht,hf2.size,hf2.defers⟩,⟨hc2.zz,?_,hc2.env,Nat.le_refl _⟩⟩
  refine⟨hc2.ext.os,hc2.ext.tape,hc2.ext.output,by simpa[World.putObj]using hc2.ext.size,fun b' hzb=>?_⟩
  rw[eT (fun e=>by subst e;exact(hs.flt _ _ hl _ hfl).2 hzb)]
  exact hc2.ext.block b' hzb
 refine Wg hbo (wpIn_block (Fn hty (C:=C) hE1 hk2 hs3 ?_))
 rintro s4 a4 w4 ⟨hl4,hk4⟩ ⟨β4,Z4,fp4,hh4,hf4,hc4⟩
 obtain⟨hb4,hfl4,hw4⟩:=tT hh4 hl4
 refine⟨_,_,run_endRound none hw4,?_⟩
 rw[aX]at hk4
 have hh5:=hh4.setLoop r hl4
 have er:({{r with state:= .busy}with state:=if(none:Option Code).isNone then .ready else .done,pending:=none}:Loop)=r:=by
  obtain⟨st,pe,r3,r4,r5,r6,r7,r8⟩:=r
  simp only at hrd hpd
  subst hrd hpd
  rfl
 rw[er]
 refine hn (.b true) _ β4 Z4 fp4 ⟨s.fr,upd s4.hp id (cU l r),s4.nx⟩ ⟨hc4.env,?_,hc4.zz,rfl,hc4.nx,⟨hh5.zlt',hh5.flt,hh5.sep,hh5.obj,hh5.lto⟩,trivial⟩ hk4
 refine⟨hc4.ext.os,hc4.ext.tape,hc4.ext.output,by simpa[World.putObj]using hc4.ext.size,fun b' hzb=>?_⟩
 rw[eT (fun e=>by subst e;exact(hh4.flt _ _ hl4 _ hfl4).2 (hc4.zz _ hzb))]
 exact hc4.ext.block b' hzb
end
def wV:SO:= .gen fun _ _ _=>True
theorem Zq {β:Env} {Z:Nat->Prop} {fp:Nat->Prop} {w:World} {oa:Option Addr}:wV.ok β Z fp w oa:=⟨trivial,fun _ _ _=>trivial⟩
def EIt (n1:Nat) (β1:Env):Env->Prop:=fun β=> ∀id,id<n1->β id=β1 id
structure Sf (N:Nat) (fr:List (Nat×SV)) (β1:Env) (n1 p q i1:Nat) (ops1:Array Oper) (i2:Nat) (ops2:Array Oper) (b i3:Nat) (ops3:Array Oper) (r:Loop):Prop where
 rd:r.state= .ready
 pd:r.pending=none
 ps:r.params= #[p,q]
 has:r.assign= .seq (.region i1 ops1 false) (.region i2 ops2 false)
 bo:r.body= .block b (.region i3 ops3 false)
 sz:r.tmps.size=N
 fr: ∀t v,aE fr t=some v->r.tmps[t]?=some (v.den β1)/\v.lt n1
theorem aR.junk {β:Env} {Z:Nat->Prop} {fp:Nat->Nat->Prop} {s:S} {w:World} (hs:aR β Z fp s w) {id l:Nat} {o:SO} (x:Obj) (hl:aE s.hp id=some o) (hfl:fp id l):aR β Z fp ⟨s.fr,upd s.hp id wV,s.nx⟩ (w.putObj l x):=
 hs.put hl (fun b hb=>eT (fun e=>hb (e▸hfl))) (by simp[World.putObj]) Zq trivial
theorem Qj {P:Program} {ty:List (Nat×STy)} (hty:cZ P ty) {C:Ctx} {fn:Func} {post:SV->S->Prop} {s:S} {a:Act} {w':World} (hr:kH ty fn.results.toList post s) (hsat':Sat C s a w'):
  ∃v β' Z' fp',(results fn a.tmps).run P w'= .ok (v.den β') w'/\aR β' Z' fp' s w'/\Cok C β' Z' s w'/\v.lt s.nx/\post v s:=by
 obtain⟨β',Z',fp',hs',hf',hc'⟩:=hsat'
 obtain⟨r,hk,hl,hrun⟩:=kJ hty hs' hf' _ _ hr
 have hrun2:(results fn a.tmps).run P w'= .ok (if h:(r.map (SA.den β')).toArray.size=1 then(r.map (SA.den β')).toArray[0]else .tuple (r.map (SA.den β')).toArray) w':=by
  have e1:results fn a.tmps=(do let vs<-fn.results.mapM (rQ a.tmps);pure (if h:vs.size=1 then vs[0]else .tuple vs)):=rfl
  rw[e1,Sem.run_bind,Array.mapM_eq_mapM_toList]
  simp only[Sem.run_map,hrun,Result.andThen_ok,Sem.run_pure]
 match r,hk,hl,hrun2 with
 | [x],hk,hl,hrun2=>exact⟨.a x,β',Z',fp',by simpa[SV.den]using hrun2,hs',hc',hl x (by simp),hk⟩
 | [],hk,hl,hrun2=>exact⟨.tup [],β',Z',fp',by simpa[SV.den]using hrun2,hs',hc',hl,hk⟩
 |x::y::r,hk,hl,hrun2=>
  refine⟨.tup (x::y::r),β',Z',fp',?_,hs',hc',hl,hk⟩
  rw[dif_neg (by simp)]at hrun2
  exact hrun2
theorem Cs {β:Env} {Z:Nat->Prop} {fp:Nat->Nat->Prop} {hp:List (Nat×SO)} {nx nt:Nat} {w:World} (avs:List SV) (hs:aR β Z fp ⟨[],hp,nx⟩ w) (hlt: ∀v∈avs,SV.lt nx v) (hn:avs.length<=nt):
  Sat ⟨w,Z,β,nx,nt,[]⟩ ⟨kU 0 avs,hp,nx⟩ {tmps:=(avs.map (SV.den β)).toArray++Array.replicate (nt-(avs.map (SV.den β)).toArray.size) undef,defers:= []} w:=by
 refine⟨β,Z,fp,⟨hs.zlt',hs.flt,hs.sep,hs.obj,hs.lto⟩,⟨?_,?_,?_,rfl⟩,⟨fun _ h=>h,Ext.refl _ _,fun _ _=>rfl,Nat.le_refl _⟩⟩
 ·intro t v ht
  obtain⟨_,h2⟩:=fJ avs 0 t v ht
  rw[Nat.sub_zero]at h2
  have hlt':t<avs.length:=(List.getElem?_eq_some_iff.1 h2).1
  rw[Array.getElem?_append_left (by simpa using hlt')]
  simp[h2]
 ·intro t v ht
  obtain⟨_,h2⟩:=fJ avs 0 t v ht
  exact hlt v (List.mem_of_getElem? h2)
 ·show _=nt
  simp;omega
theorem aCZ {P:Program} {ty:List (Nat×STy)} (hty:cZ P ty) {f:FuncId} {fn:Func} {c:Code} {R:Ending->World->Prop} (avs:List SV) (hp:List (Nat×SO)) (nx n:Nat) (live:List Nat) (post:SV->S->Prop) (E:Env->Prop)
  {β:Env} {Z:Nat->Prop} {fp:Nat->Nat->Prop} {w:World} (hf:P.funcs[f]?=some fn) (hb:fn.body=some c) (hs:aR β Z fp ⟨[],hp,nx⟩ w) (hlt: ∀v∈avs,SV.lt nx v) (hn:avs.length<=fn.ntmps)
  (hE: ∀β':Env,(∀id,id<nx->β' id=β id)->E β')
  (hex:jA P ty fn.ntmps E nx n live c (kH ty fn.results.toList post) (kH ty fn.results.toList post) (fun _ _=>False) ⟨kU 0 avs,hp,nx⟩)
  (hR: ∀v w' β' Z' fp' s',Nxt β Z ⟨[],hp,nx⟩ w v w' β' Z' fp' ⟨[],s'.hp,s'.nx⟩->post v s'->R (.returned (v.den β')) w'):
  Calls P f (avs.map (SV.den β)).toArray w R:=by
 refine calls_of_wp hf hb ?_
 have hmain:=bZ hty (C:=⟨w,Z,β,nx,fn.ntmps,[]⟩) (E:=E) hE c _ _ _ _ _ _ hex (Cs avs hs hlt hn)
 have hres: ∀s a w',kH ty fn.results.toList post s->Sat ⟨w,Z,β,nx,fn.ntmps,[]⟩ s a w'->a.defers=[]/\ ∃v,(results fn a.tmps).run P w'= .ok v w'/\R (.returned v) w':=by
  intro s a w' hr hsat'
  obtain⟨v,β',Z',fp',h1,h2,h3,h4,h5⟩:=Qj hty hr hsat'
  obtain⟨_,_,_,_,hf',_⟩:=hsat'
  exact⟨hf'.defers,_,h1,hR v w' β' Z' fp' s ⟨h3.env,h3.ext,h3.zz,rfl,h3.nx,⟨h2.zlt',h2.flt,h2.sep,h2.obj,h2.lto⟩,h4⟩ h5⟩
 refine wp_mono hmain ?_
 intro e a w' hq
 cases e with
 |normal=>obtain⟨s,hr,hs'⟩:=hq;exact hres s a w' hr hs'
 |ret=>obtain⟨s,hr,hs'⟩:=hq;exact hres s a w' hr hs'
 |exit i=>obtain⟨s,hr,_⟩:=hq;exact hr.elim
 |goto l=>exact hq.elim
 |panic ch=>exact hq.elim
 |outgrown=>exact hq.elim
theorem Iu {v:SV}: ∀ {l:List (Nat×Nat)},v∈qR l-> ∃c∈l,v= .c (.ptr c.1 c.2)
 | [],h=>by cases h
 |c::l,h=>by
  simp only[qR,List.mem_cons]at h
  rcases h with rfl|h
  ·exact⟨c,by simp,rfl⟩
  ·obtain⟨c',h1,h2⟩:=Iu h
   exact⟨c',by simp[h1],h2⟩
theorem Iv: ∀l:List (Nat×Nat),(qR l).length=l.length
 | []=>rfl
 |c::l=>by simp[qR,Iv l]
theorem Xy {P:Program} {ty:List (Nat×STy)} (hty:cZ P ty) {C:Ctx} (hdf:C.df=[]) {s:S} {g p q i1 i2 b i3:Nat} {ops1 ops2 ops3:Array Oper} {fi:Nat} {fni:Func} {ci:Code} {caps:List (Nat×Nat)}
  (hfi:P.funcs[fi]?=some fni) (hci:fni.body=some ci) (hcf: ∀args w,(callFunc fi args).run P w= .ok (.enter fi args) w) (hg:aE s.fr g=some (.c (.fn fi caps))) (hnt:1+caps.length<=fni.ntmps) (hcl: ∀c∈caps,c.1<s.nx)
  (ni:Nat) (livei:List Nat) {krest:Nat->S->Prop}
  (h: ∀(l D:Nat) (r:Loop) (β1:Env),Sf C.N s.fr β1 s.nx p q i1 ops1 i2 ops2 b i3 ops3 r->jA P ty fni.ntmps (EIt (s.nx+2) β1) (s.nx+2) ni livei ci
   (kH ty fni.results.toList fun _ s2=>Ob (aE s2.hp (s.nx+1)=some (cU l r)) (eZ s2.hp (s.nx+1) wV fun hp=>krest D ⟨s.fr,hp,s2.nx⟩))
   (kH ty fni.results.toList fun _ s2=>Ob (aE s2.hp (s.nx+1)=some (cU l r)) (eZ s2.hp (s.nx+1) wV fun hp=>krest D ⟨s.fr,hp,s2.nx⟩)) (fun _ _=>False)
   ⟨kU 0 (jQ [.c (.v (.func (.yield l) #[] #[]))] (qR caps)),(s.nx+1,cU l r)::(s.nx,jF D)::s.hp,s.nx+2⟩)
  {a:Act} {w:World} (hs:Sat C s a w) {Q:Exit->Act->World->Prop}
  (hQ: ∀D s' a' w',krest D s'->Sat {C with df:= [⟨.collected D, #[]⟩]} s' a' w'->Q .normal a' w'):
  (Code.rangeFunc (.tmp g) #[p,q] (.seq (.region i1 ops1 false) (.region i2 ops2 false)) (.block b (.region i3 ops3 false))).wpIn Fence.wide 0 P Q a w:=by
 obtain⟨β,Z,fp,hh,hf,hc⟩:=hs
 refine wpIn_rangeFunc (fun fnid _=>?_)
 let D:=w.heap.size
 let w0:=w.alloc (.deferred (some []))
 let r:Loop:= {state:= .ready,pending:=none,fn:=fnid,tmps:=a.tmps,params:= #[p,q],assign:= .seq (.region i1 ops1 false) (.region i2 ops2 false),body:= .block b (.region i3 ops3 false),defers:=D}
 let w1:=w0.alloc (.loop r)
 let β1:=(β.add s.nx (some ⟨D,0,none⟩)).add (s.nx+1) (some ⟨D+1,0,none⟩)
 have hβ: ∀id,id<s.nx->β1 id=β id:=fun id hid=>(Env.add_lt id (by omega)).trans (Env.add_lt id hid)
 have hsz0:w0.heap.size=D+1:=by simp[w0,D]
 have hh0:aR (β.add s.nx (some ⟨D,0,none⟩)) Z (fun i=>if i=s.nx then(fun b=>b=D)else fp i) ⟨[],(s.nx,jF D)::s.hp,s.nx+1⟩ w0:=by
  have:=hh.add (o:=jF D) (w':=w0) (x:=some ⟨D,0,none⟩) (q:=fun b=>b=D) (fun b hb=>aT hb) (by omega) (by rintro b rfl;constructor<;>omega) (Za rfl rfl (bA _)) trivial
  exact⟨this.zlt',this.flt,this.sep,this.obj,this.lto⟩
 have hh1:aR β1 Z (fun i=>if i=s.nx+1 then(fun b=>b=D+1)else if i=s.nx then(fun b=>b=D)else fp i) ⟨[],(s.nx+1,cU (D+1) r)::(s.nx,jF D)::s.hp,s.nx+2⟩ w1:=by
  have:=hh0.add (o:=cU (D+1) r) (w':=w1) (x:=some ⟨D+1,0,none⟩) (q:=fun b=>b=D+1) (fun b hb=>aT hb) (by simp[w1]) (by rintro b rfl;simp[w1,hsz0]) (Jl rfl rfl (by
   have:=bA (w:=w0) (.loop r)
   rw[hsz0]at this
   exact this)) trivial
  exact this
 obtain⟨hev,_⟩:=aI hf (x:= .tmp g) hg
 have hrec:Sf C.N s.fr β1 s.nx p q i1 ops1 i2 ops2 b i3 ops3 r:=by
  refine⟨rfl,rfl,rfl,rfl,rfl,hf.size,fun t v ht=>?_⟩
  have hl:=hf.lt t v ht
  exact⟨by rw[SV.den_congr hβ hl];exact hf.tmp t v ht,hl⟩
 have hcall:=h (D+1) D r β1 hrec
 have hargs:((jQ [SV.c (.v (.func (.yield (D+1)) #[] #[]))] (qR caps)).map (SV.den β1)).toArray= #[Value.func (.yield (D+1)) #[] #[]]++(caps.map fun p=>Value.pointer ((β p.1).map (·.add p.2))).toArray:=by
  apply Array.ext'
  have:(caps.map fun p=>Value.pointer ((β1 p.1).map (·.add p.2)))=caps.map fun p=>Value.pointer ((β p.1).map (·.add p.2)):=by
   apply List.map_congr_left
   intro c hcm
   rw[hβ _ (hcl c hcm)]
  simp[nD,Iw,this,SV.den,SA.den,SC.den]
 refine⟨D+1,[⟨.collected D, #[]⟩],w1,⟨.fn (.func fi) (caps.map fun p=>Value.pointer ((β p.1).map (·.add p.2))).toArray, #[Value.func (.yield (D+1)) #[] #[]]⟩,w1,fi, #[Value.func (.yield (D+1)) #[] #[]]++(caps.map fun p=>Value.pointer ((β p.1).map (·.add p.2))).toArray,w1,?_,?_,fun _ _=>trivial,?_,(fun h=>by cases h),?_⟩
 ·exact run_enterLoop_outer fnid a.tmps _ _ _
 ·simp only[resolve,hev,SV.den,SA.den,SC.den,Deferred.ofValue,pure_bind]
  simp[Act.eval]
 ·simp only[invoke]
  exact hcf _ _
 ·rw[<-hargs]
  refine callsIn_wide.2 (aCZ hty _ _ (s.nx+2) ni livei _ (EIt (s.nx+2) β1) hfi hci hh1 ?_ ?_ (fun _ h=>h) hcall ?_)
  ·intro v hv
   rw[nD]at hv
   simp only[List.cons_append,List.nil_append,List.mem_cons]at hv
   rcases hv with rfl|hv
   ·trivial
   ·obtain⟨c,hcm,rfl⟩:=Iu hv
    have:=hcl c hcm
    show c.1<s.nx+2
    omega
  ·rw[nD]
   have:=Iv caps
   simp[this];omega
  ·rintro v w' β' Z' fp' s2 hN ⟨hlo,hk⟩
   have hs2:=hN.sat
   obtain⟨hb2,hfl2,hw2⟩:=tT (s:=⟨[],s2.hp,s2.nx⟩) hs2 hlo
   refine⟨none,_,run_endLoop hw2 (by simp[r]),?_⟩
   rw[aX]at hk
   refine hQ D _ _ _ hk ?_
   have hh3:=hs2.junk (.loop {r with state:= .exhausted}) hlo hfl2
   have hnx:s.nx<=s2.nx:=by have:=hN.nx;simp only at this;omega
   have henv: ∀id,id<s.nx->β' id=β id:=fun id hid=>(hN.env id (by show id<s.nx+2;omega)).trans (hβ id hid)
   refine⟨β',Z',fp',⟨hh3.zlt',hh3.flt,hh3.sep,hh3.obj,hh3.lto⟩,⟨?_,?_,hf.size,?_⟩,⟨?_,?_,?_,?_⟩⟩
   ·intro t v ht
    have hl:=hf.lt t v ht
    rw[SV.den_congr henv hl]
    exact hf.tmp t v ht
   ·intro t v ht
    exact SV.lt_mono hnx (hf.lt t v ht)
   ·show _++a.defers=_
    rw[hf.defers,hdf]
    rfl
   ·exact fun b hb=>hN.zz b (hc.zz b hb)
   ·have e1:Ext Z w w0:=Ext.alloc _ hh.zlt
    have e2:Ext Z w0 w1:=Ext.alloc _ hh0.zlt
    have e3:=Ext.trans (Ext.trans e1 e2 (fun _ h=>h)) hN.ext (fun _ h=>h)
    have e4:=Ext.trans hc.ext e3 hc.zz
    refine⟨e4.os,e4.tape,e4.output,by simpa[World.putObj]using e4.size,fun b' hzb=>?_⟩
    rw[eT (fun e=>by subst e;exact(hs2.flt _ _ hlo _ hfl2).2 (hN.zz _ (hc.zz _ hzb)))]
    exact e4.block b' hzb
   ·exact fun id hid=>(henv id (Nat.lt_of_lt_of_le hid hc.nx)).trans (hc.env id hid)
   ·exact Nat.le_trans hc.nx hnx
def Jj (ty:List (Nat×STy)) (rs:List ResultVar) (n0 mid D:Nat) (post:SV->S->Prop) (s:S):Prop:=
 Ob (aE s.hp mid=some (jF D)) (eZ s.hp mid wV fun hp=>kH ty rs (aQ n0 post) ⟨s.fr,hp,s.nx⟩)
theorem We {P:Program} {ty:List (Nat×STy)} (hty:cZ P ty) {N Nr:Nat} {k:S->SV->Prop} {f x y:Operand} {ats:Array TypeId} {dst:Option Nat} {type:TypeId} {pos:String} {after:Array Edge} {guard:Option (Nat×Bool)}
  {id l:Nat} {r:Loop} {n m:Int} {p q i1 i2 b i3:Nat} {ops1 ops2 ops3:Array Oper} {fr0:List (Nat×SV)} {β1:Env} {n1 n2:Nat} {s:S} (hrec:Sf Nr fr0 β1 n1 p q i1 ops1 i2 ops2 b i3 ops3 r)
  (hf:ev s.fr f=some (.c (.v (.func (.yield l) #[] #[])))) (hx:ev s.fr x=some (.i n)) (hy:ev s.fr y=some (.i m)) (hl:aE s.hp id=some (cU l r)) (hn:Nat.ble n1 n2=true) (hn1:Nat.ble n1 s.nx=true) (hp:Nat.blt p Nr=true) (hq:Nat.blt q Nr=true)
  (hgo:eZ fr0 p (.i n) fun fr1=>eZ fr1 q (.i m) fun fr2=>iU P ty Nr lD ops1.toList ops1.toList ⟨fr2,s.hp,s.nx⟩ fun s1=>iU P ty Nr lD ops2.toList ops2.toList s1 fun s2=>Ob (s2.hp=s.hp/\s2.nx=s.nx)
   (eZ s.hp id (cU l {r with state:= .busy}) fun hpb=>iU P ty Nr lD ops3.toList ops3.toList ⟨s2.fr,hpb,s.nx⟩ fun s3=>Ob (aE s3.hp id=some (cU l {r with state:= .busy}))
    (eZ s3.hp id (cU l r) fun hpe=>k ⟨s.fr,hpe,s3.nx⟩ (.b true)))):
  Bp P N (EIt n2 β1) ⟨dst,.call ⟨.value f, #[x,y],ats⟩,type,pos,after,guard⟩ s k:=by
 rw[aX,aX]at hgo
 rw[nB,decide_eq_true_eq]at hp hq
 have hn:=Nat.le_of_ble_eq_true hn
 exact aCs hty hf hx hy hl hrec.rd hrec.pd hrec.ps hrec.has hrec.bo (fun β hβ id hid=>hβ id (Nat.lt_of_lt_of_le hid hn)) hrec.fr hrec.sz (Nat.le_of_ble_eq_true hn1) hp hq hgo
theorem aDQ {P:Program} {ty:List (Nat×STy)} (hty:cZ P ty) {C:Ctx} (n:Nat) (live:List Nat) {K kr:S->Prop} {Q:Exit->Act->World->Prop} (hret: ∀s a w,kr s->Sat C s a w->Q .ret a w): ∀(k:Nat) (c:Code) (s:S) (a:Act) (w:World),
  jA P ty C.N lD C.n0 n live (Pp k c) K kr (fun _ _=>False) s->Sat C s a w->(∀s a w,K s->Sat C s a w->(Rt k c).wpIn Fence.wide 0 P Q a w)->c.wpIn Fence.wide 0 P Q a w
 |0,c,s,a,w,h,hs,hk=>hk s a w h hs
 |k+1,c,s,a,w,h,hs,hk=>by
  cases c<;>first
   |exact h.elim
   |skip
  rename_i x y
  refine wpIn_seq (wpIn_mono (wpIn_wide.2 (bZ hty (E:=lD) (fun _ _=>trivial) x _ kr _ s a w h hs)) ?_)
  intro e a w hq
  cases e<;>first
   |(obtain⟨s',hk',hs'⟩:=hq;exact aDQ hty n live hret k y s' a w hk' hs' hk)
   |(obtain⟨s',hk',hs'⟩:=hq;exact hret s' a w hk' hs')
   |(obtain⟨s',hk',_⟩:=hq;exact hk'.elim)
   |exact hq.elim
theorem aDR {P:Program} {ty:List (Nat×STy)} (hty:cZ P ty) {f:FuncId} {fn:Func} {c:Code} {avs:List SV} {hp:List (Nat×SO)} {nx:Nat} {post:SV->S->Prop}
  (hf:P.funcs[f]?=some fn) (hb:fn.body=some c) (hlt: ∀v∈avs,SV.lt nx v) (hn:avs.length<=fn.ntmps) {fr:List (Nat×SV)} (hfr:fr=kU 0 avs)
  (n:Nat) (live:List Nat) (k:Nat) {α:Type} (pat:α->S) (inv:α->Prop) {b0 g p q i1 i2 b i3:Nat} {ops1 ops2 ops3:Array Oper} {r8 rest:Code}
  (hdrop:Rt k c= .seq (.seq r8 (.block b0 (.rangeFunc (.tmp g) #[p,q] (.seq (.region i1 ops1 false) (.region i2 ops2 false)) (.block b (.region i3 ops3 false))))) rest)
  {fi:Nat} {fni:Func} {ci:Code} {caps:List (Nat×Nat)}
  (hfi:P.funcs[fi]?=some fni) (hci:fni.body=some ci) (hcf: ∀args w,(callFunc fi args).run P w= .ok (.enter fi args) w) (hg: ∀x,aE (pat x).fr g=some (.c (.fn fi caps))) (hnt:1+caps.length<=fni.ntmps) (hcl: ∀x,∀c∈caps,c.1<(pat x).nx)
  (ni:Nat) (livei:List Nat)
  (hpre:jA P ty fn.ntmps lD nx n live (Pp k c) (fun s1=>jA P ty fn.ntmps lD nx n live r8 (fun s'=> ∃x ren,Sub nx ren (pat x) s'/\inv x) (kH ty fn.results.toList (aQ nx post)) (fun _ _=>False) s1) (kH ty fn.results.toList (aQ nx post)) (fun _ _=>False) ⟨fr,hp,nx⟩)
  (hmain: ∀x,inv x-> ∀(l D:Nat) (r:Loop) (β1:Env),Sf fn.ntmps (pat x).fr β1 (pat x).nx p q i1 ops1 i2 ops2 b i3 ops3 r->jA P ty fni.ntmps (EIt ((pat x).nx+2) β1) ((pat x).nx+2) ni livei ci
   (kH ty fni.results.toList fun _ s2=>Ob (aE s2.hp ((pat x).nx+1)=some (cU l r)) (eZ s2.hp ((pat x).nx+1) wV fun hp=>jA P ty fn.ntmps lD nx n live rest (Jj ty fn.results.toList nx (pat x).nx D post) (Jj ty fn.results.toList nx (pat x).nx D post) (fun _ _=>False) ⟨(pat x).fr,hp,s2.nx⟩))
   (kH ty fni.results.toList fun _ s2=>Ob (aE s2.hp ((pat x).nx+1)=some (cU l r)) (eZ s2.hp ((pat x).nx+1) wV fun hp=>jA P ty fn.ntmps lD nx n live rest (Jj ty fn.results.toList nx (pat x).nx D post) (Jj ty fn.results.toList nx (pat x).nx D post) (fun _ _=>False) ⟨(pat x).fr,hp,s2.nx⟩)) (fun _ _=>False)
   ⟨kU 0 (jQ [.c (.v (.func (.yield l) #[] #[]))] (qR caps)),((pat x).nx+1,cU l r)::((pat x).nx,jF D)::(pat x).hp,(pat x).nx+2⟩):
  Ct P f avs [] hp nx post:=by
 intro β Z fp w hs
 rw[List.append_nil]
 subst hfr
 refine callsIn_wide.1 (callsIn_of_wp_marks (n:=0) hf hb trivial ?_)
 let C:Ctx:=⟨w,Z,β,nx,fn.ntmps,[]⟩
 let R:Ending->World->Prop:=fun e w'=> ∃v β' Z' fp' s',e= .returned (v.den β')/\Nxt β Z ⟨[],hp,nx⟩ w v w' β' Z' fp' ⟨[],s'.hp,s'.nx⟩/\post v s'
 have hsat:Sat C ⟨kU 0 avs,hp,nx⟩ _ w:=Cs avs hs hlt hn
 have hback: ∀s a w',kH ty fn.results.toList (aQ nx post) s->Sat C s a w'-> ∃v,(results fn a.tmps).run P w'= .ok v w'/\R (.returned v) w':=by
  intro s a w' hr hsat'
  obtain⟨v,β',Z',fp',h1,h2,h3,h4,ren,hp1,nx1,v1,h5,h6,h7⟩:=Qj hty hr hsat'
  have hN:Nxt β Z ⟨[],hp,nx⟩ w v w' β' Z' fp' ⟨[],s.hp,s.nx⟩:=⟨h3.env,h3.ext,h3.zz,rfl,h3.nx,⟨h2.zlt',h2.flt,h2.sep,h2.obj,h2.lto⟩,h4⟩
  obtain⟨g1,_,g3,g4⟩:=h5.sat (N:=(0,[])) (a:= {tmps:= #[],defers:= []}) hN.sat ⟨fun t v h=>(by cases h),fun t v h=>(by cases h),rfl,rfl⟩
  obtain⟨e1,e2⟩:=kS (β:=β') h6 hN.lt
  exact⟨_,h1,v1,fB ren β',Z',_,⟨[],hp1,nx1⟩,by rw[e1],⟨fun id hid=>(g3 id hid).trans (hN.env id hid),hN.ext,hN.zz,rfl,g4,g1,e2⟩,h7⟩
 have hret: ∀s a w',kH ty fn.results.toList (aQ nx post) s->Sat C s a w'->bodyPostM Fence.wide 0 P fn R .ret a w':=by
  intro s a w' hr hsat'
  have hd:a.defers=[]:=by
   obtain⟨_,_,_,_,hf',_⟩:=hsat'
   exact hf'.defers
  show LeavesInM Fence.wide 0 P fn a.tmps R a.defers .returning w'
  rw[hd]
  exact hback s a w' hr hsat'
 refine aDQ hty (C:=C) n live hret k c _ _ _ hpre hsat ?_
 intro s1 a1 w1 h1 hs1
 rw[hdrop]
 refine wpIn_seq (wpIn_seq (wpIn_mono (wpIn_wide.2 (bZ hty (C:=C) (E:=lD) (fun _ _=>trivial) r8 _ _ _ s1 a1 w1 h1 hs1)) ?_))
 intro e8 a' w' hq8
 cases e8 with
 |ret=>obtain⟨s',hk',hs'⟩:=hq8;exact hret s' a' w' hk' hs'
 |exit i=>obtain⟨s',hk',_⟩:=hq8;exact hk'.elim
 |goto l=>exact hq8.elim
 |panic ch=>exact hq8.elim
 |outgrown=>exact hq8.elim
 |normal=>
 obtain⟨s',⟨x,ren,hsub,hi⟩,hs'⟩:=hq8
 have hsx:=hs'.sub hsub
 refine wpIn_block (Xy hty (C:=C) rfl hfi hci hcf (hg x) hnt (hcl x) ni livei (hmain x hi) hsx ?_)
 intro D s2 a2 w2 hk2 hs2
 show rest.wpIn Fence.wide 0 P _ a2 w2
 refine wpIn_wide.2 (wp_mono (bZ hty (C:= {C with df:= [⟨.collected D, #[]⟩]}) (E:=lD) (fun _ _=>trivial) rest _ _ _ s2 a2 w2 hk2 hs2) ?_)
 have hend: ∀s a w',Jj ty fn.results.toList nx (pat x).nx D post s->Sat {C with df:= [⟨.collected D, #[]⟩]} s a w'->LeavesInM Fence.wide 0 P fn a.tmps R a.defers .returning w':=by
  rintro s a w' ⟨hm,hr⟩ ⟨β',Z',fp',hs',hf',hc'⟩
  obtain⟨hb2,hfl2,hw2⟩:=aBr hs' hm
  rw[aX]at hr
  rw[hf'.defers]
  refine⟨fun h=>(by cases h),.inl ⟨D,_,rfl,run_takeDeferred hw2,?_⟩⟩
  have hj:=hs'.junk (.deferred none) hm hfl2
  refine hback ⟨s.fr,upd s.hp (pat x).nx wV,s.nx⟩ {tmps:=a.tmps,defers:= []} _ hr ⟨β',Z',fp',hj,⟨hf'.tmp,hf'.lt,hf'.size,rfl⟩,⟨hc'.zz,?_,hc'.env,hc'.nx⟩⟩
  refine⟨hc'.ext.os,hc'.ext.tape,hc'.ext.output,by simpa[World.putObj]using hc'.ext.size,fun b' hzb=>?_⟩
  rw[eT (fun e=>by subst e;exact(hs'.flt _ _ hm _ hfl2).2 (hc'.zz _ hzb))]
  exact hc'.ext.block b' hzb
 intro e a3 w3 hq
 cases e with
 |normal=>obtain⟨s,hr,hs'⟩:=hq;exact hend s a3 w3 hr hs'
 |ret=>obtain⟨s,hr,hs'⟩:=hq;exact hend s a3 w3 hr hs'
 |exit i=>obtain⟨s,hr,_⟩:=hq;exact hr.elim
 |goto l=>exact hq.elim
 |panic ch=>exact hq.elim
 |outgrown=>exact hq.elim
section
variable {P:Program} {β:Env} {Z:Nat->Prop} {fp:Nat->Nat->Prop} {s:S} {w:World}
end
section
variable {P:Program} {ty:List (Nat×STy)} {N n0:Nat} {whole:List Oper} {kn:S->Prop}
end
section
variable {P:Program} {ty:List (Nat×STy)} {N n0:Nat} {whole:List Oper} {kn:S->Prop}
end
theorem Ry {P:Program} {f:Nat} {args:List SV} {ex:List Value} {s:S} {k:S->SV->Prop} (id pid ln cap:Nat) (args':Sli->List SV) (hcf: ∀args w,(callFunc f args).run P w= .ok (.enter f args) w)
  (ha: ∀(β:Env) (y:Sli),SC.den β (.h y)= .slice (β id) ln cap->(args' y).map (SV.den β)=args.map (SV.den β))
  (h:s.go fun fr hp nx=>match aE hp id,aE hp pid with
   |some (.arr true E0 k0 xs sp),some (.pool E1 k1 m)=>match EK.cast k0 k1 xs,Nat.beq E0 E1,Nat.beq id pid with
    |some xs',true,false=>Ob (ln=xs.length/\cap<=xs.length+sp) (∀m' y,Frz m xs' sp ln cap m' y->By hp id fun hp1=>eZ hp1 pid (.pool E1 k1 m') fun hp2=>eH P f (args' y) ex ⟨fr,hp2,nx⟩ k)
    |_,_,_=>False
   |_,_=>False):eH P f args ex s k:=by
 rw[S.go_eq]at h
 split at h<;>try exact h.elim
 rename_i E0 k0 xs sp E1 k1 m hl hpl
 split at h<;>try exact h.elim
 rename_i xs' hcast hE0 hne
 rw[cH,decide_eq_true_eq]at hE0
 rw[cH,decide_eq_false_iff_not]at hne
 subst hE0
 obtain⟨e,he⟩:=EK.cast_spec hcast
 subst e
 change xs'=xs at he
 subst he
 obtain⟨⟨hln,hcap⟩,h⟩:=h
 simp only[mF,aX]at h
 unfold eH
 refine⟨hcf,fun β Z fp w hs=>?_⟩
 have hpool:gF (fp pid) w E0 k0 m:=hs.obj _ _ hpl
 obtain⟨m',y,hy,hfr,hpk⟩: ∃m' y,SC.den β (.h y)= .slice (β id) ln cap/\Frz m xs' sp ln cap m' y/\gF (fun b=>fp pid b\/fp id b) w E0 k0 m':=by
  have hok:=hs.obj _ _ hl
  cases hb:β id with
  |none=>
   rw[hb]at hok
   obtain⟨rfl,rfl⟩:=hok
   refine⟨m,⟨none,ln,cap⟩,rfl,.nil rfl,⟨fun b xs sp hb=>?_,hpool.one⟩⟩
   obtain⟨t1,t2,t3⟩:=hpool.row b xs sp hb
   exact⟨t1,.inl t2,t3⟩
  |some x'=>
   rw[hb]at hok
   obtain⟨hsp,hfp,pre,post,hh,hpre,hpost⟩:=hok
   have hnb: ∀b z,lkA m b=some z->b.block≠x'.block:=by
    intro b z hq e
    have:=(hpool.row _ z.1 z.2 hq).2.1
    rw[e]at this
    exact hs.sep pid id _ _ hpl hl (fun e=>hne e.symm) _ this hfp
   refine⟨(x',xs',sp)::m,⟨some x',ln,cap⟩,rfl,.own ?_ hnb,?_⟩
   ·cases hq:lkA m x' with
    |none=>rfl
    |some q=>exact absurd rfl (hnb _ _ hq)
   ·exact hpool.cons (y:=(xs',sp)) hnb (fun _ _=>rfl) (fun _ hb=> .inl hb) hsp (.inr hfp) ⟨pre,post,hh,hpre,hpost⟩
 have hgo:=h m' y hfr
 have hs1:=hs.merge (p':= .pool E0 k0 m') hl hpl hne hpk trivial
 unfold eH at hgo
 have hc:=hgo.2 _ _ _ w hs1
 rw[ha β y hy]at hc
 refine hc.mono ?_
 rintro e w' ⟨v,β',Z',fp',s',rfl,hn,hk⟩
 exact⟨v,β',Z',fp',s',rfl,⟨hn.env,hn.ext,hn.zz,hn.fr,hn.nx,hn.sat,hn.lt⟩,hk⟩
def Le (a b:Int):Prop:=b≠ -1->a≠ -1/\a<=b
theorem Le.refl (a:Int):Le a a:=fun h=>⟨h,Int.le_refl _⟩
theorem Le.trans {a b c:Int} (h:Le a b) (h':Le b c):Le a c:=fun hc=>by
 have h1:=h' hc
 have h2:=h h1.1
 exact⟨h2.1,Int.le_trans h2.2 h1.2⟩
inductive RN (l:List Arc) (c0:List Int):Nat->Nat->Int->Prop
 |base {v:Nat} (h:v<c0.length) (hc:c0.getD v 0≠ -1):RN l c0 0 v (c0.getD v 0)
 |step {k:Nat} {a:Arc} {c:Int} (h:RN l c0 k a.f.toNat c) (ha:a∈l):RN l c0 (k+1) a.t.toNat (c+a.w)
theorem kP {α:Type} (c:List α) (i v:Nat) (x d:α):(c.set i x).getD v d=if i=v/\v<c.length then x else c.getD v d:=by
 by_cases h:i=v
 ·subst h
  by_cases h2:i<c.length
  ·simp[List.getD,h2]
  ·simp[List.getD,h2]
 ·simp[List.getD,List.getElem?_set_ne h,h]
theorem RN.lt {l:List Arc} {st:Int} {c0:List Int} (hl: ∀a∈l,bC st a) (hn:(c0.length:Int)=st) {k v:Nat} {c:Int} (h:RN l c0 k v c):v<c0.length:=by
 cases h with
 |base h _=>exact h
 |step h ha=>have h1:=(hl _ ha).t0;have h2:=(hl _ ha).t1;omega
theorem RN.pos {l:List Arc} {st:Int} {c0:List Int} (hl: ∀a∈l,bC st a) (h0: ∀v∈c0,-1<=v) {k v:Nat} {c:Int} (h:RN l c0 k v c):0<=c:=by
 induction h with
 |base h hc=>have:=h0 _ (aB c0 _ 0 h);omega
 |step h ha ih=>have h1:=(hl _ ha).w0;omega
structure aD6 (c c':List Int) (a:Arc):Prop where
 len:c'.length=c.length
 le: ∀v,Le (c'.getD v 0) (c.getD v 0)
 to:c.getD a.f.toNat 0≠ -1->Le (c'.getD a.t.toNat 0) (c.getD a.f.toNat 0+a.w)
 eq: ∀v,c'.getD v 0=c.getD v 0\/(v=a.t.toNat/\c.getD a.f.toNat 0≠ -1/\c'.getD v 0=c.getD a.f.toNat 0+a.w)
theorem yR {st:Int} {c:List Int} {B:Int} (hb:Bd st B c) {a:Arc} (ha:bC st a):aD6 c (relax c a) a:=by
 have h1:=hb.at ha.t0 ha.t1
 have h2:=hb.at ha.f0 ha.f1
 have h3:=ha.w0
 have hlen:=hb.len
 have hlt:a.t.toNat<c.length:=by have:=ha.t0;have:=ha.t1;omega
 have key:(less (c.getD a.t.toNat 0) (Ts (c.getD a.f.toNat 0) a.w)=c.getD a.t.toNat 0/\(c.getD a.f.toNat 0≠ -1->Le (c.getD a.t.toNat 0) (c.getD a.f.toNat 0+a.w)))\/
   (c.getD a.f.toNat 0≠ -1/\less (c.getD a.t.toNat 0) (Ts (c.getD a.f.toNat 0) a.w)=c.getD a.f.toNat 0+a.w/\Le (c.getD a.f.toNat 0+a.w) (c.getD a.t.toNat 0)):=by
  generalize c.getD a.t.toNat 0=t at*
  generalize c.getD a.f.toNat 0=f at*
  unfold less Ts Le
  by_cases hf:f<0
  ·left
   have:f<0\/a.w<0:= .inl hf
   simp only[if_pos this]
   refine⟨?_,fun h=>by omega⟩
   split
   ·omega
   ·simp
  ·have: ¬(f<0\/a.w<0):=by omega
   simp only[if_neg this]
   by_cases ht:t<0
   ·right
    rw[if_pos ht]
    exact⟨by omega,rfl,fun h=>by omega⟩
   ·rw[if_neg ht]
    by_cases hlt:f+a.w<0\/t<f+a.w
    ·left
     rw[if_pos hlt]
     exact⟨rfl,fun _ _=>by omega⟩
    ·right
     rw[if_neg hlt]
     exact⟨by omega,rfl,fun h=>by omega⟩
 have hg: ∀v,(relax c a).getD v 0=if a.t.toNat=v/\v<c.length then less (c.getD a.t.toNat 0) (Ts (c.getD a.f.toNat 0) a.w)else c.getD v 0:=fun v=>kP _ _ _ _ _
 refine⟨by simp[relax],fun v=>?_,fun hf=>?_,fun v=>?_⟩
 ·rw[hg]
  split
  ·rename_i h
   obtain⟨rfl,_⟩:=h
   rcases key with⟨e,_⟩|⟨_,e,h⟩
   ·rw[e];exact Le.refl _
   ·rw[e];exact h
  ·exact Le.refl _
 ·rw[hg,if_pos ⟨rfl,hlt⟩]
  rcases key with⟨e,h⟩|⟨_,e,h⟩
  ·rw[e];exact h hf
  ·rw[e];exact Le.refl _
 ·rw[hg]
  split
  ·rename_i h
   obtain⟨rfl,_⟩:=h
   rcases key with⟨e,_⟩|⟨h1,e,_⟩
   ·exact .inl e
   ·exact .inr ⟨rfl,h1,e⟩
  ·exact .inl rfl
structure aDY (l:List Arc) (c c':List Int):Prop where
 len:c'.length=c.length
 le: ∀v,Le (c'.getD v 0) (c.getD v 0)
 to: ∀a∈l,c.getD a.f.toNat 0≠ -1->Le (c'.getD a.t.toNat 0) (c.getD a.f.toNat 0+a.w)
theorem Dy {st:Int}: ∀(l:List Arc) {c:List Int} {B:Int},Bd st B c->0<=B->(∀a∈l,bC st a)->aDY l c (bO l c)
 | [],c,B,hb,_,_=>⟨rfl,fun v=>Le.refl _,fun a h=>by cases h⟩
 |a::l,c,B,hb,hB,hl=>by
  have ha:=hl a (by simp)
  have h1:=yR hb ha
  have h2:=Dy l (hb.rlx hB ha) (by omega) (fun x hx=>hl x (by simp[hx]))
  have e:bO (a::l) c=bO l (relax c a):=rfl
  rw[e]
  refine⟨h2.len.trans h1.len,fun v=>(h2.le v).trans (h1.le v),?_⟩
  intro b hb' hf
  rcases List.mem_cons.1 hb' with rfl|hb'
  ·exact(h2.le _).trans (h1.to hf)
  ·have h3:=h1.le b.f.toNat hf
   have h4:=h2.to b hb' h3.1
   intro hne
   have hw:=(hl b (by simp[hb'])).w0
   have h5:=hb.at (hl b (by simp[hb'])).f0 (hl b (by simp[hb'])).f1
   have h6:=(hb.rlx hB ha).at (hl b (by simp[hb'])).f0 (hl b (by simp[hb'])).f1
   have h7:=h4 (by omega)
   exact⟨h7.1,by omega⟩
theorem Ab {st:Int} {L:List Arc} {c0:List Int}: ∀(l:List Arc) {c:List Int} {B:Int},Bd st B c->0<=B->(∀a∈l,bC st a)->(∀a∈l,a∈L)->
  (∀v,v<c.length->c.getD v 0≠ -1-> ∃k,RN L c0 k v (c.getD v 0))-> ∀v,v<(bO l c).length->(bO l c).getD v 0≠ -1-> ∃k,RN L c0 k v ((bO l c).getD v 0)
 | [],c,B,hb,_,_,_,h=>h
 |a::l,c,B,hb,hB,hl,hL,h=>by
  have ha:=hl a (by simp)
  have h1:=yR hb ha
  have e:bO (a::l) c=bO l (relax c a):=rfl
  rw[e]
  refine Ab l (hb.rlx hB ha) (by omega) (fun x hx=>hl x (by simp[hx])) (fun x hx=>hL x (by simp[hx])) ?_
  intro v hv hne
  rcases h1.eq v with e1|⟨rfl,e1,e2⟩
  ·rw[e1]at hne⊢
   exact h v (by rw[h1.len]at hv;exact hv) hne
  ·rw[e2]
   have hf:a.f.toNat<c.length:=by have:=ha.f0;have:=ha.f1;have:=hb.len;omega
   obtain⟨k,hk⟩:=h _ hf e1
   exact⟨k+1,.step hk (hL a (by simp))⟩
theorem Sa {st:Int} {l:List Arc} {c0:List Int} {B:Int} (hb:Bd st B c0) (hB:0<=B) (hl: ∀a∈l,bC st a): ∀r:Nat,
  (∃B',0<=B'/\Bd st B' (fP (bO l) r c0))/\(∀v,v<c0.length->(fP (bO l) r c0).getD v 0≠ -1-> ∃k,RN l c0 k v ((fP (bO l) r c0).getD v 0))/\
   ∀k v c,RN l c0 k v c->k<=r->Le ((fP (bO l) r c0).getD v 0) c
 |0=>by
  refine⟨⟨B,hB,hb⟩,fun v hv hc=>⟨0,.base hv hc⟩,?_⟩
  intro k v c h hk
  cases h with
  |base h hc=>exact Le.refl _
  |step h ha=>omega
 |r+1=>by
  obtain⟨⟨B',hB',hb'⟩,h1,h2⟩:=Sa hb hB hl r
  have hlen:(fP (bO l) r c0).length=c0.length:=by have:=hb'.len;have:=hb.len;omega
  have hf:=Dy l hb' hB' hl
  have e:fP (bO l) (r+1) c0=bO l (fP (bO l) r c0):=rfl
  rw[e]
  refine⟨⟨_,by omega,Bd.fold l hb' hB' hl⟩,?_,?_⟩
  ·intro v hv
   exact Ab l hb' hB' hl (fun _ h=>h) (fun v hv=>h1 v (by omega)) v (by rw[hf.len];omega)
  ·intro k v c h hk
   have hpos: ∀v∈c0,-1<=v:=fun v hv=>(hb.bd v hv).1
   cases h with
   |base h hc=>exact(hf.le _).trans (h2 _ _ _ (.base h hc) (by omega))
   |step h ha=>
    rename_i k a c
    have h3:=h2 _ _ _ h (by omega)
    have hc:=h.pos hl hpos
    have h4:=h3 (by omega)
    have h5:=hf.to a ha h4.1
    intro _
    have hw:=(hl a ha).w0
    have h6:=hb'.at (hl a ha).f0 (hl a ha).f1
    have h7:=h5 (by omega)
    exact⟨h7.1,by omega⟩
structure Sol (l:List Arc) (c0 D:List Int):Prop where
 len:D.length=c0.length
 s1: ∀v,v<c0.length->Le (D.getD v 0) (c0.getD v 0)
 s2: ∀a∈l,D.getD a.f.toNat 0≠ -1->Le (D.getD a.t.toNat 0) (D.getD a.f.toNat 0+a.w)
 s3: ∀v,v<c0.length->D.getD v 0≠ -1-> ∃k,k<=c0.length/\RN l c0 k v (D.getD v 0)
theorem Sol.le {st:Int} {l:List Arc} {c0 D:List Int} (h:Sol l c0 D) (hl: ∀a∈l,bC st a) (hn:(c0.length:Int)=st) (h0: ∀v∈c0,-1<=v) (hD: ∀v,v<c0.length-> -1<=D.getD v 0) {k v:Nat} {c:Int} (hr:RN l c0 k v c):Le (D.getD v 0) c:=by
 induction hr with
 |base hv hc=>exact h.s1 _ hv
 |step hr ha ih=>
  rename_i k a c
  have hc:=hr.pos hl h0
  have h1:=ih (by omega)
  have h2:=h.s2 a ha h1.1
  intro _
  have hw:=(hl a ha).w0
  have h3:=hD a.f.toNat (hr.lt hl hn)
  have h4:=h2 (by omega)
  exact⟨h4.1,by omega⟩
theorem RN.perm {l l':List Arc} {c0:List Int} (h: ∀a∈l,a∈l') {k v:Nat} {c:Int} (hr:RN l c0 k v c):RN l' c0 k v c:=by
 induction hr with
 |base hv hc=>exact .base hv hc
 |step hr ha ih=>exact .step ih (h _ ha)
theorem Sol.eq {st:Int} {l l':List Arc} {c0 D:List Int} {B:Int} (h:Sol l c0 D) (hb:Bd st B c0) (hB:0<=B) (hl: ∀a∈l,bC st a) (hll: ∀a,a∈l <-> a∈l'):D=fP (bO l') c0.length c0:=by
 have hl': ∀a∈l',bC st a:=fun a ha=>hl a ((hll a).2 ha)
 obtain⟨⟨B',hB',hb'⟩,h1,h2⟩:=Sa hb hB hl' c0.length
 have h0: ∀v∈c0,-1<=v:=fun v hv=>(hb.bd v hv).1
 have hlen:(fP (bO l') c0.length c0).length=c0.length:=by have:=hb'.len;have:=hb.len;omega
 have hD: ∀v,v<c0.length-> -1<=D.getD v 0:=by
  intro v hv
  by_cases e:D.getD v 0= -1
  ·omega
  ·obtain⟨k,_,hk⟩:=h.s3 v hv e
   have:=hk.pos hl h0;omega
 refine List.ext_getElem (h.len.trans hlen.symm) fun v hv hv'=>?_
 have hv0:v<c0.length:=by rw[h.len]at hv;exact hv
 have e1:D[v]=D.getD v 0:=by simp[List.getD,hv]
 have e2:(fP (bO l') c0.length c0)[v]=(fP (bO l') c0.length c0).getD v 0:=by simp[List.getD,hv']
 rw[e1,e2]
 by_cases c1:D.getD v 0= -1
 ·by_cases c2:(fP (bO l') c0.length c0).getD v 0= -1
  ·rw[c1,c2]
  ·obtain⟨k,hk⟩:=h1 v hv0 c2
   have:=h.le hl hb.len h0 hD (hk.perm fun a ha=>(hll a).2 ha) c2
   exact absurd c1 this.1
 ·obtain⟨k,hk,hr⟩:=h.s3 v hv0 c1
  have h3:=h2 k v _ (hr.perm fun a ha=>(hll a).1 ha) hk c1
  obtain⟨k',hk'⟩:=h1 v hv0 h3.1
  have h4:=h.le hl hb.len h0 hD (hk'.perm fun a ha=>(hll a).2 ha) h3.1
  omega
end Go.Fw
