/-
  plain.silent: the table of the silent ways.
-/
import Derived.Test.YtemhgpoeccbheaaGreatDoorQ10
import Derived.Test.YtemhgpoeccbheaaGreatDoorQ08
import Derived.Test.YtemhgpoeccbheaaGreatDoorQ07
import Derived.Test.YtemhgpoeccbheaaGreatDoorQ05
import Derived.Test.YtemhgpoeccbheaaGreatDoorQ09
import Derived.Test.YtemhgpoeccbheaaGreatDoorQ06
set_option linter.unusedSimpArgs false
set_option linter.unusedVariables false
set_option maxRecDepth 100000
set_option maxHeartbeats 16000000
namespace Go.Fw
open Go Go.Proofs
theorem aAs {P:Program} {f:Nat} {args:List SV} {ex:List Value} {s:S} {k:S->SV->Prop} (E:Nat) (ek:EK) (hlt: ∀v∈args,SV.lt s.nx v)
  (h:s.go fun fr hp nx=>eH P f args ex ⟨fr,(nx,.pool E ek [])::hp,nx+1⟩ k):eH P f args ex s k:=by
 rw[S.go_eq]at h
 unfold eH at h⊢
 refine⟨h.1,fun β Z fp w hs=>?_⟩
 have hs':=hs.add (o:= .pool E ek []) (x:=none) (q:=fun _=>False) (fun _ _=>rfl) (Nat.le_refl _) (fun _ h=>h.elim) ⟨fun _ _ _ h=>(by cases h),fun _ _ _ _ h=>(by cases h)⟩ trivial
 have hc:=h.2 _ _ _ w hs'
 have ha:args.map (SV.den (β.add s.nx none))=args.map (SV.den β):=List.map_congr_left fun v hv=>SV.den_congr (fun id hid=>Env.add_lt id hid) (hlt v hv)
 rw[ha]at hc
 refine hc.mono ?_
 rintro e w' ⟨v,β',Z',fp',s',rfl,hn,hk⟩
 exact⟨v,β',Z',fp',s',rfl,⟨fun id hid=>(hn.env id (Nat.lt_succ_of_lt hid)).trans (Env.add_lt id hid),hn.ext,hn.zz,hn.fr,Nat.le_of_succ_le hn.nx,hn.sat,hn.lt⟩,hk⟩
structure uL (F:TF) (rows:List Sli) (pi:List (Addr×List Int×Nat)) (k:Nat):Prop where
 len:rows.length=F.st.toNat
 hd: ∀s:Nat,s<F.st.toNat->Hd pi (rows.getD s EK.sli.dflt)
 row: ∀s:Nat,s<F.st.toNat->aM pi (rows.getD s EK.sli.dflt).a=lX F k s
 dist: ∀(s t:Nat) (a:Addr),s<F.st.toNat->t<F.st.toNat->s≠t->(rows.getD s EK.sli.dflt).a=some a->(rows.getD t EK.sli.dflt).a≠some a
theorem Hd.len {α:Type} {m:List (Addr×List α×Nat)} {x:Sli} (h:Hd m x):x.n=(aM m x.a).length:=by
 unfold Hd at h
 unfold aM
 cases hx:x.a with
 |none=>rw[hx]at h;simp[h.1]
 |some a=>
  rw[hx]at h
  simp only at h⊢
  cases hl:lkA m a with
  |none=>rw[hl]at h;exact h.elim
  |some y=>rw[hl]at h;simp[h.1]
theorem Hd.some {α:Type} {m:List (Addr×List α×Nat)} {x:Sli} (h:Hd m x) {a:Addr} (ha:x.a=some a): ∃y,lkA m a=some y/\x.n=y.1.length/\x.c<=y.1.length+y.2:=by
 unfold Hd at h
 rw[ha]at h
 simp only at h
 cases hl:lkA m a with
 |none=>rw[hl]at h;exact h.elim
 |some y=>rw[hl]at h;exact⟨y,rfl,h⟩
theorem Hd.of_some {α:Type} {m:List (Addr×List α×Nat)} {x:Sli} {a:Addr} {y:List α×Nat} (ha:x.a=Option.some a) (hl:lkA m a=Option.some y) (h1:x.n=y.1.length) (h2:x.c<=y.1.length+y.2):Hd m x:=by
 unfold Hd
 rw[ha]
 simp only
 rw[hl]
 exact⟨h1,h2⟩
theorem Hd.of_none {α:Type} {m:List (Addr×List α×Nat)} {x:Sli} (ha:x.a=none) (h1:x.n=0) (h2:x.c=0):Hd m x:=by
 unfold Hd
 rw[ha]
 exact⟨h1,h2⟩
theorem bV {α:Type} (l:List α) (j:Nat) (x d:α) (s:Nat) (hj:j<l.length):(l.set j x).getD s d=if s=j then x else l.getD s d:=by
 simp only[List.getD,List.getElem?_set]
 by_cases h:j=s
 ·subst h;simp[hj]
 ·simp[h,Ne.symm h]
theorem gQ {α:Type} {m:List (Addr×List α×Nat)} {a:Addr} {y:List α×Nat} (h:lkA m a=some y):aM m (some a)=y.1:=by simp[aM,h]
theorem rM {α:Type} {m m':List (Addr×List α×Nat)} {a:Addr} (h:lkA m a=lkA m' a):aM m (some a)=aM m' (some a):=by simp only[aM,h]
theorem uL.step {F:TF} {rows:List Sli} {pi pi':List (Addr×List Int×Nat)} {k j:Nat} {h':Sli} (h:uL F rows pi k) (hj:j<F.st.toNat) (hf:(F.arcs.getD k EK.arc.dflt).f=j) (ha:App pi (rows.getD j EK.sli.dflt) [(k:Int)] pi' h'):
  uL F (rows.set j h') pi' (k+1):=by
 have hl:=h.len
 have hjr:j<rows.length:=by omega
 have hne: ∀s:Nat,s≠j->lX F (k+1) s=lX F k s:=by
  intro s hs
  rw[zF,hf,if_neg (by omega),List.append_nil]
 have hjj:lX F (k+1) j=lX F k j++[(k:Int)]:=by rw[zF,hf,if_pos rfl]
 generalize hx:rows.getD j EK.sli.dflt=x at ha
 have hdj:=h.hd j hj
 have hrj:=h.row j hj
 rw[hx]at hdj hrj
 cases ha with
 |stay h=>cases h
 | @room a y sp h1 h2 h3=>
   obtain⟨y',g1,g2,g3⟩:=hdj.some h1
   rw[h2]at g1
   cases g1
   have hla:lkA (tA pi a (y.1++[(k:Int)],sp)) a=some (y.1++[(k:Int)],sp):=by rw[fC,h2];simp
   have hlb: ∀b,b≠a->lkA (tA pi a (y.1++[(k:Int)],sp)) b=lkA pi b:=by
    intro b hb
    rw[fC]
    simp only[hb,if_false]
    cases lkA pi b<;>rfl
   have hoth: ∀s,s<F.st.toNat->s≠j-> ∀b,(rows.getD s EK.sli.dflt).a=some b->b≠a:=by
    intro s hs hsj b hb e
    subst e
    exact h.dist s j b hs hj hsj hb (by rw[hx];exact h1)
   refine⟨by rw[List.length_set];exact hl,?_,?_,?_⟩
   ·intro s hs
    rw[bV _ _ _ _ _ hjr]
    by_cases e:s=j
    ·rw[if_pos e]
     refine Hd.of_some rfl hla ?_ ?_
     ·simp[g2]
     ·simp only[List.length_append,List.length_cons,List.length_nil]
      simp only[List.length_cons,List.length_nil]at h3
      omega
    ·rw[if_neg e]
     have:=h.hd s hs
     cases hsa:(rows.getD s EK.sli.dflt).a with
     |none=>
      unfold Hd at this⊢
      rw[hsa]at this⊢
      exact this
     |some b=>
      obtain⟨z,k1,k2,k3⟩:=this.some hsa
      exact Hd.of_some hsa (by rw[hlb b (hoth s hs e b hsa)];exact k1) k2 k3
   ·intro s hs
    rw[bV _ _ _ _ _ hjr]
    by_cases e:s=j
    ·rw[if_pos e,e,hjj,<-hrj]
     simp[aM,hla,h1,h2]
    ·rw[if_neg e,hne s e,<-h.row s hs]
     cases hsa:(rows.getD s EK.sli.dflt).a with
     |none=>rfl
     |some b=>exact rM (hlb b (hoth s hs e b hsa))
   ·intro s t b hs ht hst hb hc
    rw[bV _ _ _ _ _ hjr]at hb hc
    by_cases es:s=j
    ·rw[if_pos es]at hb
     rw[if_neg (fun e=>hst (es.trans e.symm))]at hc
     simp only[Option.some.injEq]at hb
     subst hb
     exact hoth t ht (fun e=>hst (es.trans e.symm)) _ hc rfl
    ·rw[if_neg es]at hb
     by_cases et:t=j
     ·rw[if_pos et]at hc
      simp only[Option.some.injEq]at hc
      subst hc
      exact hoth s hs es _ hb rfl
     ·rw[if_neg et]at hc
      exact h.dist s t b hs ht hst hb hc
 | @fresh a sp h1 h2=>
   have hlb: ∀b,b≠a->lkA ((a,aM pi x.a++[(k:Int)],sp)::pi) b=lkA pi b:=fun b hb=>by simp only[lkA,if_neg (Ne.symm hb)]
   have hla:lkA ((a,aM pi x.a++[(k:Int)],sp)::pi) a=some (aM pi x.a++[(k:Int)],sp):=by simp[lkA]
   have hoth: ∀s,s<F.st.toNat-> ∀b,(rows.getD s EK.sli.dflt).a=some b->b≠a:=by
    intro s hs b hb e
    subst e
    obtain⟨z,k1,_⟩:=(h.hd s hs).some hb
    rw[h1]at k1
    cases k1
   refine⟨by rw[List.length_set];exact hl,?_,?_,?_⟩
   ·intro s hs
    rw[bV _ _ _ _ _ hjr]
    by_cases e:s=j
    ·rw[if_pos e]
     refine Hd.of_some rfl hla ?_ ?_
     ·simp[hdj.len]
     ·simp[hdj.len]
    ·rw[if_neg e]
     have:=h.hd s hs
     cases hsa:(rows.getD s EK.sli.dflt).a with
     |none=>
      unfold Hd at this⊢
      rw[hsa]at this⊢
      exact this
     |some b=>
      obtain⟨z,k1,k2,k3⟩:=this.some hsa
      exact Hd.of_some hsa (by rw[hlb b (hoth s hs b hsa)];exact k1) k2 k3
   ·intro s hs
    rw[bV _ _ _ _ _ hjr]
    by_cases e:s=j
    ·rw[if_pos e,e,hjj,<-hrj]
     exact gQ hla
    ·rw[if_neg e,hne s e,<-h.row s hs]
     cases hsa:(rows.getD s EK.sli.dflt).a with
     |none=>rfl
     |some b=>exact rM (hlb b (hoth s hs b hsa))
   ·intro s t b hs ht hst hb hc
    rw[bV _ _ _ _ _ hjr]at hb hc
    by_cases es:s=j
    ·rw[if_pos es]at hb
     rw[if_neg (fun e=>hst (es.trans e.symm))]at hc
     simp only[Option.some.injEq]at hb
     subst hb
     exact hoth t ht _ hc rfl
    ·rw[if_neg es]at hb
     by_cases et:t=j
     ·rw[if_pos et]at hc
      simp only[Option.some.injEq]at hc
      subst hc
      exact hoth s hs _ hb rfl
     ·rw[if_neg et]at hc
      exact h.dist s t b hs ht hst hb hc
theorem uL.zero (F:TF):uL F (List.replicate F.st.toNat (⟨none,0,0⟩:Sli)) [] 0:=by
 have hg: ∀s,(List.replicate F.st.toNat (⟨none,0,0⟩:Sli)).getD s EK.sli.dflt=⟨none,0,0⟩:=by
  intro s
  simp only[List.getD,List.getElem?_replicate]
  split<;>rfl
 refine⟨List.length_replicate,?_,?_,?_⟩
 ·intro s _;rw[hg];exact Hd.of_none rfl rfl rfl
 ·intro s _;rw[hg];rfl
 ·intro s t a _ _ _ h;rw[hg]at h;cases h
theorem uL.ok {F:TF} {rows:List Sli} {pi:List (Addr×List Int×Nat)} (h:uL F rows pi F.arcs.length):Hq F rows pi:=
 ⟨h.len,fun s hs=>⟨by rw[(h.hd s hs).len,h.row s hs];rfl,h.row s hs⟩⟩
def cG (F:TF) (u v:List Int):Int:=if aL F≠0 then aL F else if lQ u≠0 then lQ u else lQ v
abbrev hpQ (F:TF) (u v:List Int):List (Nat×SO):= [(0,.arr false 3 .int F.fin 0),(1,.arr false 55 .arc F.arcs 0),(2,.arr false 3 .int u 0),(3,.arr false 3 .int v 0)]
section
variable (F:TF) (u v:List Int) (cu cv:Nat) (rows:List Sli) (pi:List (Addr×List Int×Nat))
theorem aDx (hF:FOk F) (hu:u.length<=40) (hv:v.length<=40) (hr:Hq F rows pi):
  Ct Tryz.prog 119 [.c (.ptr 0 0)] [] [(0,.box 101 [.i F.st,.i F.start,.sl 1 1 0 F.fin.length F.capF,.sl 2 5 0 F.arcs.length F.capA,.sl 3 1 0 u.length cu,.sl 4 1 0 v.length cv,.sl 5 1 0 rows.length rows.length,.v (.map none)]),(1,.arr false 3 .int F.fin 0),(2,.arr false 55 .arc F.arcs 0),(3,.arr false 3 .int u 0),(4,.arr false 3 .int v 0),(5,.arr true 22 .sli rows 0),(6,.pool 3 .int pi),(7,.pool 103 .fnd [])] 8 (fun x s=> ∃es clk pf,x= .tup []/\s=⟨[],[(0,.box 101 [.i F.st,.i F.start,.sl 1 1 0 F.fin.length F.capF,.sl 2 5 0 F.arcs.length F.capA,.sl 3 1 0 u.length cu,.sl 4 1 0 v.length cv,.sl 5 1 0 rows.length rows.length,.mp 8]),(5,.arr true 22 .sli rows 0),(6,.pool 3 .int pi),(7,.pool 103 .fnd pf),(8,.map .trip .adr es clk)],9⟩/\Ran ⟨F,u,v,cu,cv,rows,pi,es,clk,pf⟩ es clk pf):=
 (aDy ⟨F,u,v,cu,cv,rows,pi,[],0,[]⟩ hF hu hv hr).to (fun x s ⟨es,clk,pf,h1,h2,h3⟩=>⟨es,clk,pf,h1,h2,h3⟩)
theorem aDM (es:List (Trip×Option Addr×Nat)) (clk:Nat) (pf:List (Addr×List Fnd×Nat)) (hF:FOk F) (hu:u.length<=40) (hv:v.length<=40) (hm:bT es clk pf) (hb: ∀y d,bH es pf y=some d->0<=d.cost/\d.cost<=1000000000000000):
  Ct Tryz.prog 120 [.c (.ptr 0 0)] [] [(0,.box 101 [.i F.st,.i F.start,.sl 1 1 0 F.fin.length F.capF,.sl 2 5 0 F.arcs.length F.capA,.sl 3 1 0 u.length cu,.sl 4 1 0 v.length cv,.sl 5 1 0 rows.length rows.length,.mp 7]),(1,.arr false 3 .int F.fin 0),(2,.arr false 55 .arc F.arcs 0),(3,.arr false 3 .int u 0),(4,.arr false 3 .int v 0),(5,.arr true 22 .sli rows 0),(6,.pool 3 .int pi),(7,.map .trip .adr es clk),(8,.pool 103 .fnd pf)] 9 (fun x s=>x= .tup [.agg [.i (bJ (cW es pf) F.fin u.length v.length F.fin.length).1.a,.i (bJ (cW es pf) F.fin u.length v.length F.fin.length).1.b,.i (bJ (cW es pf) F.fin u.length v.length F.fin.length).1.c],.c (.i (bJ (cW es pf) F.fin u.length v.length F.fin.length).2)]/\
   s=⟨[],[(0,.box 101 [.i F.st,.i F.start,.sl 1 1 0 F.fin.length F.capF,.sl 2 5 0 F.arcs.length F.capA,.sl 3 1 0 u.length cu,.sl 4 1 0 v.length cv,.sl 5 1 0 rows.length rows.length,.mp 7]),(5,.arr true 22 .sli rows 0),(6,.pool 3 .int pi),(7,.map .trip .adr es clk),(8,.pool 103 .fnd pf)],9⟩):=
 aDN ⟨F,u,v,cu,cv,rows,pi,[],0,[]⟩ hF hu hv es clk pf hm hb
end
theorem aAL (F:TF) (u v:List Int) (cu cv:Nat) (hl:F.fin.length<=9223372036854775807) (hsc:cG F u v≠0):
  Ct Tryz.prog 73 [fV F,.c (.sl 2 1 0 u.length cu),.c (.sl 3 1 0 v.length cv)] [] (hpQ F u v) 4 (Is 4 (.tup [.c (.v (.pointer none)),.agg [.i 0,.i 0,.i 0],.c (.i 0),.c (.i (cG F u v))])):=by
 unfold cG at hsc⊢
 refine ctW Tryz.tyOk 16 [39,40,41] Tryz.func73 rfl (by simp) (by simp) (fr:= [(0,fV F),(1,.c (.sl 2 1 0 u.length cu)),(2,.c (.sl 3 1 0 v.length cv))]) rfl ?_
 refine gO ?_
 refine cI (aU F hl) [0,1] Tryz.call35 ?_
 by_cases h1:aL F=0
 ·rw[if_neg (by omega)]at hsc⊢
  refine gO fun h=>?_
  refine cI (yC u cu) [2] Tryz.call37 ?_
  by_cases h2:lQ u=0
  ·rw[if_neg (by omega)]at hsc⊢
   refine gO fun h=>?_
   refine cI (yC v cv) [3] Tryz.call37 ?_
   refine gO fun h=>?_
   refine aQ.is ?_
   simp
  ·rw[if_pos h2]
   refine gO ?_
   intro h h
   refine aQ.is ?_
   simp
 ·rw[if_pos h1]
  refine gO ?_
  intro h h h
  refine aQ.is ?_
  simp
theorem Fa (F:TF) (u v:List Int) (cu cv:Nat) (hl:F.fin.length<=9223372036854775807) (h:cG F u v=0):
  Ct Tryz.prog 73 [fV F,.c (.sl 2 1 0 u.length cu),.c (.sl 3 1 0 v.length cv)] [] (hpQ F u v) 4 (fun x s=> ∃rows pi es clk pf,Ran ⟨F,u,v,cu,cv,rows,pi,es,clk,pf⟩ es clk pf/\
   x= .tup [.c (.ptr 4 0),.agg [.i (bJ (cW es pf) F.fin u.length v.length F.fin.length).1.a,.i (bJ (cW es pf) F.fin u.length v.length F.fin.length).1.b,.i (bJ (cW es pf) F.fin u.length v.length F.fin.length).1.c],.c (.i (bJ (cW es pf) F.fin u.length v.length F.fin.length).2),.c (.i 0)]/\
   s=⟨[],[(4,.box 101 [.i F.st,.i F.start,.sl 0 1 0 F.fin.length F.capF,.sl 1 5 0 F.arcs.length F.capA,.sl 2 1 0 u.length cu,.sl 3 1 0 v.length cv,.sl 5 1 0 rows.length rows.length,.mp 8]),(5,.arr true 22 .sli rows 0),(6,.pool 3 .int pi),(7,.pool 103 .fnd pf),(8,.map .trip .adr es clk)],9⟩):=by
 have h1:aL F=0:=by
  unfold cG at h
  split at h
  ·omega
  ·omega
 have h2:lQ u=0:=by
  unfold cG at h
  rw[if_neg (by omega)]at h
  split at h<;>omega
 have h3:lQ v=0:=by
  unfold cG at h
  rw[if_neg (by omega),if_neg (by omega)]at h
  exact h
 have hu:u.length<=40:=by
  unfold lQ at h2
  split at h2
  ·cases h2
  ·omega
 have hv:v.length<=40:=by
  unfold lQ at h3
  split at h3
  ·cases h3
  ·omega
 have hF:=aK h1
 have hst:=hF.st
 have hfl:=hF.finl
 have hal:=hF.arcl
 refine ctW Tryz.tyOk 16 [39,40,41] Tryz.func73 rfl (by simp) (by simp) (fr:= [(0,fV F),(1,.c (.sl 2 1 0 u.length cu)),(2,.c (.sl 3 1 0 v.length cv))]) rfl ?_
 refine gO ?_
 refine cI (aU F hl) [0,1] Tryz.call35 ?_
 rw[h1]
 refine gO ?_
 refine cI (yC u cu) [2] Tryz.call37 ?_
 rw[h2]
 refine gO ?_
 refine cI (yC v cv) [3] Tryz.call37 ?_
 rw[h3]
 refine gO ?_
 refine aJ (fun y:Nat×List Sli×List (Addr×List Int×Nat)=>⟨[(1,.c (.sl 2 1 0 u.length cu)),(2,.c (.sl 3 1 0 v.length cv)),(3,.c (.ptr 4 0)),(6,.c (.v (.pointer none))),(7,.c (.ptr 5 0)),(8,.i 0),(9,.i 0),(10,.i 0),(11,.c (.ptr 7 0)),(39,.c (.sl 1 5 0 F.arcs.length F.capA)),(40,.i F.arcs.length),(41,.i y.1)],
  (4,.box 25 (aA F))::(5,.box 94 [.i 0,.i 0,.i 0])::(6,.arr true 22 .sli y.2.1 0)::(7,.box 101 [.i F.st,.i F.start,.sl 0 1 0 F.fin.length F.capF,.sl 1 5 0 F.arcs.length F.capA,.sl 2 1 0 u.length cu,.sl 3 1 0 v.length cv,.sl 6 1 0 y.2.1.length y.2.1.length,.v (.map none)])::(8,.pool 3 .int y.2.2)::hpQ F u v,9⟩)
  (fun y=>y.1<=F.arcs.length/\uL F y.2.1 y.2.2 y.1) (fun y=>F.arcs.length-y.1) (0,List.replicate F.st.toNat ⟨none,0,0⟩,[]) [(8,none)] ⟨by rfl,?_,?_⟩ ⟨by omega,uL.zero F⟩ ?_
 ·simp
 ·simp[aA,cT]
  exact .inr rfl
 ·rintro⟨k,rows,pi⟩ ⟨i1,i2⟩
  simp only at i1 i2⊢
  have hrl:=i2.len
  (conv=>whnf)
  refine aG (fun hk=>?_) (fun hk=>?_)
  ·have e0:0+(k:Int).toNat=k:=by omega
   have ea:F.arcs.getD (0+(k:Int).toNat) EK.arc.dflt=F.arcs.getD k EK.arc.dflt:=by rw[e0]
   have hao:=hF.arc _ (aB F.arcs k EK.arc.dflt (by omega))
   rw[<-ea]at hao
   have hf0:=hao.f0
   have hf1:=hao.f1
   have hj:(F.arcs.getD (0+(k:Int).toNat) EK.arc.dflt).f.toNat<F.st.toNat:=by omega
   have hd:=i2.hd _ hj
   have hln:=hd.len
   rw[i2.row _ hj]at hln
   have hnl:=Dd F k ((F.arcs.getD (0+(k:Int).toNat) EK.arc.dflt).f.toNat)
   have ej:0+(F.arcs.getD (0+(k:Int).toNat) EK.arc.dflt).f.toNat=(F.arcs.getD (0+(k:Int).toNat) EK.arc.dflt).f.toNat:=by omega
   refine gO ?_
   refine⟨?_,?_⟩
   ·rw[ej]
    exact⟨hd,by omega,by omega⟩
   ·intro m' h' happ
    rw[ej]at happ
    have hstep:=i2.step hj (by rw[<-ea];omega) happ
    refine gO ?_
    refine⟨(k+1,rows.set (F.arcs.getD (0+(k:Int).toNat) EK.arc.dflt).f.toNat h',m'),[],⟨by rfl,?_,?_⟩,⟨by simp only;omega,hstep⟩,by simp only;omega⟩
    ·simp
    ·simp[aA]
  ·have hkn:k=F.arcs.length:=by omega
   subst hkn
   have hro:=i2.ok
   refine gO ?_
   refine aAs 103 .fnd (by simp) ?_
   (conv=>whnf)
   refine cF (aDx F u v cu cv rows pi hF hu hv hro) [7,0,1,2,3,6,8,9] Tryz.call119 ?_
   rintro _ _ ⟨es,clk,pf,rfl,rfl,hran⟩
   have hran2:=hran
   obtain⟨hm,ord,rk,B,hol,hD,hB,hall⟩:=hran2
   refine gO ?_
   refine cF (aDM F u v cu cv rows pi es clk pf hF hu hv hm (fun y d hy=>⟨(hD.cost y d hy).1,Int.le_trans (hD.cost y d hy).2 hB⟩)) [7,0,1,2,3,6,8,10,9] Tryz.call120 ?_
   rintro _ _ ⟨rfl,rfl⟩
   refine gO ?_
   generalize hE:bJ (cW es pf) F.fin u.length v.length F.fin.length=E at*
   refine⟨[(4,some 7),(5,some 6),(6,some 8),(7,some 9),(8,some 10)],[(4,.box 101 [.i F.st,.i F.start,.sl 0 1 0 F.fin.length F.capF,.sl 1 5 0 F.arcs.length F.capA,.sl 2 1 0 u.length cu,.sl 3 1 0 v.length cv,.sl 5 1 0 rows.length rows.length,.mp 8]),(5,.arr true 22 .sli rows 0),(6,.pool 3 .int pi),(7,.pool 103 .fnd pf),(8,.map .trip .adr es clk)],9,.tup [.c (.ptr 4 0),.agg [.i E.1.a,.i E.1.b,.i E.1.c],.c (.i E.2),.c (.i 0)],⟨by rfl,trivial,by simp⟩,by simp,rows,pi,es,clk,pf,hran,?_,rfl⟩
   rw[hE]
theorem Ii (F:TF) (u v:List Int) (cu cv:Nat) (hl:F.fin.length<=9223372036854775807) (hsc:cG F u v=0):
  Ct Tryz.prog 36 [fV F,.c (.sl 2 1 0 u.length cu),.c (.sl 3 1 0 v.length cv)] [] (hpQ F u v) 4 (fun x s=> ∃A,qQ F u v (gX F) A/\x= .tup [.c (.i (bJ A F.fin u.length v.length F.fin.length).2),.c (.i 0)]/\s=⟨[],[],4⟩):=by
 refine ctW Tryz.tyOk 12 [] Tryz.func36 rfl (by simp) (by simp) (fr:= [(0,fV F),(1,.c (.sl 2 1 0 u.length cu)),(2,.c (.sl 3 1 0 v.length cv))]) rfl ?_
 refine gO ?_
 refine cF (Fa F u v cu cv hl hsc) [0,1,2,3] Tryz.call73 ?_
 rintro _ _ ⟨rows,pi,es,clk,pf,⟨hm,ord,rk,B,hol,hD,hB,hall⟩,rfl,rfl⟩
 refine gO ?_
 exact⟨[],[],4,.tup [.c (.i (bJ (cW es pf) F.fin u.length v.length F.fin.length).2),.c (.i 0)],⟨by rfl,trivial,trivial⟩,by simp,cW es pf,hD.least hall,rfl,rfl⟩
abbrev onF (F:TF):List SC:= [.i F.st,.i F.start,.sl 0 1 0 F.fin.length F.capF,.sl 1 5 0 F.arcs.length F.capA]
structure gG (m:List (Addr×List Int×Nat)) (rows:List Sli) (N:Nat) (L:Nat->List Int):Prop where
 len:rows.length=N
 hd: ∀j,j<N->Hd m (rows.getD j EK.sli.dflt)
 row: ∀j,j<N->aM m (rows.getD j EK.sli.dflt).a=L j
 dist: ∀s t b,s<N->t<N->s≠t->(rows.getD s EK.sli.dflt).a=some b->(rows.getD t EK.sli.dflt).a≠some b
section
variable {m m':List (Addr×List Int×Nat)} {rows:List Sli} {N:Nat} {L:Nat->List Int}
theorem pC {x:Sli} (h:Hd m x) (hk: ∀b,x.a=some b->lkA m' b=lkA m b):Hd m' x/\aM m' x.a=aM m x.a:=by
 cases hx:x.a with
 |none=>
  refine⟨?_,rfl⟩
  unfold Hd at h⊢
  rw[hx]at h⊢
  exact h
 |some b=>
  obtain⟨y,h1,h2,h3⟩:=h.some hx
  have e:=hk b hx
  exact⟨Hd.of_some hx (by rw[e];exact h1) h2 h3,rM e⟩
theorem gG.keep (h:gG m rows N L) (hk: ∀j b,j<N->(rows.getD j EK.sli.dflt).a=some b->lkA m' b=lkA m b):gG m' rows N L:=
 ⟨h.len,fun j hj=>(pC (h.hd j hj) fun b hb=>hk j b hj hb).1,fun j hj=>by rw[(pC (h.hd j hj) fun b hb=>hk j b hj hb).2];exact h.row j hj,h.dist⟩
theorem gG.app (h:gG m rows N L) {j:Nat} {n:Int} {h':Sli} (hj:j<N) (ha:App m (rows.getD j EK.sli.dflt) [n] m' h'):
  gG m' (rows.set j h') N (fun i=>if i=j then L j++[n]else L i):=by
 have hl:=h.len
 have hjr:j<rows.length:=by omega
 generalize hx:rows.getD j EK.sli.dflt=x at ha
 have hdj:=h.hd j hj
 have hrj:=h.row j hj
 rw[hx]at hdj hrj
 cases ha with
 |stay h=>cases h
 | @room a y sp h1 h2 h3=>
   obtain⟨y',g1,g2,g3⟩:=hdj.some h1
   rw[h2]at g1
   cases g1
   have hla:lkA (tA m a (y.1++[n],sp)) a=some (y.1++[n],sp):=by rw[fC,h2];simp
   have hlb: ∀b,b≠a->lkA (tA m a (y.1++[n],sp)) b=lkA m b:=by
    intro b hb
    rw[fC]
    simp only[hb,if_false]
    cases lkA m b<;>rfl
   have hoth: ∀s,s<N->s≠j-> ∀b,(rows.getD s EK.sli.dflt).a=some b->b≠a:=by
    intro s hs hsj b hb e
    subst e
    exact h.dist s j b hs hj hsj hb (by rw[hx];exact h1)
   refine⟨by rw[List.length_set];exact hl,?_,?_,?_⟩
   ·intro s hs
    rw[bV _ _ _ _ _ hjr]
    by_cases e:s=j
    ·rw[if_pos e]
     refine Hd.of_some rfl hla ?_ ?_
     ·simp[g2]
     ·simp only[List.length_append,List.length_cons,List.length_nil]
      simp only[List.length_cons,List.length_nil]at h3
      omega
    ·rw[if_neg e]
     exact(pC (h.hd s hs) fun b hb=>hlb b (hoth s hs e b hb)).1
   ·intro s hs
    rw[bV _ _ _ _ _ hjr]
    by_cases e:s=j
    ·rw[if_pos e,if_pos e,<-hrj,gQ hla,h1,gQ h2]
    ·rw[if_neg e,if_neg e,<-h.row s hs]
     exact(pC (h.hd s hs) fun b hb=>hlb b (hoth s hs e b hb)).2
   ·intro s t b hs ht hst hb hc
    rw[bV _ _ _ _ _ hjr]at hb hc
    by_cases es:s=j
    ·rw[if_pos es]at hb
     rw[if_neg (fun e=>hst (es.trans e.symm))]at hc
     simp only[Option.some.injEq]at hb
     subst hb
     exact hoth t ht (fun e=>hst (es.trans e.symm)) _ hc rfl
    ·rw[if_neg es]at hb
     by_cases et:t=j
     ·rw[if_pos et]at hc
      simp only[Option.some.injEq]at hc
      subst hc
      exact hoth s hs es _ hb rfl
     ·rw[if_neg et]at hc
      exact h.dist s t b hs ht hst hb hc
 | @fresh a sp h1 h2=>
   have hlb: ∀b,b≠a->lkA ((a,aM m x.a++[n],sp)::m) b=lkA m b:=fun b hb=>by simp only[lkA,if_neg (Ne.symm hb)]
   have hla:lkA ((a,aM m x.a++[n],sp)::m) a=some (aM m x.a++[n],sp):=by simp[lkA]
   have hoth: ∀s,s<N-> ∀b,(rows.getD s EK.sli.dflt).a=some b->b≠a:=by
    intro s hs b hb e
    subst e
    obtain⟨z,k1,_⟩:=(h.hd s hs).some hb
    rw[h1]at k1
    cases k1
   refine⟨by rw[List.length_set];exact hl,?_,?_,?_⟩
   ·intro s hs
    rw[bV _ _ _ _ _ hjr]
    by_cases e:s=j
    ·rw[if_pos e]
     refine Hd.of_some rfl hla ?_ ?_
     ·simp[hdj.len]
     ·simp[hdj.len]
    ·rw[if_neg e]
     exact(pC (h.hd s hs) fun b hb=>hlb b (hoth s hs b hb)).1
   ·intro s hs
    rw[bV _ _ _ _ _ hjr]
    by_cases e:s=j
    ·rw[if_pos e,if_pos e,<-hrj]
     exact gQ hla
    ·rw[if_neg e,if_neg e,<-h.row s hs]
     exact(pC (h.hd s hs) fun b hb=>hlb b (hoth s hs b hb)).2
   ·intro s t b hs ht hst hb hc
    rw[bV _ _ _ _ _ hjr]at hb hc
    by_cases es:s=j
    ·rw[if_pos es]at hb
     rw[if_neg (fun e=>hst (es.trans e.symm))]at hc
     simp only[Option.some.injEq]at hb
     exact hoth t ht b hc hb.symm
    ·rw[if_neg es]at hb
     by_cases et:t=j
     ·rw[if_pos et]at hc
      simp only[Option.some.injEq]at hc
      exact hoth s hs b hb hc.symm
     ·rw[if_neg et]at hc
      exact h.dist s t b hs ht hst hb hc
theorem gG.put (h:gG m rows N L) {j k:Nat} {n:Int} (hj:j<N) (hk:k<(L j).length):
  gG (mR m (rows.getD j EK.sli.dflt).a k n) rows N (fun i=>if i=j then(L j).set k n else L i)/\
  ∀b,(rows.getD j EK.sli.dflt).a≠some b->lkA (mR m (rows.getD j EK.sli.dflt).a k n) b=lkA m b:=by
 have hrj:=h.row j hj
 have hdj:=h.hd j hj
 cases hx:(rows.getD j EK.sli.dflt).a with
 |none=>
  rw[hx]at hrj
  rw[<-hrj]at hk
  exact absurd hk (by simp[aM])
 |some a=>
  obtain⟨y,g1,g2,g3⟩:=hdj.some hx
  have hy:y.1=L j:=by rw[<-hrj,hx,gQ g1]
  have e:mR m (some a) k n=tA m a (y.1.set k n,y.2):=by unfold mR;simp[g1]
  rw[e]
  have hla:lkA (tA m a (y.1.set k n,y.2)) a=some (y.1.set k n,y.2):=by rw[fC,g1];simp
  have hlb: ∀b,b≠a->lkA (tA m a (y.1.set k n,y.2)) b=lkA m b:=by
   intro b hb
   rw[fC]
   simp only[hb,if_false]
   cases lkA m b<;>rfl
  have hoth: ∀s,s<N->s≠j-> ∀b,(rows.getD s EK.sli.dflt).a=some b->b≠a:=by
   intro s hs hsj b hb e
   subst e
   exact h.dist s j b hs hj hsj hb hx
  refine⟨⟨h.len,fun s hs=>?_,fun s hs=>?_,h.dist⟩,fun b hb=>hlb b fun e=>hb (by rw[e])⟩
  ·by_cases e:s=j
   ·subst e
    refine Hd.of_some hx hla ?_ ?_
    ·show _=(y.1.set k n).length
     rw[List.length_set];exact g2
    ·show _<=(y.1.set k n).length+y.2
     rw[List.length_set];exact g3
   ·exact(pC (h.hd s hs) fun b hb=>hlb b (hoth s hs e b hb)).1
  ·by_cases e:s=j
   ·subst e
    rw[if_pos rfl,hx,gQ hla,hy]
   ·rw[if_neg e,<-h.row s hs]
    exact(pC (h.hd s hs) fun b hb=>hlb b (hoth s hs e b hb)).2
theorem gG.cong (h:gG m rows N L) {L':Nat->List Int} (hL: ∀j,j<N->L j=L' j):gG m rows N L':=⟨h.len,h.hd,fun j hj=>(h.row j hj).trans (hL j hj),h.dist⟩
end
def jL (T:Nat->Nat->Int) (n j:Nat):List Int:=(List.range n).map (T j)
theorem Il (T:Nat->Nat->Int) (n j:Nat):(jL T n j).length=n:=by simp[jL]
theorem aA6 (T:Nat->Nat->Int) {n j o:Nat} (h:o<n):(jL T n j).getD o 0=T j o:=by simp[jL,List.getD,h]
theorem Xr (T:Nat->Nat->Int) (n j o:Nat) (x:Int):(jL T n j).set o x=jL (up2 T j o x) n j:=by
 apply List.ext_getElem
 ·simp[jL]
 ·intro k h1 h2
  simp only[jL,List.getElem_set,List.getElem_map,List.getElem_range,up2]
  by_cases e:o=k
  ·subst e;simp
  ·rw[if_neg e,if_neg (fun c=>e c.2.symm)]
theorem Mp (T:Nat->Nat->Int) (n:Nat) {a j:Nat} (o:Nat) (x:Int) (h:j≠a):jL (up2 T a o x) n j=jL T n j:=by
 unfold jL
 apply List.map_congr_left
 intro k _
 unfold up2
 rw[if_neg (fun c=>h c.1)]
theorem gG.upd {m:List (Addr×List Int×Nat)} {rows:List Sli} {N n:Nat} {T:Nat->Nat->Int} (h:gG m rows N (jL T n)) {j k:Nat} {x:Int} (hj:j<N) (hk:k<n):
  gG (mR m (rows.getD j EK.sli.dflt).a k x) rows N (jL (up2 T j k x) n)/\ ∀b,(rows.getD j EK.sli.dflt).a≠some b->lkA (mR m (rows.getD j EK.sli.dflt).a k x) b=lkA m b:=by
 obtain⟨h1,h2⟩:=h.put (n:=x) hj (by rw[Il];exact hk)
 refine⟨h1.cong fun i hi=>?_,h2⟩
 by_cases e:i=j
 ·subst e;rw[if_pos rfl,Xr]
 ·rw[if_neg e,Mp T n k x e]
theorem pX {α:Type} (l:List α) (x d:α) (n:Nat):(l++[x]).getD n d=if n=l.length then x else l.getD n d:=by
 simp only[List.getD]
 by_cases h:n<l.length
 ·rw[if_neg (by omega),List.getElem?_append_left h]
 ·by_cases h2:n=l.length
  ·rw[if_pos h2,h2];simp
  ·rw[if_neg h2,List.getElem?_eq_none (by simp;omega),List.getElem?_eq_none (by omega)]
theorem gG.pushT {m m':List (Addr×List Int×Nat)} {rows:List Sli} {N:Nat} {L:Nat->List Int} {xs:List Int} {sp cap:Nat} {y:Sli} (h:gG m rows N L) (hf:Frz m xs sp xs.length cap m' y) (hc:cap<=xs.length+sp) (hx:xs≠ []) (hL:L N=xs):
  gG m' (rows++[y]) (N+1) L:=by
 cases hf with
 |nil h=>exact absurd h hx
 | @own a ha hb=>
   have hlen:=h.len
   have hl:lkA ((a,xs,sp)::m) a=some (xs,sp):=by simp[lkA]
   have hko: ∀b,b≠a->lkA ((a,xs,sp)::m) b=lkA m b:=fun b hb=>by simp only[lkA,if_neg (fun e=>hb (e.symm): ¬a=b)]
   have hna: ∀j,j<N->(rows.getD j EK.sli.dflt).a≠some a:=fun j hj e=>by
    obtain⟨y,g1,_⟩:=(h.hd j hj).some e
    rw[ha]at g1;cases g1
   have hkeep:=h.keep (m':=(a,xs,sp)::m) fun j b hj hb=>hko b fun e=>hna j hj (e▸hb)
   refine⟨by simp[hlen],fun j hj=>?_,fun j hj=>?_,fun s t b h1 h2 h3=>?_⟩
   ·rw[pX]
    by_cases e:j=rows.length
    ·rw[if_pos e];exact Hd.of_some rfl hl rfl hc
    ·rw[if_neg e];exact hkeep.hd j (by omega)
   ·rw[pX]
    by_cases e:j=rows.length
    ·rw[if_pos e,show j=N by omega,hL];exact gQ hl
    ·rw[if_neg e];exact hkeep.row j (by omega)
   ·rw[pX,pX]
    by_cases e:s=rows.length<;>by_cases e2:t=rows.length
    ·omega
    ·rw[if_pos e,if_neg e2]
     intro q
     cases q
     exact hna t (by omega)
    ·rw[if_neg e,if_pos e2]
     intro q1 q2
     cases q2
     exact hna s (by omega) q1
    ·rw[if_neg e,if_neg e2];exact h.dist s t b (by omega) (by omega) h3
theorem gG.at' {m:List (Addr×List Int×Nat)} {rows:List Sli} {n:Nat} {T:Nat->Nat->Int} (h:gG m rows n (jL T n)) {x:Int} (h0:0<=x) (h1:x<n):
  Hd m (rows.getD (0+x.toNat) EK.sli.dflt)/\(rows.getD (0+x.toNat) EK.sli.dflt).n=n/\(aM m (rows.getD (0+x.toNat) EK.sli.dflt).a).length=n/\ ∀y:Int,0<=y->y<n->(aM m (rows.getD (0+x.toNat) EK.sli.dflt).a).getD y.toNat EK.int.dflt=T x.toNat y.toNat:=by
 rw[Nat.zero_add]
 have hj:x.toNat<n:=by omega
 have h2:=h.hd x.toNat hj
 have h3:=h.row x.toNat hj
 have h4:=Il T n x.toNat
 have h5:=h2.len
 rw[h3,h4]at h5
 refine⟨h2,h5,by rw[h3,h4],fun y hy hy2=>?_⟩
 rw[h3]
 exact aA6 T (by omega)
def plL (a b:Int):Int:=if a= -1\/(b≠ -1/\b<a)then b else a
theorem zA (a b:Int):Ct Tryz.prog 112 [.i a,.i b] [] [] 0 (Is 0 (.i (plL a b))):=by
 refine ctW Tryz.tyOk 5 [] Tryz.func112 rfl (by simp) (by simp) (fr:= [(0,.i a),(1,.i b)]) rfl ?_
 refine gO ?_
 refine⟨fun h=>?_,fun h=>⟨fun h=>⟨fun h=>?_,fun h=>?_⟩,fun h=>?_⟩⟩
 all_goals refine aQ.is ?_
 all_goals simp only[eqV,eqA,eqC]
 all_goals simp[plL, *]
def TOk (T:Nat->Nat->Int) (n:Nat) (B:Int):Prop:= ∀a b,a<n->b<n-> -1<=T a b/\T a b<=B
def idT:Nat->Nat->Int:=fun a b=>if a=b then 0 else-1
theorem aBG (n i:Nat) (hi:i<n):(List.replicate n (-1:Int)).set i 0=jL idT n i:=by
 apply List.ext_getElem
 ·simp[jL]
 ·intro k h1 h2
  simp only[jL,List.getElem_set,List.getElem_map,List.getElem_range,idT,List.getElem_replicate]
theorem Yi {a b B:Int} (h1: -1<=a/\a<=B) (h2:0<=b/\b<=B): -1<=plL a b/\plL a b<=B:=by
 unfold plL
 split<;>omega
theorem Yh {a b:Int} (h:a≠ -1):plL a b<=a:=by
 unfold plL
 split<;>omega
theorem TOk.up {T:Nat->Nat->Int} {n:Nat} {B:Int} (h:TOk T n B) {j k:Nat} {x:Int} (hx: -1<=x/\x<=B):TOk (up2 T j k x) n B:=by
 intro a b ha hb
 unfold up2
 split
 ·exact hx
 ·exact h a b ha hb
theorem TOk.mono {T:Nat->Nat->Int} {n:Nat} {B C:Int} (h:TOk T n B) (hB:B<=C):TOk T n C:=fun a b ha hb=>⟨(h a b ha hb).1,Int.le_trans (h a b ha hb).2 hB⟩
theorem aCU (n:Nat):TOk idT n 1000000000:=by
 intro a b _ _
 unfold idT
 split<;>omega
def sA (F:TF):Nat->Nat->Nat->Int
 |0=>idT
 |k+1=>if(F.arcs.getD k aD).i=0 then up2 (sA F k) (F.arcs.getD k aD).f.toNat (F.arcs.getD k aD).t.toNat (plL (sA F k (F.arcs.getD k aD).f.toNat (F.arcs.getD k aD).t.toNat) (F.arcs.getD k aD).w)else sA F k
def sJ (T:Nat->Nat->Int) (k x:Nat):Nat->Nat->Nat->Int
 |0=>T
 |y+1=>if sJ T k x y x k≠ -1/\sJ T k x y k y≠ -1 then up2 (sJ T k x y) x y (plL (sJ T k x y x y) (sJ T k x y x k+sJ T k x y k y))else sJ T k x y
def sI (T:Nat->Nat->Int) (k n:Nat):Nat->Nat->Nat->Int
 |0=>T
 |x+1=>sJ (sI T k n x) k x n
def sK (T:Nat->Nat->Int) (n:Nat):Nat->Nat->Nat->Int
 |0=>T
 |k+1=>sI (sK T n k) k n n
def sZ (F:TF) (n:Nat):Nat->Nat->Int:=sK (sA F F.arcs.length) n n
def pw (k:Nat):Int:=1000000000*2^k
theorem Fp (k:Nat):pw (k+1)=2*pw k:=by
 unfold pw
 rw[Int.pow_succ]
 omega
theorem Yb: ∀ {j k:Nat},j<=k->pw j<=pw k/\0<=pw j
 |j,0,h=>by
  obtain rfl:j=0:=by omega
  exact⟨Int.le_refl _,by decide⟩
 |j,k+1,h=>by
  by_cases e:j=k+1
  ·subst e
   have:=(Yb (Nat.le_refl k)).2
   rw[Fp]
   exact⟨Int.le_refl _,by omega⟩
  ·have h1:=Yb (j:=j) (k:=k) (by omega)
   rw[Fp]
   exact⟨by omega,h1.2⟩
theorem aCh {k:Nat} (h:k<=30):0<=pw k/\pw k<=1100000000000000000:=by
 have h1:=Yb h
 have h2:pw 30<=1100000000000000000:=by decide
 omega
def TK (T:Nat->Nat->Int) (n k:Nat) (B:Int):Prop:=TOk T n (2*B)/\ ∀a,a<n->T a k<=B/\T k a<=B
theorem TOk.start {T:Nat->Nat->Int} {n k:Nat} {B:Int} (h:TOk T n B) (hk:k<n) (hB:0<=B):TK T n k B:=
 ⟨h.mono (by omega),fun a ha=>⟨(h a k ha hk).2,(h k a hk ha).2⟩⟩
theorem TK.up {T:Nat->Nat->Int} {n k:Nat} {B:Int} (h:TK T n k B) {a b:Nat} {x:Int} (hx: -1<=x/\x<=2*B) (h1:a=k\/b=k->x<=B):TK (up2 T a b x) n k B:=by
 refine⟨h.1.up hx,fun c hc=>⟨?_,?_⟩⟩
 ·unfold up2
  split
  ·rename_i e;exact h1 (.inr e.2.symm)
  ·exact(h.2 c hc).1
 ·unfold up2
  split
  ·rename_i e;exact h1 (.inl e.1.symm)
  ·exact(h.2 c hc).2
theorem Sy (F:TF) (n:Nat) (hst:F.st=n) (hn:1<=n/\n<=30) (hfl:F.fin.length=n) (hal:F.arcs.length<=100000) (ha: ∀a∈F.arcs,(0<=a.f/\a.f<n)/\(0<=a.t/\a.t<n)/\0<=a.w/\a.w<=1000000000):
  Ct Tryz.prog 110 [fV F] [] (hpF F) 2 (fun v s=> ∃rows m sp,gG m rows n (jL (sZ F n) n)/\TOk (sZ F n) n 2000000000000000000/\v= .c (.sl 2 1 0 n (n+sp))/\s=⟨[],[(2,.arr true 22 .sli rows sp),(3,.pool 3 .int m)],4⟩):=by
 refine ctW Tryz.tyOk 11 [12,13,29,30,31,60,61,65,66,70,71] Tryz.func110 rfl (by simp) (by simp) (fr:= [(0,fV F)]) rfl ?_
 refine gO ?_
 refine aJ (fun z:Nat×List Sli×List (Addr×List Int×Nat)×Nat=>⟨[(1,.c (.ptr 2 0)),(3,.c (.sl 3 1 0 z.2.1.length (z.2.1.length+z.2.2.2))),(12,.i F.st),(13,.i z.1)],hpF F++[(2,.box 25 (aA F)),(3,.arr true 22 .sli z.2.1 z.2.2.2),(4,.pool 3 .int z.2.2.1)],5⟩)
  (fun z=>z.1<=n/\gG z.2.2.1 z.2.1 z.1 (jL idT n)) (fun z=>n-z.1) (0,[],[],0) [(3,none),(4,none)] ⟨by rfl,?_,?_⟩ ⟨Nat.zero_le _,⟨rfl,fun j h=>absurd h (Nat.not_lt_zero _),fun j h=>absurd h (Nat.not_lt_zero _),fun j t b h=>absurd h (Nat.not_lt_zero _)⟩⟩ ?_
 ·simp
 ·simp[aA,cT]
 ·rintro⟨i,rows,m,sp⟩ ⟨hi,htab⟩
  simp only at hi htab⊢
  have hrl:=htab.len
  (conv=>whnf)
  refine aG (fun hi2=>?_) (fun hi2=>?_)
  ·refine gN ?_
   refine cF (iG (-1) F.st 1 (by omega) (by omega)) [5] Tryz.call111 ?_
   rintro _ _ ⟨rfl,rfl⟩
   have hst2:F.st.toNat=n:=by omega
   rw[hst2]
   refine gO ?_
   refine⟨?_,?_⟩
   ·simp
   ·intro m' y hfz
    have e0:0+(i:Int).toNat=i:=by omega
    have hxl:((List.replicate n (-1:Int)).set (0+(i:Int).toNat) 0).length=n:=by simp
    have hxr:jL idT n i=(List.replicate n (-1:Int)).set (0+(i:Int).toNat) 0:=by rw[e0];exact(aBG n i (by omega)).symm
    have hpu:=htab.pushT (xs:=(List.replicate n (-1:Int)).set (0+(i:Int).toNat) 0) (sp:=0) (cap:=n) (m':=m') (y:=y) (by rw[hxl];exact hfz) (by omega) (fun c=>by rw[c]at hxl;simp at hxl;omega) hxr
    refine gO ?_
    intro sp2
    refine gN ?_
    refine⟨(i+1,rows++[y],m',sp2),[(3,some 8)],⟨by rfl,?_,?_⟩,⟨by simp only;omega,hpu⟩,by simp only;omega⟩
    ·simp
    ·simp[aA,lOp.appL,sub]
  ·have e:i=n:=by omega
   rw[e]at htab hrl
   clear e hi hi2
   refine gO ?_
   refine aJ (fun z:Nat×List (Addr×List Int×Nat)×(Nat->Nat->Int)=>⟨[(1,.c (.ptr 2 0)),(3,.c (.sl 3 1 0 rows.length (rows.length+sp))),(29,.c (.sl 1 5 0 F.arcs.length F.capA)),(30,.i F.arcs.length),(31,.i z.1)],hpF F++[(2,.box 25 (aA F)),(3,.arr true 22 .sli rows sp),(4,.pool 3 .int z.2.1)],5⟩)
    (fun z=>z.1<=F.arcs.length/\gG z.2.1 rows n (jL z.2.2 n)/\TOk z.2.2 n 1000000000/\z.2.2=sA F z.1) (fun z=>F.arcs.length-z.1) (0,m,idT) [] ⟨by rfl,?_,?_⟩ ⟨Nat.zero_le _,htab,aCU n,rfl⟩ ?_
   ·simp
   ·simp[aA]
   ·clear htab m
    rintro⟨k,m,T⟩ ⟨hk,htab,hT,hTe⟩
    simp only at hk htab hT hTe⊢
    have hsA:sA F (k+1)=if(F.arcs.getD k aD).i=0 then up2 (sA F k) (F.arcs.getD k aD).f.toNat (F.arcs.getD k aD).t.toNat (plL (sA F k (F.arcs.getD k aD).f.toNat (F.arcs.getD k aD).t.toNat) (F.arcs.getD k aD).w)else sA F k:=rfl
    rw[<-hTe]at hsA
    (conv=>whnf)
    refine aG (fun hk2=>?_) (fun hk2=>?_)
    ·have hA:F.arcs.getD (0+(k:Int).toNat) EK.arc.dflt=F.arcs.getD k aD:=by rw[show 0+(k:Int).toNat=k by omega];rfl
     obtain⟨⟨a1,a2⟩,⟨a3,a4⟩,a5,a6⟩:=ha _ (aB F.arcs k aD (by omega))
     rw[<-hA]at a1 a2 a3 a4 a5 a6
     obtain⟨b1,b2,b3,b4⟩:=htab.at' a1 a2
     have b5:=b4 _ a3 a4
     have b6:=hT (F.arcs.getD (0+(k:Int).toNat) EK.arc.dflt).f.toNat (F.arcs.getD (0+(k:Int).toNat) EK.arc.dflt).t.toNat (by omega) (by omega)
     rw[<-b5]at b6
     have hup:=fun x=>(htab.upd (j:=0+(F.arcs.getD (0+(k:Int).toNat) EK.arc.dflt).f.toNat) (k:=(F.arcs.getD (0+(k:Int).toNat) EK.arc.dflt).t.toNat) (x:=x) (by omega) (by omega)).1
     have hpl:=Yi b6 ⟨a5,a6⟩
     refine gO ?_
     refine⟨fun h=>?_,fun h=>?_⟩
     ·try simp only[Nat.reduceAdd,Nat.reduceSub]
      refine cF (zA ((aM m (rows.getD (0+(F.arcs.getD (0+(k:Int).toNat) EK.arc.dflt).f.toNat) EK.sli.dflt).a).getD (F.arcs.getD (0+(k:Int).toNat) EK.arc.dflt).t.toNat EK.int.dflt) (F.arcs.getD (0+(k:Int).toNat) EK.arc.dflt).w) [] Tryz.call112 ?_
      rintro _ _ ⟨rfl,rfl⟩
      refine gO ?_
      refine⟨(k+1,_,up2 T (0+(F.arcs.getD (0+(k:Int).toNat) EK.arc.dflt).f.toNat) (F.arcs.getD (0+(k:Int).toNat) EK.arc.dflt).t.toNat (plL ((aM m (rows.getD (0+(F.arcs.getD (0+(k:Int).toNat) EK.arc.dflt).f.toNat) EK.sli.dflt).a).getD (F.arcs.getD (0+(k:Int).toNat) EK.arc.dflt).t.toNat EK.int.dflt) (F.arcs.getD (0+(k:Int).toNat) EK.arc.dflt).w)),[],⟨by rfl,?_,?_⟩,⟨by simp only;omega,hup _,hT.up hpl,?_⟩,by simp only;omega⟩
      ·simp
      ·simp[aA,mR]
      ·rw[hA]at h
       rw[hsA,if_pos h,b5,hA,Nat.zero_add]
     ·(conv=>whnf)
      refine⟨(k+1,m,T),[],⟨by rfl,?_,?_⟩,⟨by simp only;omega,htab,hT,?_⟩,by simp only;omega⟩
      ·simp
      ·simp[aA]
      ·rw[hA]at h
       rw[hsA,if_neg h]
    ·have e:k=F.arcs.length:=by omega
     subst e
     have hT2:TOk T n (pw 0):=hT
     obtain⟨T0,hT0⟩: ∃T0,T0=sA F F.arcs.length:=⟨_,rfl⟩
     replace hTe:T=T0:=hTe.trans hT0.symm
     clear hT ha hal hsA
     refine gO ?_
     refine aJ (fun z:Nat×List (Addr×List Int×Nat)×(Nat->Nat->Int)=>⟨[(1,.c (.ptr 2 0)),(3,.c (.sl 3 1 0 rows.length (rows.length+sp))),(60,.i rows.length),(61,.i z.1)],hpF F++[(2,.box 25 (aA F)),(3,.arr true 22 .sli rows sp),(4,.pool 3 .int z.2.1)],5⟩)
      (fun z=>z.1<=n/\gG z.2.1 rows n (jL z.2.2 n)/\TOk z.2.2 n (pw z.1)/\z.2.2=sK T0 n z.1) (fun z=>n-z.1) (0,m,T) [] ⟨by rfl,?_,?_⟩ ⟨Nat.zero_le _,htab,hT2,hTe⟩ ?_
     ·simp
     ·simp[aA]
     ·clear htab hT2 hTe m T
      rintro⟨k,m,T⟩ ⟨hk,htab,hT,hTk⟩
      simp only at hk htab hT hTk⊢
      (conv=>whnf)
      refine aG (fun hk2=>?_) (fun hk2=>?_)
      ·have hP:=aCh (k:=k) (by omega)
       have hPs:=Fp k
       have hTK:TK T n k (pw k):=hT.start (by omega) hP.1
       clear hT
       refine gO ?_
       refine aJ (fun z:Nat×List (Addr×List Int×Nat)×(Nat->Nat->Int)=>⟨[(1,.c (.ptr 2 0)),(3,.c (.sl 3 1 0 rows.length (rows.length+sp))),(60,.i rows.length),(61,.i k),(8,.i k),(65,.i rows.length),(66,.i z.1)],hpF F++[(2,.box 25 (aA F)),(3,.arr true 22 .sli rows sp),(4,.pool 3 .int z.2.1)],5⟩)
        (fun z=>z.1<=n/\gG z.2.1 rows n (jL z.2.2 n)/\TK z.2.2 n k (pw k)/\z.2.2=sI (sK T0 n k) k n z.1) (fun z=>n-z.1) (0,m,T) [] ⟨by rfl,?_,?_⟩ ⟨Nat.zero_le _,htab,hTK,hTk⟩ ?_
       ·simp
       ·simp[aA]
       ·clear htab hTK hTk m T
        rintro⟨x,m,T⟩ ⟨hx,htab,hT,hTi⟩
        simp only at hx htab hT hTi⊢
        (conv=>whnf)
        refine aG (fun hx2=>?_) (fun hx2=>?_)
        ·refine gO ?_
         refine aJ (fun z:Nat×List (Addr×List Int×Nat)×(Nat->Nat->Int)=>⟨[(1,.c (.ptr 2 0)),(3,.c (.sl 3 1 0 rows.length (rows.length+sp))),(60,.i rows.length),(61,.i k),(8,.i k),(65,.i rows.length),(66,.i x),(9,.i x),(70,.i rows.length),(71,.i z.1)],hpF F++[(2,.box 25 (aA F)),(3,.arr true 22 .sli rows sp),(4,.pool 3 .int z.2.1)],5⟩)
          (fun z=>z.1<=n/\gG z.2.1 rows n (jL z.2.2 n)/\TK z.2.2 n k (pw k)/\z.2.2=sJ (sI (sK T0 n k) k n x) k x z.1) (fun z=>n-z.1) (0,m,T) [] ⟨by rfl,?_,?_⟩ ⟨Nat.zero_le _,htab,hT,hTi⟩ ?_
         ·simp
         ·simp[aA]
         ·clear htab hT hTi m T
          rintro⟨y,m,T⟩ ⟨hy,htab,hT,hTj⟩
          simp only at hy htab hT hTj⊢
          have hsJ:sJ (sI (sK T0 n k) k n x) k x (y+1)=if T x k≠ -1/\T k y≠ -1 then up2 T x y (plL (T x y) (T x k+T k y))else T:=by rw[hTj];rfl
          (conv=>whnf)
          refine aG (fun hy2=>?_) (fun hy2=>?_)
          ·obtain⟨b1,b2,b3,b4⟩:=htab.at' (x:=(x:Int)) (by omega) (by omega)
           obtain⟨c1,c2,c3,c4⟩:=htab.at' (x:=(k:Int)) (by omega) (by omega)
           have v1:(aM m (rows.getD (0+(x:Int).toNat) EK.sli.dflt).a).getD (k:Int).toNat EK.int.dflt=T x k:=b4 (k:Int) (by omega) (by omega)
           have v2:(aM m (rows.getD (0+(x:Int).toNat) EK.sli.dflt).a).getD (y:Int).toNat EK.int.dflt=T x y:=b4 (y:Int) (by omega) (by omega)
           have v3:(aM m (rows.getD (0+(k:Int).toNat) EK.sli.dflt).a).getD (y:Int).toNat EK.int.dflt=T k y:=c4 (y:Int) (by omega) (by omega)
           have w1:=hT.1 x k (by omega) (by omega)
           have w2:=hT.1 x y (by omega) (by omega)
           have w3:=hT.1 k y (by omega) (by omega)
           have w4:=(hT.2 x (by omega)).1
           have w5:=(hT.2 y (by omega)).2
           have hup:=fun q=>(htab.upd (j:=0+(x:Int).toNat) (k:=(y:Int).toNat) (x:=q) (by omega) (by omega)).1
           refine gO ?_
           refine⟨fun h=>⟨fun h=>?_,fun h=>?_⟩,fun h=>?_⟩
           ·rename_i hq
            have u1:T x k≠ -1:=by rw[<-v1];exact hq
            have u2:T k y≠ -1:=by rw[<-v3];exact h
            have hpl:(-1<=plL ((aM m (rows.getD (0+(x:Int).toNat) EK.sli.dflt).a).getD (y:Int).toNat EK.int.dflt) ((aM m (rows.getD (0+(x:Int).toNat) EK.sli.dflt).a).getD (k:Int).toNat EK.int.dflt+(aM m (rows.getD (0+(k:Int).toNat) EK.sli.dflt).a).getD (y:Int).toNat EK.int.dflt)/\plL ((aM m (rows.getD (0+(x:Int).toNat) EK.sli.dflt).a).getD (y:Int).toNat EK.int.dflt) ((aM m (rows.getD (0+(x:Int).toNat) EK.sli.dflt).a).getD (k:Int).toNat EK.int.dflt+(aM m (rows.getD (0+(k:Int).toNat) EK.sli.dflt).a).getD (y:Int).toNat EK.int.dflt)<=2*pw k)/\(0+(x:Int).toNat=k\/(y:Int).toNat=k->plL ((aM m (rows.getD (0+(x:Int).toNat) EK.sli.dflt).a).getD (y:Int).toNat EK.int.dflt) ((aM m (rows.getD (0+(x:Int).toNat) EK.sli.dflt).a).getD (k:Int).toNat EK.int.dflt+(aM m (rows.getD (0+(k:Int).toNat) EK.sli.dflt).a).getD (y:Int).toNat EK.int.dflt)<=pw k):=by
             rw[v1,v2,v3]
             refine⟨Yi w2 (by omega),fun c=>?_⟩
             rcases c with c|c
             ·have ex:x=k:=by omega
              have:=Yh (b:=T x k+T k y) (show T x y≠ -1 by rw[ex];exact u2)
              rw[ex]at this⊢
              omega
             ·have ey:y=k:=by omega
              have:=Yh (b:=T x k+T k y) (show T x y≠ -1 by rw[ey];exact u1)
              rw[ey]at this⊢
              omega
            (conv=>whnf)
            try simp only[Nat.reduceAdd,Nat.reduceSub]
            refine cF (zA ((aM m (rows.getD (0+(x:Int).toNat) EK.sli.dflt).a).getD (y:Int).toNat EK.int.dflt) ((aM m (rows.getD (0+(x:Int).toNat) EK.sli.dflt).a).getD (k:Int).toNat EK.int.dflt+(aM m (rows.getD (0+(k:Int).toNat) EK.sli.dflt).a).getD (y:Int).toNat EK.int.dflt)) [] Tryz.call112 ?_
            rintro _ _ ⟨rfl,rfl⟩
            refine gO ?_
            refine⟨(y+1,_,up2 T (0+(x:Int).toNat) (y:Int).toNat (plL ((aM m (rows.getD (0+(x:Int).toNat) EK.sli.dflt).a).getD (y:Int).toNat EK.int.dflt) ((aM m (rows.getD (0+(x:Int).toNat) EK.sli.dflt).a).getD (k:Int).toNat EK.int.dflt+(aM m (rows.getD (0+(k:Int).toNat) EK.sli.dflt).a).getD (y:Int).toNat EK.int.dflt))),[],⟨by rfl,?_,?_⟩,⟨by simp only;omega,hup _,hT.up hpl.1 hpl.2,?_⟩,by simp only;omega⟩
            ·simp
            ·simp[aA,mR]
            ·rw[hsJ,if_pos ⟨u1,u2⟩,v1,v2,v3,Nat.zero_add]
             rfl
           ·refine⟨(y+1,m,T),[],⟨by rfl,?_,?_⟩,⟨by simp only;omega,htab,hT,?_⟩,by simp only;omega⟩
            ·simp
            ·simp[aA]
            ·rw[hsJ,if_neg (fun c=>c.2 (by rw[<-v3];exact h))]
           ·(conv=>whnf)
            refine⟨(y+1,m,T),[],⟨by rfl,?_,?_⟩,⟨by simp only;omega,htab,hT,?_⟩,by simp only;omega⟩
            ·simp
            ·simp[aA]
            ·rw[hsJ,if_neg (fun c=>c.1 (by rw[<-v1];exact h))]
          ·have e:y=n:=by omega
           refine gO ?_
           refine⟨(x+1,m,T),[],⟨by rfl,?_,?_⟩,⟨by simp only;omega,htab,hT,by rw[hTj,e];rfl⟩,by simp only;omega⟩
           ·simp
           ·simp[aA]
        ·have e:x=n:=by omega
         have hT2:TOk T n (pw (k+1)):=by rw[hPs];exact hT.1
         refine gO ?_
         refine⟨(k+1,m,T),[],⟨by rfl,?_,?_⟩,⟨by simp only;omega,htab,hT2,by rw[hTi,e];rfl⟩,by simp only;omega⟩
         ·simp
         ·simp[aA]
      ·have e:k=n:=by omega
       have hP:=(aCh (k:=k) (by omega)).2
       have hTs:T=sZ F n:=by rw[hTk,e,hT0];rfl
       refine gO ?_
       refine⟨[(2,some 3),(3,some 4)],[(2,.arr true 22 .sli rows sp),(3,.pool 3 .int m)],4,.c (.sl 2 1 0 n (n+sp)),⟨by rfl,trivial,by simp⟩,by simp[hrl],rows,m,sp,by rw[<-hTs];exact htab,by rw[<-hTs];exact hT.mono (by omega),rfl,rfl⟩
theorem oC (xs:List Arc) (cap sp a b n:Nat) (hab:a+n<=b) (hb:b+n<=xs.length) (hl:xs.length<=1000000):Ct Tryz.prog 187 [.c (.sl 0 5 0 xs.length cap),.i a,.i b,.i n,.c (.fn 104 [])] [] [(0,.arr true 55 .arc xs sp)] 1
  (fun v s=> ∃ys,v= .u/\s=⟨[],[(0,.arr true 55 .arc ys sp)],1⟩/\Mv aD a (b+n) xs ys/\Bq aD a b n xs ys):=by
 refine ctW Tryz.tyOk 11 [] Tryz.func187 rfl (by simp) (by simp) (fr:= [(0,.c (.sl 0 5 0 xs.length cap)),(1,.i a),(2,.i b),(3,.i n),(4,.c (.fn 104 []))]) rfl ?_
 refine gO ?_
 refine aJ (fun y:Nat×List Arc=>⟨[(0,.c (.sl 0 5 0 xs.length cap)),(1,.i a),(2,.i b),(3,.i n),(10,.i y.1)],[(0,.arr true 55 .arc y.2 sp)],1⟩)
  (fun y=>y.1<=n/\Mv aD a (b+n) xs y.2/\Bq aD a b y.1 xs y.2) (fun y=>n-y.1) (0,xs) [] ⟨by rfl,?_,?_⟩ ⟨by omega,Mv.refl _ _ _,Bq.zero _ _ _⟩ ?_
 ·simp
 ·simp
 ·rintro⟨k,ys⟩ ⟨hk,hm,hs⟩
  simp only at hk hm hs⊢
  have hyl:=hm.len
  have e1:((a:Int)+k).toNat=a+k:=by omega
  have e2:((b:Int)+k).toNat=b+k:=by omega
  refine gO ?_
  refine⟨fun h=>?_,fun h=>?_⟩
  ·refine⟨(k+1,gK aD ys (a+k) (b+k)),[],⟨by rfl,?_,?_⟩,⟨by simp only;omega,hm.trans (sU (by omega) (by omega) (by omega)),hs.step hyl (by omega) hab hb⟩,by simp only;omega⟩
   ·simp
   ·simp[gK,e1,e2,EK.dflt]
  ·have e:k=n:=by omega
   subst e
   (conv=>whnf)
   exact⟨[],[(0,.arr true 55 .arc ys sp)],1,.u,⟨by rfl,trivial,by simp⟩,by simp,ys,rfl,rfl,hm,hs⟩
theorem Xs (xs:List Arc) (cap sp a m b:Nat) (ham:a<m) (hmb:m<b) (hb:b<=xs.length) (hl:xs.length<=1000000):Ct Tryz.prog 172 [.c (.sl 0 5 0 xs.length cap),.i a,.i m,.i b,.c (.fn 104 [])] [] [(0,.arr true 55 .arc xs sp)] 1
  (fun v s=> ∃ys,v= .u/\s=⟨[],[(0,.arr true 55 .arc ys sp)],1⟩/\Mv aD a b xs ys/\cN aD a m b xs ys):=by
 refine ctW Tryz.tyOk 12 [] Tryz.func172 rfl (by simp) (by simp) (fr:= [(0,.c (.sl 0 5 0 xs.length cap)),(1,.i a),(2,.i m),(3,.i b),(4,.c (.fn 104 []))]) rfl ?_
 refine gO ?_
 refine aJ (fun y:Nat×Nat×List Arc=>⟨[(0,.c (.sl 0 5 0 xs.length cap)),(1,.i a),(2,.i m),(3,.i b),(4,.c (.fn 104 [])),(10,.i y.1),(11,.i y.2.1)],[(0,.arr true 55 .arc y.2.2 sp)],1⟩)
  (fun y=>0<y.1/\0<y.2.1/\y.1<=m-a/\y.2.1<=b-m/\Mv aD a b xs y.2.2/\ ∀us,cN aD (m-y.1) m (m+y.2.1) y.2.2 us->cN aD a m b xs us) (fun y=>y.1+y.2.1) (m-a,b-m,xs) [] ⟨by rfl,?_,?_⟩ ⟨by simp only;omega,by simp only;omega,Nat.le_refl _,Nat.le_refl _,Mv.refl _ _ _,?_⟩ ?_
 ·simp
  omega
 ·simp
 ·intro us h
  have e1:m-(m-a)=a:=by omega
  have e2:m+(b-m)=b:=by omega
  simp only[e1,e2]at h
  exact h
 ·rintro⟨i,j,ys⟩ ⟨hi,hj,him,hjm,hm,hr⟩
  simp only at hi hj him hjm hm hr⊢
  have hyl:=hm.len
  have ec1:((m:Int)-i)=((m-i:Nat):Int):=by omega
  have ec2:((m:Int)+j-i)=((m+j-i:Nat):Int):=by omega
  have ec3:i>j->((i:Int)-j)=((i-j:Nat):Int):=by omega
  have ec4:i<j->((j:Int)-i)=((j-i:Nat):Int):=by omega
  refine gO ?_
  refine⟨fun h=>⟨fun h=>?_,fun h=>?_⟩,fun h=>?_⟩
  ·rw[ec1]
   refine aO (oC ys cap sp (m-i) m j (by omega) (by omega) (by omega)) [0] Tryz.call187 rfl (by simp[hyl]) (by simp[hyl]) (by simp) ?_
   rintro _ _ ⟨zs,rfl,rfl,hm2,hs2⟩
   have ec:=ec3 (by omega)
   refine gO ?_
   rw[ec]
   (conv=>whnf)
   refine⟨(i-j,j,zs),[],⟨by rfl,?_,?_⟩,⟨by simp only;omega,hj,by simp only;omega,hjm,hm.trans (hm2.wide (by omega) (by omega)),cN.left hr (by omega) (by omega) hs2⟩,by simp only;omega⟩
   ·simp
   ·simp
  ·rw[ec1,ec2]
   refine aO (oC ys cap sp (m-i) (m+j-i) i (by omega) (by omega) (by omega)) [0] Tryz.call187 rfl (by simp[hyl]) (by simp[hyl]) (by simp) ?_
   rintro _ _ ⟨zs,rfl,rfl,hm2,hs2⟩
   have ec:=ec4 (by omega)
   refine gO ?_
   rw[ec]
   (conv=>whnf)
   refine⟨(i,j-i,zs),[],⟨by rfl,?_,?_⟩,⟨hi,by simp only;omega,him,by simp only;omega,hm.trans (hm2.wide (by omega) (by omega)),cN.right hr (by omega) (by omega) hs2⟩,by simp only;omega⟩
   ·simp
   ·simp
  ·have e:i=j:=by omega
   subst e
   (conv=>whnf)
   rw[ec1]
   refine aO (oC ys cap sp (m-i) m i (by omega) (by omega) (by omega)) [0] Tryz.call187 rfl (by simp[hyl]) (by simp[hyl]) (by simp) ?_
   rintro _ _ ⟨zs,rfl,rfl,hm2,hs2⟩
   refine gO ?_
   exact⟨[],[(0,.arr true 55 .arc zs sp)],1,.u,⟨by rfl,trivial,by simp⟩,by simp,zs,rfl,rfl,hm.trans (hm2.wide (by omega) (by omega)),hr zs (cN.last (by omega) hs2)⟩
theorem pW (a b:Arc):Ct Tryz.prog 104 [dK a,dK b] [] [] 0 (Is 0 (.i (Kw a b))):=by
 refine ctW Tryz.tyOk 5 [] Tryz.func104 rfl (by simp) (by simp) (fr:= [(0,dK a),(1,dK b)]) rfl ?_
 refine gO ?_
 refine cF (Fy a b) [] Tryz.call91 ?_
 rintro _ _ ⟨rfl,rfl⟩
 refine gO ?_
 refine cF (kB a.w b.w) [] Tryz.call106 ?_
 rintro _ _ ⟨rfl,rfl⟩
 refine gO ?_
 refine cF (aDC [iW a b,jB a.w b.w] 2 (by simp)) [2] Tryz.call105 ?_
 rintro _ _ ⟨rfl,rfl⟩
 refine gO ?_
 refine aQ.is ?_
 simp only[eqV,eqA,eqC,Kw]
theorem Cn (a b:Arc):Ct Tryz.prog 108 [dK a,dK b] [] [] 0 (Is 0 (.b (jE a b))):=by
 refine ctW Tryz.tyOk 5 [] Tryz.func108 rfl (by simp) (by simp) (fr:= [(0,dK a),(1,dK b)]) rfl ?_
 refine gO ?_
 refine cF (Fy a b) [] Tryz.call91 ?_
 rintro _ _ ⟨rfl,rfl⟩
 refine gO ?_
 refine aQ.is ?_
 simp only[eqV,eqA,eqC,jE]
 rfl
theorem wW (xs:List Arc) (cap sp a b:Nat) (hab:a<=b) (hb:b<=xs.length) (hl:xs.length<=1000000):Ct Tryz.prog 153 [.c (.sl 0 5 0 xs.length cap),.i a,.i b,.c (.fn 104 [])] [] [(0,.arr true 55 .arc xs sp)] 1
  (fun v s=> ∃ys,v= .u/\s=⟨[],[(0,.arr true 55 .arc ys sp)],1⟩/\Mv aD a b xs ys/\aS aD ltW a b ys):=by
 refine ctW Tryz.tyOk 10 [] Tryz.func153 rfl (by simp) (by simp) (fr:= [(0,.c (.sl 0 5 0 xs.length cap)),(1,.i a),(2,.i b),(3,.c (.fn 104 []))]) rfl ?_
 refine gO ?_
 refine aJ (fun y:Nat×List Arc=>⟨[(0,.c (.sl 0 5 0 xs.length cap)),(1,.i a),(2,.i b),(3,.c (.fn 104 [])),(8,.i y.1)],[(0,.arr true 55 .arc y.2 sp)],1⟩)
  (fun y=>a+1<=y.1/\y.1<=b+1/\Mv aD a b xs y.2/\aS aD ltW a y.1 y.2) (fun y=>b+1-y.1) (a+1,xs) [] ⟨by rfl,?_,?_⟩ ⟨Nat.le_refl _,by simp only;omega,Mv.refl _ _ _,aS.one (Nat.le_refl _)⟩ ?_
 ·simp
 ·simp
 ·rintro⟨i,ys⟩ ⟨hi,hib,hm,hs⟩
  simp only at hi hib hm hs⊢
  have hyl:=hm.len
  refine gO ?_
  refine⟨fun h=>?_,fun h=>?_⟩
  ·refine aJ (fun y:Nat×List Arc=>⟨[(0,.c (.sl 0 5 0 xs.length cap)),(1,.i a),(2,.i b),(3,.c (.fn 104 [])),(8,.i i),(9,.i y.1)],[(0,.arr true 55 .arc y.2 sp)],1⟩)
    (fun y=>a<=y.1/\y.1<=i/\Mv aD a b xs y.2/\uO aD ltW a i y.1 y.2) (fun y=>y.1) (i,ys) [] ⟨by rfl,?_,?_⟩ ⟨by simp only;omega,Nat.le_refl _,hm,uO.start hs⟩ ?_
   ·simp
   ·simp
   ·rintro⟨j,zs⟩ ⟨hj,hji,hm2,hs2⟩
    simp only at hj hji hm2 hs2⊢
    have hzl:=hm2.len
    refine gO ?_
    refine⟨fun h=>?_,fun h=>?_⟩
    ·have e0:0+(j:Int).toNat=j:=by omega
     have e1:0+((j:Int)-1).toNat=j-1:=by omega
     have e2:((j:Int)-1)=((j-1:Nat):Int):=by omega
     have ecm:ltW (zs.getD j aD) (zs.getD (j-1) aD)=decide (Kw (zs.getD (0+(j:Int).toNat) EK.arc.dflt) (zs.getD (0+((j:Int)-1).toNat) EK.arc.dflt)<0):=by rw[e0,e1];rfl
     refine cF (pW (zs.getD (0+(j:Int).toNat) EK.arc.dflt) (zs.getD (0+((j:Int)-1).toNat) EK.arc.dflt)) [] Tryz.call104 ?_
     rintro _ _ ⟨rfl,rfl⟩
     refine gO ?_
     refine⟨fun h=>?_,fun h=>?_⟩
     ·rw[decide_eq_true (by assumption)]at ecm
      (conv=>whnf)
      refine⟨(j-1,gK aD zs j (j-1)),[],⟨by rfl,?_,?_⟩,⟨by simp only;omega,by simp only;omega,hm2.trans (sU (by omega) (by omega) (by omega)),hs2.step kN (by omega) hji (by omega) ecm⟩,by simp only;omega⟩
      ·simp[e2]
      ·simp[gK,e0,e1,e2,EK.dflt]
       done
     ·rw[decide_eq_false (by assumption)]at ecm
      (conv=>whnf)
      refine⟨(i+1,zs),[],⟨by rfl,?_,?_⟩,⟨by simp only;omega,by simp only;omega,hm2,hs2.done kN hji (.inr ecm)⟩,by simp only;omega⟩
      ·simp
      ·simp
    ·(conv=>whnf)
     refine⟨(i+1,zs),[],⟨by rfl,?_,?_⟩,⟨by simp only;omega,by simp only;omega,hm2,hs2.done kN hji (.inl (by omega))⟩,by simp only;omega⟩
     ·simp
     ·simp
  ·(conv=>whnf)
   exact⟨[],[(0,.arr true 55 .arc ys sp)],1,.u,⟨by rfl,trivial,by simp⟩,by simp,ys,rfl,rfl,hm,hs.less (by omega)⟩
theorem aCz (xs:List Arc) (cap sp a m b:Nat) (hm:m=a+1) (hmb:m<b) (hb:b<=xs.length) (hl:xs.length<=1000000) (hs:aS aD ltW m b xs):Ct Tryz.prog 154 [.c (.sl 0 5 0 xs.length cap),.i a,.i m,.i b,.c (.fn 104 [])] [] [(0,.arr true 55 .arc xs sp)] 1
  (fun v s=> ∃ys,v= .u/\s=⟨[],[(0,.arr true 55 .arc ys sp)],1⟩/\Mv aD a b xs ys/\aS aD ltW a b ys):=by
 subst hm
 refine ctW Tryz.tyOk 25 [] Tryz.func154 rfl (by simp) (by simp) (fr:= [(0,.c (.sl 0 5 0 xs.length cap)),(1,.i a),(2,.i (a+1:Nat)),(3,.i b),(4,.c (.fn 104 []))]) rfl ?_
 refine gO fun h=>?_
 refine aJ (fun y:Nat×Nat=>⟨[(0,.c (.sl 0 5 0 xs.length cap)),(1,.i a),(2,.i (a+1:Nat)),(3,.i b),(4,.c (.fn 104 [])),(10,.i y.1),(11,.i y.2)],[(0,.arr true 55 .arc xs sp)],1⟩)
  (fun y=>Cb aD ltW a b y.1 y.2 xs) (fun y=>y.2-y.1) (a+1,b) [] ⟨by rfl,?_,?_⟩ (Cb.start (by omega)) ?_
 ·simp
 ·simp
 ·rintro⟨i,j⟩ hi
  have hil:=hi.l
  have him:=hi.ij
  have hih:=hi.h
  simp only at hil him hih⊢
  have e0:0+(((i:Int)+j) / 2).toNat=(i+j) / 2:=by omega
  have e1:0+(a:Int).toNat=a:=by omega
  have e2:((i:Int)+j) / 2=((i+j) / 2:Nat):=by omega
  have e3:((i:Int)+j) / 2+1=((i+j) / 2+1:Nat):=by omega
  refine gO ?_
  refine⟨fun h=>?_,fun h=>?_⟩
  ·have ecm:ltW (xs.getD ((i+j) / 2) aD) (xs.getD a aD)=decide (Kw (xs.getD (0+(((i:Int)+j) / 2).toNat) EK.arc.dflt) (xs.getD (0+(a:Int).toNat) EK.arc.dflt)<0):=by rw[e0,e1];rfl
   refine cF (pW (xs.getD (0+(((i:Int)+j) / 2).toNat) EK.arc.dflt) (xs.getD (0+(a:Int).toNat) EK.arc.dflt)) [] Tryz.call104 ?_
   rintro _ _ ⟨rfl,rfl⟩
   refine gO ?_
   refine⟨fun h=>?_,fun h=>?_⟩
   ·rw[decide_eq_true (by assumption)]at ecm
    (conv=>whnf)
    refine⟨((i+j) / 2+1,j),[],⟨by rfl,?_,?_⟩,hi.up kN hs (by omega) ecm,by simp only;omega⟩
    ·simp
    ·simp
   ·rw[decide_eq_false (by assumption)]at ecm
    (conv=>whnf)
    refine⟨(i,(i+j) / 2),[],⟨by rfl,?_,?_⟩,hi.down kN hs (by omega) ecm,by simp only;omega⟩
    ·simp
    ·simp
  ·have e:i=j:=by omega
   subst e
   (conv=>whnf)
   refine aJ (fun y:Nat×List Arc=>⟨[(0,.c (.sl 0 5 0 xs.length cap)),(1,.i a),(2,.i (a+1:Nat)),(3,.i b),(4,.c (.fn 104 [])),(10,.i i),(13,.i y.1)],[(0,.arr true 55 .arc y.2 sp)],1⟩)
    (fun y=>a<=y.1/\y.1+1<=i/\Mv aD a b xs y.2/\cN aD a (a+1) (y.1+1) xs y.2) (fun y=>i-y.1) (a,xs) [] ⟨by rfl,?_,?_⟩ ⟨Nat.le_refl _,hil,Mv.refl _ _ _,cN.none (.inr rfl)⟩ ?_
   ·simp
   ·simp
   ·rintro⟨k,ys⟩ ⟨hk,hki,hmv,hr⟩
    simp only at hk hki hmv hr⊢
    have hyl:=hmv.len
    have f0:0+((k:Int)+1).toNat=k+1:=by omega
    have f1:0+(k:Int).toNat=k:=by omega
    refine gO ?_
    refine⟨fun h=>?_,fun h=>?_⟩
    ·refine⟨(k+1,gK aD ys k (k+1)),[],⟨by rfl,?_,?_⟩,⟨by simp only;omega,by simp only;omega,hmv.trans (sU (by omega) (by omega) (by omega)),hr.fwd hyl hk (by omega)⟩,by simp only;omega⟩
     ·simp
     ·simp[gK,f0,f1,EK.dflt]
    ·(conv=>whnf)
     have e:i=k+1:=by omega
     subst e
     exact⟨[],[(0,.arr true 55 .arc ys sp)],1,.u,⟨by rfl,trivial,by simp⟩,by simp,ys,rfl,rfl,hmv,Uw kN hs hil hih hi.lo hi.hi hr⟩
theorem aCy (xs:List Arc) (cap sp a m b:Nat) (ham:a+1<m) (hbm:b=m+1) (hb:b<=xs.length) (hl:xs.length<=1000000) (hs:aS aD ltW a m xs):Ct Tryz.prog 154 [.c (.sl 0 5 0 xs.length cap),.i a,.i m,.i b,.c (.fn 104 [])] [] [(0,.arr true 55 .arc xs sp)] 1
  (fun v s=> ∃ys,v= .u/\s=⟨[],[(0,.arr true 55 .arc ys sp)],1⟩/\Mv aD a b xs ys/\aS aD ltW a b ys):=by
 subst hbm
 refine ctW Tryz.tyOk 25 [] Tryz.func154 rfl (by simp) (by simp) (fr:= [(0,.c (.sl 0 5 0 xs.length cap)),(1,.i a),(2,.i m),(3,.i (m+1:Nat)),(4,.c (.fn 104 []))]) rfl ?_
 refine gO ?_
 intro h h
 refine aJ (fun y:Nat×Nat=>⟨[(0,.c (.sl 0 5 0 xs.length cap)),(1,.i a),(2,.i m),(3,.i (m+1:Nat)),(4,.c (.fn 104 [])),(14,.i y.1),(15,.i y.2)],[(0,.arr true 55 .arc xs sp)],1⟩)
  (fun y=>Ca aD ltW a m y.1 y.2 xs) (fun y=>y.2-y.1) (a,m) [] ⟨by rfl,?_,?_⟩ (Ca.start (by omega)) ?_
 ·simp
 ·simp
 ·rintro⟨i,j⟩ hi
  have hil:=hi.l
  have him:=hi.ij
  have hih:=hi.h
  simp only at hil him hih⊢
  have e0:0+(((i:Int)+j) / 2).toNat=(i+j) / 2:=by omega
  have e1:0+(m:Int).toNat=m:=by omega
  refine gO ?_
  refine⟨fun h=>?_,fun h=>?_⟩
  ·have ecm:ltW (xs.getD m aD) (xs.getD ((i+j) / 2) aD)=decide (Kw (xs.getD (0+(m:Int).toNat) EK.arc.dflt) (xs.getD (0+(((i:Int)+j) / 2).toNat) EK.arc.dflt)<0):=by rw[e0,e1];rfl
   refine cF (pW (xs.getD (0+(m:Int).toNat) EK.arc.dflt) (xs.getD (0+(((i:Int)+j) / 2).toNat) EK.arc.dflt)) [] Tryz.call104 ?_
   rintro _ _ ⟨rfl,rfl⟩
   refine gO ?_
   refine⟨fun h=>?_,fun h=>?_⟩
   ·rw[decide_eq_false (by assumption)]at ecm
    (conv=>whnf)
    refine⟨((i+j) / 2+1,j),[],⟨by rfl,?_,?_⟩,hi.up kN hs (by omega) ecm,by simp only;omega⟩
    ·simp
    ·simp
   ·rw[decide_eq_true (by assumption)]at ecm
    (conv=>whnf)
    refine⟨(i,(i+j) / 2),[],⟨by rfl,?_,?_⟩,hi.down kN hs (by omega) ecm,by simp only;omega⟩
    ·simp
    ·simp
  ·have e:i=j:=by omega
   subst e
   (conv=>whnf)
   refine aJ (fun y:Nat×List Arc=>⟨[(0,.c (.sl 0 5 0 xs.length cap)),(1,.i a),(2,.i m),(3,.i (m+1:Nat)),(4,.c (.fn 104 [])),(14,.i i),(17,.i y.1)],[(0,.arr true 55 .arc y.2 sp)],1⟩)
    (fun y=>y.1<=m/\i<=y.1/\Mv aD a (m+1) xs y.2/\cN aD y.1 m (m+1) xs y.2) (fun y=>y.1) (m,xs) [] ⟨by rfl,?_,?_⟩ ⟨Nat.le_refl _,hih,Mv.refl _ _ _,cN.none (.inl rfl)⟩ ?_
   ·simp
   ·simp
   ·rintro⟨k,ys⟩ ⟨hk,hki,hmv,hr⟩
    simp only at hk hki hmv hr⊢
    have hyl:=hmv.len
    have f0:0+((k:Int)-1).toNat=k-1:=by omega
    have f1:0+(k:Int).toNat=k:=by omega
    refine gO ?_
    refine⟨fun h=>?_,fun h=>?_⟩
    ·refine⟨(k-1,gK aD ys k (k-1)),[],⟨by rfl,?_,?_⟩,⟨by simp only;omega,by simp only;omega,hmv.trans (sU (by omega) (by omega) (by omega)),hr.bwd hyl (by omega) hk (by omega)⟩,by simp only;omega⟩
     ·simp
      omega
     ·simp[gK,f0,f1,EK.dflt]
    ·(conv=>whnf)
     have e:i=k:=by omega
     subst e
     exact⟨[],[(0,.arr true 55 .arc ys sp)],1,.u,⟨by rfl,trivial,by simp⟩,by simp,ys,rfl,rfl,hmv,Zt kN hs hil hih hi.lo hi.hi hr⟩
theorem aS.kept {a b c e:Nat} {xs ys:List Arc} (h:aS aD ltW a b xs) (hm:Mv aD c e xs ys) (hk:b<=c\/e<=a):aS aD ltW a b ys:=h.cong fun k h1 h2=>hm.out k (by omega)
theorem rI: ∀(N:Nat) (xs:List Arc) (cap sp a m b:Nat),b-a<=N->a<m->m<b->b<=xs.length->xs.length<=1000000->aS aD ltW a m xs->aS aD ltW m b xs->
  Ct Tryz.prog 154 [.c (.sl 0 5 0 xs.length cap),.i a,.i m,.i b,.c (.fn 104 [])] [] [(0,.arr true 55 .arc xs sp)] 1
   (fun v s=> ∃ys,v= .u/\s=⟨[],[(0,.arr true 55 .arc ys sp)],1⟩/\Mv aD a b xs ys/\aS aD ltW a b ys)
 |0,xs,cap,sp,a,m,b,hN,ham,hmb,hb,hl,h1,h2=>by omega
 |N+1,xs,cap,sp,a,m,b,hN,ham,hmb,hb,hl,h1,h2=>by
  by_cases hA:m=a+1
  ·exact aCz xs cap sp a m b hA hmb hb hl h2
  by_cases hB:b=m+1
  ·exact aCy xs cap sp a m b (by omega) hB hb hl h1
  have ih:=rI N
  obtain⟨mid,hmid⟩: ∃mid,mid=(a+b) / 2:=⟨_,rfl⟩
  refine ctC Tryz.tyOk Tryz.func154 rfl (by simp) (by simp) (fr:= [(0,.c (.sl 0 5 0 xs.length cap)),(1,.i a),(2,.i m),(3,.i b),(4,.c (.fn 104 []))]) rfl ?_
  refine gH.cut Tryz.tyOk 25 [] (fun y:Nat×Nat=>⟨[(0,.c (.sl 0 5 0 xs.length cap)),(1,.i a),(2,.i m),(3,.i b),(4,.c (.fn 104 [])),(18,.i mid),(19,.i (mid+m:Nat)),(20,.i y.1),(21,.i y.2),(22,.i (mid+m-1:Nat))],[(0,.arr true 55 .arc xs sp)],1⟩)
   (fun y=>(mid<m/\y.1=mid+m-b/\y.2=mid)\/(m<=mid/\y.1=a/\y.2=m)) 7 _ _ ?_ ?_
  ·refine gO ?_
   refine fun h h=>⟨fun h=>?_,fun h=>?_⟩
   ·refine⟨(mid+m-b,mid),[],⟨by rfl,?_,?_⟩,.inl ⟨by omega,rfl,rfl⟩⟩
    ·simp
     omega
    ·simp
   ·(conv=>whnf)
    refine⟨(a,m),[],⟨by rfl,?_,?_⟩,.inr ⟨by omega,rfl,rfl⟩⟩
    ·simp
     omega
    ·simp
  ·rintro⟨lo,hi⟩ hlh
   simp only at hlh⊢
   refine gH.cut Tryz.tyOk 25 [] (fun y:Nat×List Arc=>⟨[(0,.c (.sl 0 5 0 xs.length cap)),(1,.i a),(2,.i m),(3,.i b),(4,.c (.fn 104 [])),(18,.i mid),(20,.i y.1),(24,.i (mid+m-y.1:Nat))],[(0,.arr true 55 .arc y.2 sp)],1⟩)
    (fun y=>a<=y.1/\y.1<=mid/\mid<=mid+m-y.1/\mid+m-y.1<=b/\Mv aD a b xs y.2/\aAH aD ltW a mid b y.2/\aS aD ltW a y.1 y.2/\aS aD ltW y.1 mid y.2/\aS aD ltW mid (mid+m-y.1) y.2/\aS aD ltW (mid+m-y.1) b y.2) 3 _ _ ?_ ?_
   ·refine gO ?_
    refine aJ (fun y:Nat×Nat=>⟨[(0,.c (.sl 0 5 0 xs.length cap)),(1,.i a),(2,.i m),(3,.i b),(4,.c (.fn 104 [])),(18,.i mid),(19,.i (mid+m:Nat)),(20,.i y.1),(21,.i y.2),(22,.i (mid+m-1:Nat))],[(0,.arr true 55 .arc xs sp)],1⟩)
     (fun y=>Lt aD ltW lo hi (mid+m-1) y.1 y.2 xs) (fun y=>y.2-y.1) (lo,hi) [] ⟨by rfl,?_,?_⟩ ⟨Nat.le_refl _,by simp only;omega,Nat.le_refl _,.inl rfl,.inl rfl⟩ ?_
    ·simp
    ·simp
    ·rintro⟨s,r⟩ hs
     have hsl:=hs.l
     have hsm:=hs.m
     have hsh:=hs.h
     simp only at hsl hsm hsh⊢
     have e0:0+(((s:Int)+r) / 2).toNat=(s+r) / 2:=by omega
     have e1:0+(((mid+m-1:Nat):Int)-((s:Int)+r) / 2).toNat=mid+m-1-(s+r) / 2:=by omega
     refine gO ?_
     refine⟨fun h=>?_,fun h=>⟨fun h=>⟨fun h=>?_,fun h=>?_⟩,fun h=>?_⟩⟩
     ·have ecm:ltW (xs.getD (mid+m-1-(s+r) / 2) aD) (xs.getD ((s+r) / 2) aD)=decide (Kw (xs.getD (0+(((mid+m-1:Nat):Int)-((s:Int)+r) / 2).toNat) EK.arc.dflt) (xs.getD (0+(((s:Int)+r) / 2).toNat) EK.arc.dflt)<0):=by rw[e0,e1];rfl
      refine cF (pW (xs.getD (0+(((mid+m-1:Nat):Int)-((s:Int)+r) / 2).toNat) EK.arc.dflt) (xs.getD (0+(((s:Int)+r) / 2).toNat) EK.arc.dflt)) [] Tryz.call104 ?_
      rintro _ _ ⟨rfl,rfl⟩
      refine gO ?_
      refine⟨fun h=>?_,fun h=>?_⟩
      ·rw[decide_eq_false (by assumption)]at ecm
       (conv=>whnf)
       refine⟨((s+r) / 2+1,r),[],⟨by rfl,?_,?_⟩,hs.up (by omega) ecm,by simp only;omega⟩
       ·simp
       ·simp
      ·rw[decide_eq_true (by assumption)]at ecm
       (conv=>whnf)
       refine⟨(s,(s+r) / 2),[],⟨by rfl,?_,?_⟩,hs.down (by omega) ecm,by simp only;omega⟩
       ·simp
       ·simp
     ·have e:s=r:=by omega
      subst e
      have e2:((mid+m:Nat):Int)-s=(mid+m-s:Nat):=by omega
      (conv=>whnf)
      rw[e2]
      refine cF (Xs xs cap sp s m (mid+m-s) (by omega) (by omega) (by omega) hl) [0] Tryz.call172 ?_
      rintro _ _ ⟨ys,rfl,rfl,hm,hr⟩
      refine gO ?_
      refine⟨(s,ys),[],⟨by rfl,?_,?_⟩,⟨by simp only;omega,by simp only;omega,by simp only;omega,by simp only;omega,hm.wide (by omega) (by omega),Ch kN h1 h2 ham hmb hmid hlh hs hr⟩⟩
      ·simp
      ·simp
     all_goals
      have e:s=r:=by omega
      subst e
      (conv=>whnf)
      refine⟨(s,xs),[],⟨by rfl,?_,?_⟩,⟨by simp only;omega,by simp only;omega,by simp only;omega,by simp only;omega,Mv.refl _ _ _,Ch kN h1 h2 ham hmb hmid hlh hs (cN.none (by omega))⟩⟩
      ·simp
       omega
      ·simp
   ·rintro⟨s,ys⟩ ⟨g1,g2,g3,g4,hm,hc,s1,s2,s3,s4⟩
    simp only at g1 g2 g3 g4 hm hc s1 s2 s3 s4⊢
    have hyl:=hm.len
    refine gH.cut Tryz.tyOk 25 [] (fun zs:List Arc=>⟨[(0,.c (.sl 0 5 0 xs.length cap)),(1,.i a),(2,.i m),(3,.i b),(4,.c (.fn 104 [])),(18,.i mid),(20,.i s),(24,.i (mid+m-s:Nat))],[(0,.arr true 55 .arc zs sp)],1⟩)
     (fun zs=>Mv aD a mid ys zs/\aS aD ltW a mid zs) 1 _ _ ?_ ?_
    ·refine gO ?_
     refine⟨fun h=>⟨fun h=>?_,fun h=>?_⟩,fun h=>?_⟩
     ·refine aO (ih ys cap sp a s mid (by omega) (by omega) (by omega) (by omega) (by omega) s1 s2) [0] Tryz.call154 rfl (by simp[hyl]) (by simp[hyl]) (by simp) ?_
      rintro _ _ ⟨zs,rfl,rfl,hm2,hs2⟩
      refine gO ?_
      refine⟨zs,[],⟨by rfl,?_,?_⟩,hm2,hs2⟩
      ·simp
      ·simp
     ·have e:s=mid:=by omega
      refine⟨ys,[],⟨by rfl,?_,?_⟩,Mv.refl _ _ _,e▸s1⟩
      ·simp
      ·simp
     ·(conv=>whnf)
      have e:s=a:=by omega
      refine⟨ys,[],⟨by rfl,?_,?_⟩,Mv.refl _ _ _,e▸s2⟩
      ·simp
      ·simp
    ·rintro zs ⟨hm2,hs2⟩
     have hzl:=hm2.len
     have s3':=s3.kept hm2 (.inr (Nat.le_refl _))
     have s4':=s4.kept hm2 (.inr g3)
     refine gH.of Tryz.tyOk 25 [] ?_
     refine gO ?_
     refine⟨fun h=>⟨fun h=>?_,fun h=>?_⟩,fun h=>?_⟩
     ·refine aO (ih zs cap sp mid (mid+m-s) b (by omega) (by omega) (by omega) (by omega) (by omega) s3' s4') [0] Tryz.call154 rfl (by simp[hyl,hzl]) (by simp[hyl,hzl]) (by simp) ?_
      rintro _ _ ⟨us,rfl,rfl,hm3,hs3⟩
      refine gO ?_
      exact⟨[],[(0,.arr true 55 .arc us sp)],1,.u,⟨by rfl,trivial,by simp⟩,by simp,us,rfl,rfl,hm.trans ((hm2.wide (Nat.le_refl _) (by omega)).trans (hm3.wide (by omega) (Nat.le_refl _))),pL hc hm2 hs2 hm3 hs3⟩
     ·have e:mid+m-s=b:=by omega
      exact⟨[],[(0,.arr true 55 .arc zs sp)],1,.u,⟨by rfl,trivial,by simp⟩,by simp,zs,rfl,rfl,hm.trans (hm2.wide (Nat.le_refl _) (by omega)),pL hc hm2 hs2 (Mv.refl _ _ _) (e▸s3')⟩
     ·(conv=>whnf)
      have e:mid+m-s=mid:=by omega
      exact⟨[],[(0,.arr true 55 .arc zs sp)],1,.u,⟨by rfl,trivial,by simp⟩,by simp,zs,rfl,rfl,hm.trans (hm2.wide (Nat.le_refl _) (by omega)),pL hc hm2 hs2 (Mv.refl _ _ _) (e▸s4')⟩
theorem Wx (xs:List Arc) (cap sp:Nat) (hl:xs.length<=1000000):Ct Tryz.prog 138 [.c (.sl 0 5 0 xs.length cap),.i xs.length,.c (.fn 104 [])] [] [(0,.arr true 55 .arc xs sp)] 1
  (fun v s=> ∃ys,v= .u/\s=⟨[],[(0,.arr true 55 .arc ys sp)],1⟩/\Mv aD 0 xs.length xs ys/\aS aD ltW 0 xs.length ys):=by
 obtain⟨n,hn⟩: ∃n,n=xs.length:=⟨_,rfl⟩
 rw[<-hn]at hl⊢
 refine ctW Tryz.tyOk 10 [] Tryz.func138 rfl (by simp) (by simp) (fr:= [(0,.c (.sl 0 5 0 n cap)),(1,.i n),(2,.c (.fn 104 []))]) rfl ?_
 refine gO ?_
 refine aJ (fun y:Nat×List Arc=>⟨[(0,.c (.sl 0 5 0 n cap)),(1,.i n),(2,.c (.fn 104 [])),(6,.i 20),(7,.i y.1),(8,.i (y.1+20:Nat))],[(0,.arr true 55 .arc y.2 sp)],1⟩)
  (fun y=>y.1<=n/\Bz aD ltW 20 y.1 y.2/\Mv aD 0 n xs y.2) (fun y=>n-y.1) (0,xs) [] ⟨by rfl,?_,?_⟩ ⟨Nat.zero_le _,Bz.zero _ _,Mv.refl _ _ _⟩ ?_
 ·simp
 ·simp
 ·rintro⟨a,ys⟩ ⟨ha,hu,hm⟩
  simp only at ha hu hm⊢
  have hyl:=hm.len
  refine gO ?_
  refine⟨fun h=>?_,fun h=>?_⟩
  ·refine aO (wW ys cap sp a (a+20) (by omega) (by omega) (by omega)) [0] Tryz.call153 rfl (by simp[hyl,hn]) (by simp[hyl,hn]) (by simp) ?_
   rintro _ _ ⟨zs,rfl,rfl,hm2,hs2⟩
   refine gO ?_
   refine⟨(a+20,zs),[],⟨by rfl,?_,?_⟩,⟨by simp only;omega,hu.next hm2 hs2,hm.trans (hm2.wide (Nat.zero_le _) (by omega))⟩,by simp only;omega⟩
   ·simp
   ·simp
  ·(conv=>whnf)
   refine aO (wW ys cap sp a n (by omega) (by omega) (by omega)) [0] Tryz.call153 rfl (by simp[hyl,hn]) (by simp[hyl,hn]) (by simp) ?_
   rintro _ _ ⟨zs,rfl,rfl,hm2,hs2⟩
   have hal:=hu.done ha (by omega) hm2 hs2
   have hm3:=hm.trans (hm2.wide (Nat.zero_le _) (Nat.le_refl _))
   clear hm2 hs2 hu hm
   refine gO ?_
   refine aJ (fun y:Nat×List Arc=>⟨[(0,.c (.sl 0 5 0 n cap)),(1,.i n),(2,.c (.fn 104 [])),(6,.i y.1)],[(0,.arr true 55 .arc y.2 sp)],1⟩)
    (fun y=>1<=y.1/\y.1<=2*n+20/\Ey aD ltW y.1 n y.2/\Mv aD 0 n xs y.2) (fun y=>n-y.1) (20,zs) [] ⟨by rfl,?_,?_⟩ ⟨by simp only;omega,by simp only;omega,hal,hm3⟩ ?_
   ·simp
   ·simp
   ·clear hal hm3
    rintro⟨bs,ys⟩ ⟨hb1,hb2,hal,hm⟩
    simp only at hb1 hb2 hal hm⊢
    refine gO ?_
    refine⟨fun h=>?_,fun h=>?_⟩
    ·refine aJ (fun y:Nat×List Arc=>⟨[(0,.c (.sl 0 5 0 n cap)),(1,.i n),(2,.c (.fn 104 [])),(6,.i bs),(7,.i y.1),(8,.i (y.1+2*bs:Nat))],[(0,.arr true 55 .arc y.2 sp)],1⟩)
      (fun y=>y.1<=n/\wO aD ltW bs n y.1 y.2/\Mv aD 0 n xs y.2) (fun y=>n-y.1) (0,ys) [] ⟨by rfl,?_,?_⟩ ⟨Nat.zero_le _,wO.zero hal,hm⟩ ?_
     ·simp
     ·simp
     ·clear hal hm
      rintro⟨a,ys⟩ ⟨ha,hh,hm⟩
      simp only at ha hh hm⊢
      have hyl:=hm.len
      have e1:(a:Int)+bs=(a+bs:Nat):=by omega
      refine gO ?_
      refine⟨fun h=>?_,fun h=>⟨fun h=>?_,fun h=>?_⟩⟩
      ·rw[e1]
       obtain⟨s1,s2⟩:=hh.two (by omega)
       rw[Nat.min_eq_left (by omega)]at s2
       refine aO (rI n ys cap sp a (a+bs) (a+2*bs) (by omega) (by omega) (by omega) (by omega) (by omega) s1 s2) [0] Tryz.call154 rfl (by simp[hyl,hn]) (by simp[hyl,hn]) (by simp) ?_
       rintro _ _ ⟨zs,rfl,rfl,hm2,hs2⟩
       refine gO ?_
       refine⟨(a+2*bs,zs),[],⟨by rfl,?_,?_⟩,⟨by simp only;omega,hh.next hm2 hs2,hm.trans (hm2.wide (Nat.zero_le _) (by omega))⟩,by simp only;omega⟩
       ·simp
       ·simp
      ·rw[e1]
       obtain⟨s1,s2⟩:=hh.two (by omega)
       rw[Nat.min_eq_right (by omega)]at s2
       refine aO (rI n ys cap sp a (a+bs) n (by omega) (by omega) (by omega) (by omega) (by omega) s1 s2) [0] Tryz.call154 rfl (by simp[hyl,hn]) (by simp[hyl,hn]) (by simp) ?_
       rintro _ _ ⟨zs,rfl,rfl,hm2,hs2⟩
       refine gO ?_
       refine⟨(2*bs,zs),[],⟨by rfl,?_,?_⟩,⟨by simp only;omega,by simp only;omega,hh.done ha (by omega) hm2 hs2,hm.trans (hm2.wide (Nat.zero_le _) (Nat.le_refl _))⟩,by simp only;omega⟩
       ·simp
        omega
       ·simp
      ·(conv=>whnf)
       refine⟨(2*bs,ys),[],⟨by rfl,?_,?_⟩,⟨by simp only;omega,by simp only;omega,hh.done ha (by omega) (Mv.refl _ _ _) (hh.low (by omega)),hm⟩,by simp only;omega⟩
       ·simp
        omega
       ·simp
    ·(conv=>whnf)
     exact⟨[],[(0,.arr true 55 .arc ys sp)],1,.u,⟨by rfl,trivial,by simp⟩,by simp,ys,rfl,rfl,hm,hal.all (by omega)⟩
theorem Fd (xs:List Arc) (cap sp:Nat) (hl:xs.length<=1000000):Ct Tryz.prog 103 [.c (.sl 0 5 0 xs.length cap),.c (.fn 104 [])] [] [(0,.arr true 55 .arc xs sp)] 1
  (fun v s=> ∃ys,v= .u/\s=⟨[],[(0,.arr true 55 .arc ys sp)],1⟩/\Mv aD 0 xs.length xs ys/\aS aD ltW 0 xs.length ys):=by
 refine ctW Tryz.tyOk 4 [] Tryz.func103 rfl (by simp) (by simp) (fr:= [(0,.c (.sl 0 5 0 xs.length cap)),(1,.c (.fn 104 []))]) rfl ?_
 refine gO ?_
 refine cF (Wx xs cap sp hl) [0] Tryz.call138 ?_
 rintro _ _ ⟨ys,rfl,rfl,hm,hs⟩
 refine gO ?_
 exact⟨[],[(0,.arr true 55 .arc ys sp)],1,.u,⟨by rfl,trivial,by simp⟩,by simp,ys,rfl,rfl,hm,hs⟩
end Go.Fw
