/-
  When all is made, nothing more comes; what is made is one thing alone.
-/
import Derived.Test.YtemhgpoeccbheaaGreatDoorQ08
import Derived.Test.YtemhgpoeccbheaaGreatDoorQ13
import Derived.Test.YtemhgpoeccbheaaGreatDoorQ07
import Derived.Test.YtemhgpoeccbheaaGreatDoorQ11
set_option linter.unusedSimpArgs false
set_option linter.unusedVariables false
set_option maxRecDepth 100000
set_option maxHeartbeats 16000000
namespace Go.Fw
open Go Go.Proofs
def lK (F:TF):Bool:=pO F&& !aAW F&& !dS F.arcs F.st.toNat
def eM (arcs:List Arc) (fin:List Int):Bool:=(arcs.any fun a=>decide (a.w>1000000000))||fin.any fun x=>decide (x>1000000000)
theorem FRng.of {F:TF} (h:FOk F):FRng F:=by
 have:=h.st
 have:=h.arcl
 refine⟨by omega,h.finl,by omega,fun a ha=>?_⟩
 obtain⟨q1,q2,q3,q4,_⟩:=h.arc a ha
 exact⟨q1,q2,q3,q4⟩
theorem Rl (F:TF) (h1:F.arcs.length<=9223372036854775807) (h2:F.fin.length<=9223372036854775807):Ct Tryz.prog 76 [fV F] [] (hpF F) 2 (Is 2 (.b (eM F.arcs F.fin))):=by
 refine ctW Tryz.tyOk 3 [] Tryz.func76 rfl (by simp) (by simp) (fr:= [(0,fV F)]) rfl ?_
 refine gO ?_
 refine cI (dF F.arcs F.capA (by omega) 125 (fun a=>decide (a.w>1000000000)) Zw Tryz.call125) [1] Tryz.call67 ?_
 unfold eM
 generalize (F.arcs.any fun a=>decide (a.w>1000000000))=x
 cases x with
 |true=>
  refine gO ?_
  refine aQ.is ?_
  simp
 |false=>
  refine gO ?_
  refine cI (gB F.fin F.capF (by omega) 126 (fun a=>decide (a>1000000000)) Zv Tryz.call126) [0] Tryz.call89 ?_
  refine gO ?_
  refine aQ.is ?_
  simp
theorem Gt (F:TF) (hF:FRng F):Ct Tryz.prog 74 [fV F] [] (hpF F) 2 (Is 2 (.b (lK F))):=by
 have hal:=hF.arcl
 refine ctW Tryz.tyOk 3 [] Tryz.func74 rfl (by simp) (by simp) (fr:= [(0,fV F)]) rfl ?_
 refine gO ?_
 refine cI (wG F (by omega)) [0,1] Tryz.call63 ?_
 unfold lK
 generalize pO F=x
 cases x with
 |false=>
  refine gO ?_
  refine aQ.is ?_
  simp
 |true=>
  refine gO ?_
  refine cI (dF F.arcs F.capA (by omega) 121 (fun a=>a.i==0) aBK Tryz.call121) [1] Tryz.call67 ?_
  have e:(F.arcs.any fun a=>a.i==0)=aAW F:=rfl
  rw[e]
  generalize aAW F=y
  cases y with
  |true=>
   refine gO ?_
   refine aQ.is ?_
   simp
  |false=>
   refine gO ?_
   refine cI (Eo F hF) [0,1] Tryz.call94 ?_
   refine gO ?_
   refine aQ.is ?_
   simp
def isV (F:TF):SV:=if aL F=0 then .tup [.c (.b (pO F&&Ta F.arcs)),.c (.i 0)]else .tup [.c (.b false),.c (.i (aL F))]
def Fk (F:TF):SV:=if aL F=0 then .tup [.c (.b (dS F.arcs F.st.toNat)),.c (.i 0)]else .tup [.c (.b false),.c (.i (aL F))]
theorem aDJ (F:TF) (hl:F.fin.length<=9223372036854775807):Ct Tryz.prog 44 [fV F] [] (hpF F) 2 (Is 2 (isV F)):=by
 by_cases h:aL F=0
 ·have hF:=aK h
  have hal:=hF.arcl
  unfold isV
  rw[if_pos h]
  refine ctW Tryz.tyOk 5 [] Tryz.func44 rfl (by simp) (by simp) (fr:= [(0,fV F)]) rfl ?_
  refine gO ?_
  refine cI (aU F hl) [0,1] Tryz.call35 ?_
  rw[h]
  refine gO ?_
  refine cI (wG F (by omega)) [0,1] Tryz.call63 ?_
  generalize pO F=x
  cases x with
  |false=>
   refine gO ?_
   refine aQ.is ?_
   simp
  |true=>
   refine gO ?_
   refine cI (Xh F (by omega)) [0,1] Tryz.call95 ?_
   refine gO ?_
   refine aQ.is ?_
   simp
 ·unfold isV
  rw[if_neg h]
  refine ctW Tryz.tyOk 5 [] Tryz.func44 rfl (by simp) (by simp) (fr:= [(0,fV F)]) rfl ?_
  refine gO ?_
  refine cI (aU F hl) [0,1] Tryz.call35 ?_
  refine gO fun h=>?_
  refine aQ.is ?_
  simp
theorem aA7 (F:TF) (hl:F.fin.length<=9223372036854775807):Ct Tryz.prog 43 [fV F] [] (hpF F) 2 (Is 2 (Fk F)):=by
 by_cases h:aL F=0
 ·have hF:=aK h
  unfold Fk
  rw[if_pos h]
  refine ctW Tryz.tyOk 5 [] Tryz.func43 rfl (by simp) (by simp) (fr:= [(0,fV F)]) rfl ?_
  refine gO ?_
  refine cI (aU F hl) [0,1] Tryz.call35 ?_
  rw[h]
  refine gO ?_
  refine cI (Eo F (FRng.of hF)) [0,1] Tryz.call94 ?_
  refine gO ?_
  refine aQ.is ?_
  simp
 ·unfold Fk
  rw[if_neg h]
  refine ctW Tryz.tyOk 5 [] Tryz.func43 rfl (by simp) (by simp) (fr:= [(0,fV F)]) rfl ?_
  refine gO ?_
  refine cI (aU F hl) [0,1] Tryz.call35 ?_
  refine gO fun h=>?_
  refine aQ.is ?_
  simp
theorem Wy {U:TF} {i:Nat} {st:DS} (h:st.1.length<=i) (c:Int):stD U i st c=st:=by
 have e:st.1.getD i []=[]:=by simp only[List.getD,List.getElem?_eq_none h];rfl
 unfold stD
 rw[e,if_pos (show sbB U [] c= -1 from rfl)]
theorem Tf {U:TF} {i:Nat} {st:DS} (h:st.1.length<=i) (k:Nat):jM U i st k=st:=by
 induction k with
 |zero=>rfl
 |succ k ih=>rw[qB,ih,Wy h]
theorem qA {U:TF} {j:Nat} (h:(bN U j).1.length<=j) (d:Nat):bN U (j+d)=bN U j:=by
 induction d with
 |zero=>rfl
 |succ d ih=>
  show jM U (j+d) (bN U (j+d)) 9=_
  rw[ih,Tf (by omega)]
theorem jI.uniq {U:TF} {st st':DS} (h:jI U st) (h':jI U st'):st=st':=by
 obtain⟨k,e,hk⟩:=h
 obtain⟨k',e',hk'⟩:=h'
 rcases Nat.le_total k k' with hle|hle
 ·have:=qA (U:=U) (j:=k) (by rw[e,hk];exact Nat.le_refl _) (k'-k)
  rw[show k+(k'-k)=k' by omega,e,e']at this
  exact this.symm
 ·have:=qA (U:=U) (j:=k') (by rw[e',hk'];exact Nat.le_refl _) (k-k')
  rw[show k'+(k-k')=k by omega,e,e']at this
  exact this
section
variable {U:TF} {T:List (List Duo)} (hU:0<=U.st) (hw: ∀a∈U.arcs,0<=a.w/\a.w<=1000000000) (hr: ∀a∈U.arcs,0<=a.t/\a.t<U.st) (hs:0<=U.start/\U.start<U.st)
 (hT0: [⟨U.start,0⟩]∈T) (hT: ∀t∈T,∀c:Nat,c<9->sbB U t ((c:Int)+1)≠ -1->sbS U t ((c:Int)+1)∈T)
include hU hw hr hT
theorem qU.row {i:Nat} {st:DS} (h:qU U T i st) (hi:i<st.1.length) (k:Nat) (hk:k<=9):qU U T i (jM U i st k)/\st.1.length<=(jM U i st k).1.length/\(jM U i st k).2.length<=st.2.length+k:=by
 induction k with
 |zero=>exact⟨h,Nat.le_refl _,Nat.le_refl _⟩
 |succ k ih=>
  obtain⟨h1,h2,h3⟩:=ih (by omega)
  obtain⟨g1,g2,g3⟩:=h1.step (by omega) hU hw hr hT (c:=k) (by omega)
  rw[qB]
  exact⟨g1,by omega,by omega⟩
include hs hT0
theorem jI.inv {st:DS} (h:jI U st):qU U T st.1.length st/\st.2.length<=9*st.1.length:=by
 obtain⟨k,e,hk⟩:=h
 have hlt: ∀j,j<k->j<(bN U j).1.length:=by
  intro j hj
  refine Classical.byContradiction fun hc=>?_
  have:=qA (U:=U) (j:=j) (by omega) (k-j)
  rw[show j+(k-j)=k by omega,e]at this
  rw[<-this]at hc
  omega
 have: ∀j,j<=k->qU U T j (bN U j)/\(bN U j).2.length<=9*j:=by
  intro j
  induction j with
  |zero=>intro _;exact⟨qU.start hs hT0,by simp[bN]⟩
  |succ j ih=>
   intro hj
   obtain⟨h1,h2⟩:=ih (by omega)
   have h3:=hlt j (by omega)
   obtain⟨g1,g2,g3⟩:=h1.row hU hw hr hT h3 9 (Nat.le_refl _)
   refine⟨⟨g1.sub,g1.nd,g1.ok,g1.ne,⟨?_,g1.len.2⟩,g1.raw⟩,?_⟩
   ·show j+1<=(jM U j (bN U j) 9).1.length
    omega
   ·show(jM U j (bN U j) 9).2.length<=_
    omega
 have h:=this k (Nat.le_refl _)
 rw[e,hk]at h
 exact h
end
theorem jI.small {U:TF} (hU:0<=U.st) (hw: ∀a∈U.arcs,0<=a.w/\a.w<=1000000000) (hr: ∀a∈U.arcs,0<=a.t/\a.t<U.st) (hs:0<=U.start/\U.start<U.st) (hb:iO U 201 200 [⟨U.start,0⟩]<=200) {st:DS} (h:jI U st):
  qU U (lF U 201 [⟨U.start,0⟩]) st.1.length st/\st.1.length<=200/\st.2.length<=1800:=by
 obtain⟨g1,g2⟩:=xL U 201 200 [⟨U.start,0⟩] (by omega) hb
 obtain⟨h1,h2⟩:=h.inv hU hw hr hs (uU _ _ _) g2
 have:=Je h1.nd h1.sub
 exact⟨h1,by omega,by omega⟩
def Ao (F:TF):Int:=if aL F≠0 then aL F else if lK F=true then 0 else 4
theorem WOk.of {F:TF} (h:FOk F):WOk F:=⟨FRng.of h,fun a ha=>⟨(h.arc a ha).w0,(h.arc a ha).w1⟩,h.fin⟩
def Sm (F:TF) (x:Glo) (v:SV) (s:S):Prop:=
 (Ao F≠0/\v= .tup [.agg aW,.c (.i (Ao F))]/\s=⟨[],[(2,aF x)],3⟩)\/
 (Ao F=0/\ ∃U,lC F U/\
  (((200<iO U 201 200 [⟨U.start,0⟩]\/iO U 201 200 [⟨U.start,0⟩]<=200/\ ∃st:DS,jI U st/\eM st.2 (st.1.map (bQ U))=true)/\v= .tup [.agg aW,.c (.i 2)]/\s=⟨[],[(2,aF x)],3⟩)\/
   (iO U 201 200 [⟨U.start,0⟩]<=200/\ ∃st:DS,jI U st/\eM st.2 (st.1.map (bQ U))=false/\ ∃sp sq,v= .tup [.agg [.i (st.1.length:Nat),.i 0,.sl 3 1 0 (st.1.map (bQ U)).length ((st.1.map (bQ U)).length+sp),.sl 4 5 0 st.2.length (st.2.length+sq)],.c (.i 0)]/\
    s=⟨[],[(2,aF x),(3,.arr true 3 .int (st.1.map (bQ U)) sp),(4,.arr true 55 .arc st.2 sq)],5⟩)))
theorem xC (F:TF) (hl:F.fin.length<=9223372036854775807) (x:Glo) (hx:gJ x):Ct Tryz.prog 26 [fV F] [] (hpF F++[(2,aF x)]) 3 (Sm F x):=by
 by_cases h:aL F=0
 ·have hF:=aK h
  have hst:=hF.st
  have hss:=hF.start
  by_cases hf:lK F=true
  ·have hd:Ao F=0:=by unfold Ao;rw[if_neg (fun c=>c h),if_pos hf]
   refine ctW Tryz.tyOk 7 [] Tryz.func26 rfl (by simp) (by simp) (fr:= [(0,fV F)]) rfl ?_
   refine gO ?_
   refine cI (aU F hl) [0,1] Tryz.call35 ?_
   rw[h]
   refine gO ?_
   refine cI (Gt F (FRng.of hF)) [0,1] Tryz.call74 ?_
   rw[hf]
   refine gO ?_
   refine cF (Zb F (WOk.of hF) (by omega) (by omega) x hx) [0,1,2] Tryz.call75 ?_
   rintro v s ⟨U,hus,⟨h1,rfl,rfl⟩|⟨h1,st,hmd,sp,sq,rfl,rfl⟩⟩
   ·simp only[Nat.reduceAdd,Nat.reduceSub]
    refine gI ?_
    exact⟨[],[(2,aF x)],3,.tup [.agg aW,.c (.i 2)],⟨by rfl,trivial,by simp⟩,by simp,.inr ⟨hd,U,hus,.inl ⟨.inl h1,rfl,rfl⟩⟩⟩
   ·simp only[Nat.reduceAdd,Nat.reduceSub]
    refine gM ?_
    obtain⟨hUw,hUs,_⟩:=hus.ok (WOk.of hF) hss
    obtain⟨_,hs1,hs2⟩:=hmd.small hUw.st.1 hUw.w (fun a ha=>(hUw.arc a ha).2.2) hUs h1
    have hgc:=Rl ⟨(st.1.length:Nat),0,st.1.map (bQ U),st.2,(st.1.map (bQ U)).length+sp,st.2.length+sq⟩ (by simp only;omega) (by simp only[List.length_map];omega)
    refine cI (hgc) [5,6] Tryz.call76 ?_
    simp only
    cases hg:eM st.2 (st.1.map (bQ U))with
    |true=>
     refine gO ?_
     exact⟨[],[(2,aF x)],3,.tup [.agg aW,.c (.i 2)],⟨by rfl,trivial,by simp⟩,by simp,.inr ⟨hd,U,hus,.inl ⟨.inr ⟨h1,st,hmd,hg⟩,rfl,rfl⟩⟩⟩
    |false=>
     refine gO ?_
     exact⟨[(3,some 5),(4,some 6)],[(2,aF x),(3,.arr true 3 .int (st.1.map (bQ U)) sp),(4,.arr true 55 .arc st.2 sq)],5,.tup [.agg [.i (st.1.length:Nat),.i 0,.sl 3 1 0 (st.1.map (bQ U)).length ((st.1.map (bQ U)).length+sp),.sl 4 5 0 st.2.length (st.2.length+sq)],.c (.i 0)],⟨by rfl,trivial,by simp⟩,by simp,.inr ⟨hd,U,hus,.inr ⟨h1,st,hmd,hg,sp,sq,rfl,rfl⟩⟩⟩
  ·have hd:Ao F=4:=by unfold Ao;rw[if_neg (fun c=>c h),if_neg hf]
   have hf2:lK F=false:=by simpa using hf
   refine ctW Tryz.tyOk 7 [] Tryz.func26 rfl (by simp) (by simp) (fr:= [(0,fV F)]) rfl ?_
   refine gO ?_
   refine cI (aU F hl) [0,1] Tryz.call35 ?_
   rw[h]
   refine gO ?_
   refine cI (Gt F (FRng.of hF)) [0,1] Tryz.call74 ?_
   rw[hf2]
   refine gO ?_
   exact⟨[],[(2,aF x)],3,.tup [.agg aW,.c (.i 4)],⟨by rfl,trivial,by simp⟩,by simp,.inl ⟨by rw[hd];decide,by rw[hd],rfl⟩⟩
 ·have hd:Ao F=aL F:=by unfold Ao;rw[if_pos h]
  refine ctW Tryz.tyOk 7 [] Tryz.func26 rfl (by simp) (by simp) (fr:= [(0,fV F)]) rfl ?_
  refine gO ?_
  refine cI (aU F hl) [0,1] Tryz.call35 ?_
  refine gO fun h=>?_
  exact⟨[],[(2,aF x)],3,.tup [.agg aW,.c (.i (aL F))],⟨by rfl,trivial,by simp⟩,by simp,.inl ⟨by rw[hd];exact h,by rw[hd],rfl⟩⟩
def rD (D:Trip->Option Fnd):Nat->Trip->List Int
 |0,_=> []
 |n+1,y=>match D y with
  |none=> []
  |some c=>if 0<=c.arc then c.arc::rD D n ⟨c.s,c.i,c.o⟩else []
theorem Ba {D:Trip->Option Fnd} {y:Trip} {c:Fnd} (h:D y=some c) (ha: ¬c.arc>=0) (n:Nat):rD D n y=[]:=by
 cases n with
 |zero=>rfl
 |succ n=>simp only[rD,h];exact if_neg ha
theorem Ky {D:Trip->Option Fnd} {y:Trip} {c:Fnd} (h:D y=some c) (ha:c.arc>=0) (n:Nat):rD D (n+1) y=c.arc::rD D n ⟨c.s,c.i,c.o⟩:=by
 simp only[rD,h];exact if_pos ha
theorem Oa {D:Trip->Option Int} {fin:List Int} {p q:Int}: ∀k,(bJ D fin p q k).2≠ -1-> ∃d,D (bJ D fin p q k).1=some d
 |0,h=>absurd rfl h
 |k+1,h=>by
  cases hd:D ⟨k,p,q⟩with
  |none=>rw[gZ hd]at h⊢;exact Oa k h
  |some d=>
   by_cases c:fin.getD k 0≠ -1/\((bJ D fin p q k).2= -1\/d+fin.getD k 0<(bJ D fin p q k).2)
   ·rw[mE hd c.1 c.2];exact⟨d,hd⟩
   ·have e:bJ D fin p q (k+1)=bJ D fin p q k:=by simp only[bJ,hd];exact if_neg c
    rw[e]at h⊢
    exact Oa k h
def aAD (F:TF) (u v:List Int) (E:Trip×Int) (l:List Int):Prop:=
 ∃D ord rk B n,Dj F u v D ord rk B (fun _ _=>True)/\(∀y d,D y=some d->d.dn=true)/\E=bJ (fun y=>(D y).map (·.cost)) F.fin u.length v.length F.fin.length/\rk E.1<n/\l.reverse=rD D n E.1
theorem Pm (F:TF) (u v:List Int) (cu cv:Nat) (hl:F.fin.length<=9223372036854775807) (hsc:cG F u v=0):
  Ct Tryz.prog 25 [fV F,.c (.sl 2 1 0 u.length cu),.c (.sl 3 1 0 v.length cv)] [] (hpQ F u v) 4 (fun x s=>
   (∃A,qQ F u v (gX F) A/\(bJ A F.fin u.length v.length F.fin.length).2= -1/\x= .tup [.c (.v (.slice none 0 0)),.c (.i (-1)),.c (.i 0)]/\s=⟨[],[],4⟩)\/
   ∃E l sp,aAD F u v E l/\E.2≠ -1/\l.length<=336200/\x= .tup [.c (.sl 4 1 0 l.length (l.length+sp)),.c (.i E.2),.c (.i 0)]/\s=⟨[],[(4,.arr true 3 .int l sp)],5⟩):=by
 refine ctW Tryz.tyOk 15 [] Tryz.func25 rfl (by simp) (by simp) (fr:= [(0,fV F),(1,.c (.sl 2 1 0 u.length cu)),(2,.c (.sl 3 1 0 v.length cv))]) rfl ?_
 refine gO ?_
 refine cF (Fa F u v cu cv hl hsc) [0,1,2,3] Tryz.call73 ?_
 rintro _ _ ⟨rows,pi,es,clk,pf,⟨hm,ord,rk,B,hol,hD,hB,hall⟩,rfl,rfl⟩
 have hL:=hD.least hall
 have hed:=Oa (D:=cW es pf) (fin:=F.fin) (p:=u.length) (q:=v.length) F.fin.length
 generalize hE:bJ (cW es pf) F.fin u.length v.length F.fin.length=E at*
 obtain⟨⟨E1,E2,E3⟩,Ec⟩:=E
 simp only at hed⊢
 refine gO ?_
 refine⟨fun h=>?_,fun h=>?_⟩
 ·refine⟨[],[],4,.tup [.c (.v (.slice none 0 0)),.c (.i (-1)),.c (.i 0)],⟨by rfl,trivial,trivial⟩,by simp[h],.inl ⟨cW es pf,hL,?_,rfl,rfl⟩⟩
  rw[hE]
  exact h
 obtain⟨d0,hd0⟩:=hed h
 obtain⟨d,hd,-⟩:=Option.map_eq_some_iff.1 hd0
 obtain⟨a,nn,r1,r2,r3,r4⟩:=hm.of hd
 have e1:(@lkM EK.trip.ty EK.adr.ty (EK.instDeq .trip) es (⟨E1,E2,E3⟩:Trip)).getD EK.adr.dflt=some a:=congrArg (fun x=>Option.getD x none) r3
 have hmem: ∀y d,bH es pf y=some d->y∈ord:=fun y d hy=>(hD.dn y d hy).1 (hall y d hy)
 refine gO ?_
 rw[e1]
 refine aJ (fun y:List Int×Nat×Addr×Trip×Nat=>⟨[(6,.c (.v (.slice none 0 0))),(7,.i 0),(8,.i 0),(9,.c (.ptr 5 0)),(10,.c (.ptr 10 0)),(11,.i Ec),(12,.i 0),(13,.c (.sl 11 1 0 y.1.length (y.1.length+y.2.1))),(14,.c (.q (some y.2.2.1)))],
  (4,.box 25 (aA F))::(5,.box 101 [.i F.st,.i F.start,.sl 0 1 0 F.fin.length F.capF,.sl 1 5 0 F.arcs.length F.capA,.sl 2 1 0 u.length cu,.sl 3 1 0 v.length cv,.sl 6 1 0 rows.length rows.length,.mp 9])::(8,.pool 103 .fnd pf)::(9,.map .trip .adr es clk)::(10,.box 94 [.i E1,.i E2,.i E3])::(11,.arr true 3 .int y.1 y.2.1)::hpQ F u v,12⟩)
  (fun y=>(∃c,bH es pf y.2.2.2.1=some c/\aM pf (some y.2.2.1)=[c])/\rk y.2.2.2.1<y.2.2.2.2/\y.1++rD (bH es pf) y.2.2.2.2 y.2.2.2.1=rD (bH es pf) (rk ⟨E1,E2,E3⟩+1) ⟨E1,E2,E3⟩/\y.1.length+y.2.2.2.2<=336200) (fun y=>y.2.2.2.2) ([],0,a,⟨E1,E2,E3⟩,rk ⟨E1,E2,E3⟩+1) [(11,none)] ⟨by rfl,?_,?_⟩ ⟨⟨d,hd,r4⟩,Nat.lt_succ_self _,rfl,?_⟩ ?_
 ·simp
 ·simp[aA,cT]
 ·have:=hD.rkl _ (hmem _ _ hd)
  simp only[List.length_nil]
  omega
 ·rintro⟨l,sp,b,y,fu⟩ ⟨⟨c,hc,hrow⟩,hfu,hch,hlen⟩
  simp only at hc hrow hfu hch hlen⊢
  have hcl:0<(aM pf (some b)).length:=by rw[hrow];exact Nat.one_pos
  have ec:(aM pf (some b)).getD 0 EK.fnd.dflt=c:=by rw[hrow];rfl
  have hby:=hD.by' y c hc
  refine gO ?_
  refine⟨fun h=>?_,fun h=>?_⟩
  ·intro sp2
   refine gO ?_
   rw[ec]at h
   obtain⟨n,z,cz,w,g1,g2,g3,g4,g5,g6,g7,g8,g9⟩: ∃(n:Nat) (z:Trip) (cz:Fnd) (w:Int),c.arc=(n:Int)/\c.s=z.a/\c.i=z.b/\c.o=z.c/\z∈ord/\bH es pf z=some cz/\dB F u v z n y w/\c.cost=cz.cost+w/\(y∈ord->rk z<rk y):=by
    rcases hby with⟨_,_,q⟩|q
    ·omega
    ·exact q
   have hz:z=⟨c.s,c.i,c.o⟩:=by rw[g2,g3,g4]
   subst hz
   obtain⟨b',nb,s1,s2,s3,s4⟩:=hm.of g6
   have e2:(@lkM EK.trip.ty EK.adr.ty (EK.instDeq .trip) es (⟨c.s,c.i,c.o⟩:Trip)).getD EK.adr.dflt=some b':=congrArg (fun x=>Option.getD x none) s3
   have hrk:=g9 (hmem y c hc)
   obtain⟨fu',rfl⟩: ∃fu',fu=fu'+1:=⟨fu-1,by omega⟩
   rw[Ky hc h]at hch
   (conv=>whnf)
   rw[ec,e2]
   refine⟨(l++[c.arc],sp2,b',⟨c.s,c.i,c.o⟩,fu'),[(11,some 13)],⟨by rfl,?_,?_⟩,⟨⟨cz,g6,s4⟩,by simp only;omega,by simpa using hch,by simp only[List.length_append,List.length_cons,List.length_nil];omega⟩,by simp only;omega⟩
   ·simp
   ·simp[aA]
    exact(aV l _ _ rfl).symm
  ·rw[ec]at h
   rw[Ba hc h,List.append_nil]at hch
   (conv=>whnf)
   refine cF (vA l (l.length+sp) sp (by omega)) [11] Tryz.call72 ?_
   rintro _ _ ⟨rfl,rfl⟩
   refine gO ?_
   refine⟨[(4,some 11)],[(4,.arr true 3 .int l.reverse sp)],5,.tup [.c (.sl 4 1 0 l.reverse.length (l.reverse.length+sp)),.c (.i Ec),.c (.i 0)],⟨by rfl,trivial,by simp⟩,by simp,.inr ⟨(⟨E1,E2,E3⟩,Ec),l.reverse,sp,⟨bH es pf,ord,rk,B,rk ⟨E1,E2,E3⟩+1,hD,hall,hE.symm,Nat.lt_succ_self _,?_⟩,by assumption,by rw[List.length_reverse];omega,rfl,rfl⟩⟩
   rw[List.reverse_reverse]
   exact hch
theorem zC {u v:List Int} {x y:Trip} {n:Nat} {w:Int} (h:dB aN u v x n y w):n=0/\x.a=0/\w=5/\(cL u x.b 1).2=true/\(cL v x.c 2).2=true/\y=⟨1,(cL u x.b 1).1,(cL v x.c 2).1⟩:=by
 obtain⟨a,h1,h2,h3,h4,h5,h6⟩:=h
 have hn:n=0:=by
  have:=(List.getElem?_eq_some_iff.1 h1).1
  simp only[aN,List.length_cons,List.length_nil]at this
  omega
 subst hn
 simp only[aN,List.getElem?_cons_zero,Option.some.injEq]at h1
 subst h1
 exact⟨rfl,h2.symm,h6,h3,h4,h5⟩
theorem vH {u v:List Int} {c:Int} {y:Trip} (h:Reach aN u v (gX aN) c y):(y=⟨0,0,0⟩/\c=0)\/(y=⟨1,1,1⟩/\c=5/\0<u.length):=by
 induction h with
 |here h=>exact .inl ⟨h.1,h.2⟩
 |on hr he ih=>
  obtain⟨_,h2,h3,h4,h5,h6⟩:=zC he
  rcases ih with⟨rfl,rfl⟩|⟨rfl,_⟩
  ·right
   refine⟨?_,by omega,?_⟩
   ·rw[h6]
    rfl
   ·unfold cL at h4
    simp only[show(1:Int)≠0 by decide,if_false,decide_eq_true_eq]at h4
    omega
  ·cases h2
theorem Ga {A:Trip->Option Int} (hA:qQ aN [1] [2] (gX aN) A):A ⟨1,1,1⟩=some 5/\bJ A [-1,1] 1 1 2=(⟨1,1,1⟩,6):=by
 have h0:Reach aN [1] [2] (gX aN) 0 ⟨0,0,0⟩:= .here ⟨rfl,rfl⟩
 have he:dB aN [1] [2] ⟨0,0,0⟩ 0 ⟨1,1,1⟩ 5:=⟨⟨0,1,2,1,5⟩,rfl,rfl,rfl,rfl,rfl,rfl⟩
 have h1:Reach aN [1] [2] (gX aN) (0+5) ⟨1,1,1⟩:= .on h0 he
 obtain⟨c,h2,h3⟩:=hA.least _ _ h1
 have h4:A ⟨1,1,1⟩=some 5:=by
  rcases vH (hA.path _ _ h2)with⟨q,_⟩|⟨_,q,_⟩
  ·cases q
  ·rw[h2,q]
 refine⟨h4,?_⟩
 have e1:bJ A [-1,1] 1 1 1=(⟨0,0,0⟩,-1):=by
  cases hd:A ⟨((0:Nat):Int),1,1⟩with
  |none=>exact gZ hd
  |some d=>exact mX hd (.inl rfl)
 have:=mE (D:=A) (fin:= [-1,1]) (p:=1) (q:=1) (k:=1) (d:=5) h4 (by decide) (.inl (by rw[e1]))
 exact this
theorem aBl {A:Trip->Option Int} (hA:qQ aN [] [] (gX aN) A):(bJ A [-1,1] 0 0 2).2= -1:=by
 have h4:A ⟨((1:Nat):Int),0,0⟩=none:=by
  cases h:A ⟨((1:Nat):Int),0,0⟩with
  |none=>rfl
  |some c=>
   rcases vH (hA.path _ _ h)with⟨q,_⟩|⟨q,_⟩
   ·cases q
   ·cases q
 have e1:bJ A [-1,1] 0 0 1=(⟨0,0,0⟩,-1):=by
  cases hd:A ⟨((0:Nat):Int),0,0⟩with
  |none=>exact gZ hd
  |some d=>exact mX hd (.inl rfl)
 rw[gZ h4,e1]
theorem Yl {E:Trip×Int} {l:List Int} (h:aAD aN [1] [2] E l):E.2=6/\l=[0]:=by
 obtain⟨D,ord,rk,B,n,hD,hall,hE,hn,hl⟩:=h
 have h1:=Ga (hD.least hall)
 have hE2:E=(⟨1,1,1⟩,6):=hE.trans h1.2
 subst hE2
 refine⟨rfl,?_⟩
 obtain⟨d,hd,_⟩:=Option.map_eq_some_iff.1 h1.1
 obtain⟨m,rfl⟩: ∃m,n=m+1:=⟨n-1,by omega⟩
 have key:rD D (m+1) ⟨1,1,1⟩=[0]:=by
  rcases hD.by' _ d hd with⟨q,_⟩|⟨k,x,c,w,g1,g2,g3,g4,g5,g6,g7,_,_⟩
  ·cases q
  ·obtain⟨rfl,q2,q3,q4,q5,q6⟩:=zC g7
   have hx:x=⟨0,0,0⟩:=by
    rcases vH ((hD.least hall).path x c.cost (by simp[g6]))with⟨q,_⟩|⟨q,_⟩
    ·exact q
    ·rw[q]at q2;cases q2
   subst hx
   have e:(⟨d.s,d.i,d.o⟩:Trip)=⟨0,0,0⟩:=by rw[g2,g3,g4]
   rw[Ky hd (by omega),g1,e]
   congr 1
   rcases hD.by' _ c g6 with⟨_,_,q⟩|⟨k,x,c',w,_,_,_,_,_,_,q,_,_⟩
   ·exact Ba g6 (by omega) m
   ·have:=(zC q).2.2.2.2.2
    cases this
 rw[key]at hl
 have:=congrArg List.reverse hl
 rwa [List.reverse_reverse]at this
theorem Qt:cG aN [1] [2]=0:=by decide
theorem aBk:cG aN [] []=0:=by decide
theorem Fh:Ct Tryz.prog 5 [] [] [] 0 (Is 0 (.b true)):=by
 refine ctW Tryz.tyOk 8 [] Tryz.func5 rfl (by simp) (by simp) (fr:= []) rfl ?_
 refine gO ?_
 refine cF (eK) [] Tryz.call33 ?_
 rintro _ _ ⟨rfl,rfl⟩
 (conv=>whnf)
 refine aO (Ii aN [1] [2] 1 1 (by decide) Qt) [0,1,2,3] Tryz.call36 rfl (by simp[aN,cO]) (by simp[aN,cO]) (by simp) ?_
 rintro _ _ ⟨A,hA,rfl,rfl⟩
 have hA2:=(Ga hA).2
 rw[show(bJ A aN.fin (([1]:List Int).length:Int) (([2]:List Int).length:Int) aN.fin.length)=bJ A [-1,1] 1 1 2 from rfl,hA2]
 clear hA hA2
 refine gO ?_
 refine cF (eK) [] Tryz.call33 ?_
 rintro _ _ ⟨rfl,rfl⟩
 (conv=>whnf)
 refine nA 3 .int (args':= [SV.a (SA.agg [SC.i 2,SC.i 0,SC.sl 4 1 0 2 2,SC.sl 5 5 0 1 1]),.c (.sl 6 1 0 0 0),.c (.v (.slice none 0 0))]) (fun β=>by simp[SV.den,SA.den,SC.den,Env.add]) ?_
 (conv=>whnf)
 refine nA 3 .int (args':= [SV.a (SA.agg [SC.i 2,SC.i 0,SC.sl 4 1 0 2 2,SC.sl 5 5 0 1 1]),.c (.sl 6 1 0 0 0),.c (.sl 7 1 0 0 0)]) (fun β=>by simp[SV.den,SA.den,SC.den,Env.add]) ?_
 (conv=>whnf)
 refine aO (Ii aN [] [] 0 0 (by decide) aBk) [4,5,6,7] Tryz.call36 rfl (by simp[aN,cO]) (by simp[aN,cO]) (by simp) ?_
 rintro _ _ ⟨A,hA,rfl,rfl⟩
 have hA2:=aBl hA
 rw[show(bJ A aN.fin (([]:List Int).length:Int) (([]:List Int).length:Int) aN.fin.length).2=(bJ A [-1,1] 0 0 2).2 from rfl,hA2]
 clear hA hA2
 refine gO ?_
 refine cF (eK) [] Tryz.call33 ?_
 rintro _ _ ⟨rfl,rfl⟩
 (conv=>whnf)
 refine aO (Pm aN [1] [2] 1 1 (by decide) Qt) [8,9,10,11] Tryz.call25 rfl (by simp[aN,cO]) (by simp[aN,cO]) (by simp) ?_
 rintro x s (⟨A,hA,hA2,_⟩|⟨E,l,sp,hW,hE,_,rfl,rfl⟩)
 ·have h1:=(Ga hA).2
  have h2:(bJ A [-1,1] 1 1 2).2= -1:=hA2
  rw[h1]at h2
  cases h2
 obtain⟨h1,rfl⟩:=Yl hW
 rw[h1]
 clear hW hE h1
 refine gO ?_
 refine cF (yC [1] 1) [13] Tryz.call37 ?_
 rintro _ _ ⟨rfl,rfl⟩
 rw[show lQ [1]=0 by decide]
 refine gO ?_
 refine aQ.is ?_
 simp only[eqV,eqA,eqC]
 rfl
theorem Dz {l:List Int} {p x:Int} (hp:0<=p/\p<=l.length) (h:(cL l p x).2=true):l.take (cL l p x).1.toNat=l.take p.toNat++lab x:=by
 unfold cL lab at*
 by_cases e:x=0
 ·simp[if_pos e]
 ·rw[if_neg e]at h⊢
  rw[if_neg e]
  simp only[decide_eq_true_eq]at h⊢
  have h1:(p+1).toNat=p.toNat+1:=by omega
  rw[h1,aY l p.toNat 0 (by omega),h.2]
section
variable {F:TF} {u v:List Int}
theorem Reach.way (hF:FOk F) {c:Int} {y:Trip} (h:Reach F u v (gX F) c y):Ex F u v y/\Way F.arcs F.start (u.take y.b.toNat) (v.take y.c.toNat) y.a c:=by
 induction h with
 |here h=>
  obtain⟨rfl,rfl⟩:=h
  have:=hF.start
  refine⟨⟨this,⟨Int.le_refl _,?_⟩,⟨Int.le_refl _,?_⟩⟩,.nil _⟩<;>(show(0:Int)<=_;omega)
 |on h he ih=>
  obtain⟨hx,hw⟩:=ih
  have hb:=he.box hF hx
  refine⟨hb,?_⟩
  obtain⟨a,h1,h2,h3,h4,rfl,rfl⟩:=he
  have ha:=List.mem_of_getElem? h1
  rw[<-h2]at hw
  simp only
  rw[Dz hx.2.1 h3,Dz hx.2.2 h4]
  exact hw.snoc ha
theorem Ro {u1 u2:List Int} {x:Int}:(cL (u1++(lab x++u2)) u1.length x).2=true/\(cL (u1++(lab x++u2)) u1.length x).1=((u1++lab x).length:Int):=by
 unfold cL lab
 by_cases e:x=0
 ·simp[if_pos e]
 ·rw[if_neg e,if_neg e]
  refine⟨?_,by simp⟩
  simp only[decide_eq_true_eq,Int.toNat_natCast]
  refine⟨by simp;omega,?_⟩
  simp[List.getD]
theorem Way.reach {S:Trip->Int->Prop} {s t:Int} {p q:List Int} {c:Int} (h:Way F.arcs s p q t c): ∀ {u1 u2 v1 v2:List Int} {c0:Int},u=u1++(p++u2)->v=v1++(q++v2)->Reach F u v S c0 ⟨s,u1.length,v1.length⟩->
  Reach F u v S (c0+c) ⟨t,(u1++p).length,(v1++q).length⟩:=by
 induction h with
 |nil s=>intro u1 u2 v1 v2 c0 _ _ h;simpa using h
 |cons ha h ih=>
  rename_i a p q t c
  intro u1 u2 v1 v2 c0 hu hv hr
  obtain⟨n,hn,he⟩:=List.getElem_of_mem ha
  have f1:=Ro (u1:=u1) (u2:=p++u2) (x:=a.i)
  have f2:=Ro (u1:=v1) (u2:=q++v2) (x:=a.o)
  rw[List.append_assoc]at hu hv
  rw[<-hu]at f1
  rw[<-hv]at f2
  have hedge:dB F u v ⟨a.f,u1.length,v1.length⟩ n ⟨a.t,(u1++lab a.i).length,(v1++lab a.o).length⟩ a.w:=
   ⟨a,by rw[List.getElem?_eq_getElem hn,he],rfl,f1.1,f2.1,by rw[f1.2,f2.2],rfl⟩
  have:=ih (u1:=u1++lab a.i) (u2:=u2) (v1:=v1++lab a.o) (v2:=v2) (by simp[hu]) (by simp[hv]) (.on hr hedge)
  rw[<-Int.add_assoc,<-List.append_assoc,<-List.append_assoc]
  exact this
theorem vD (hF:FOk F) {c t:Int}:Reach F u v (gX F) c ⟨t,u.length,v.length⟩ <-> Way F.arcs F.start u v t c:=by
 constructor
 ·intro h
  have:=(h.way hF).2
  simpa using this
 ·intro h
  have:=h.reach (u:=u) (v:=v) (S:=gX F) (u1:= []) (u2:= []) (v1:= []) (v2:= []) (c0:=0) (by simp) (by simp) (.here ⟨rfl,rfl⟩)
  simpa using this
theorem Ko {A:Trip->Option Int} {fin:List Int} {p q:Int} (hf: ∀x∈fin,-1<=x) (hA: ∀y d,A y=some d->0<=d): ∀k,k<=fin.length->cB (fun c=> ∃(n:Nat) (d:Int),n<k/\A ⟨n,p,q⟩=some d/\fin.getD n 0≠ -1/\c=d+fin.getD n 0) (bJ A fin p q k).2
 |0,_=> .inl ⟨rfl,fun c h=>by obtain⟨n,d,h,_⟩:=h;omega⟩
 |k+1,hk=>by
  have ih:=Ko (p:=p) (q:=q) hf hA k (by omega)
  have hfk:=hf _ (aB fin k 0 (by omega))
  cases hd:A ⟨k,p,q⟩with
  |none=>
   rw[gZ hd]
   rcases ih with⟨h1,h2⟩|⟨h0,⟨n,d,h1,h2⟩,h3⟩
   ·left
    refine⟨h1,?_⟩
    rintro c ⟨n,d,g1,g2,g3⟩
    by_cases e:n=k
    ·subst e;rw[hd]at g2;cases g2
    ·exact h2 c ⟨n,d,by omega,g2,g3⟩
   ·right
    refine⟨h0,⟨n,d,by omega,h2⟩,?_⟩
    rintro c ⟨n,d,g1,g2,g3⟩
    by_cases e:n=k
    ·subst e;rw[hd]at g2;cases g2
    ·exact h3 c ⟨n,d,by omega,g2,g3⟩
  |some d=>
   have hd0:=hA _ _ hd
   by_cases q1:fin.getD k 0= -1
   ·rw[mX hd (.inl q1)]
    rcases ih with⟨h1,h2⟩|⟨h0,⟨n,d,h1,h2⟩,h3⟩
    ·left
     refine⟨h1,?_⟩
     rintro c ⟨n,d,g1,g2,g3,g4⟩
     by_cases e:n=k
     ·subst e;exact g3 q1
     ·exact h2 c ⟨n,d,by omega,g2,g3,g4⟩
    ·right
     refine⟨h0,⟨n,d,by omega,h2⟩,?_⟩
     rintro c ⟨n,d,g1,g2,g3,g4⟩
     by_cases e:n=k
     ·subst e;exact absurd q1 g3
     ·exact h3 c ⟨n,d,by omega,g2,g3,g4⟩
   ·by_cases q2:(bJ A fin p q k).2= -1\/d+fin.getD k 0<(bJ A fin p q k).2
    ·rw[mE hd q1 q2]
     right
     refine⟨by show 0<=d+fin.getD k 0;omega,⟨k,d,by omega,hd,q1,rfl⟩,?_⟩
     rintro c ⟨n,d',g1,g2,g3,g4⟩
     by_cases e:n=k
     ·subst e;rw[hd]at g2;cases g2;simp only;omega
     ·rcases ih with⟨h1,h2⟩|⟨h0,_,h3⟩
      ·exact absurd ⟨n,d',by omega,g2,g3,g4⟩ (h2 c)
      ·have:=h3 c ⟨n,d',by omega,g2,g3,g4⟩
       simp only
       omega
    ·rw[mX hd (.inr ⟨fun c=>q2 (.inl c),fun c=>q2 (.inr c)⟩)]
     rcases ih with⟨h1,h2⟩|⟨h0,⟨n,d',h1,h2⟩,h3⟩
     ·exact absurd (.inl h1) q2
     ·right
      refine⟨h0,⟨n,d',by omega,h2⟩,?_⟩
      rintro c ⟨n,d',g1,g2,g3,g4⟩
      by_cases e:n=k
      ·subst e;rw[hd]at g2;cases g2;omega
      ·exact h3 c ⟨n,d',by omega,g2,g3,g4⟩
theorem Tc (hF:FOk F) {A:Trip->Option Int} (hA:qQ F u v (gX F) A):cB (Wt F u v) (bJ A F.fin u.length v.length F.fin.length).2:=by
 have hfl:=hF.finl
 have hpos: ∀y d,A y=some d->0<=d:=fun y d h=>((hA.path y d h).way hF).2.pos hF.arc
 have:=Ko (p:=u.length) (q:=v.length) (fun x hx=>(hF.fin x hx).1) hpos F.fin.length (Nat.le_refl _)
 rcases this with⟨h1,h2⟩|⟨h0,⟨n,d,h1,h2,h3,h4⟩,h5⟩
 ·left
  refine⟨h1,?_⟩
  rintro c ⟨t,d,g1,g2,g3⟩
  obtain⟨c',g4,g5⟩:=hA.least _ _ ((vD hF).2 g1)
  have hr:=g1.rng hF.arc hF.start
  have e:(t.toNat:Int)=t:=by omega
  exact h2 _ ⟨t.toNat,c',by omega,by rw[e];exact g4,g2,rfl⟩
 ·right
  refine⟨h0,⟨n,d,(vD hF).1 (hA.path _ _ h2),by rw[Int.toNat_natCast];exact h3,by rw[Int.toNat_natCast];exact h4⟩,?_⟩
  rintro c ⟨t,d,g1,g2,g3⟩
  obtain⟨c',g4,g5⟩:=hA.least _ _ ((vD hF).2 g1)
  have hr:=g1.rng hF.arc hF.start
  have e:(t.toNat:Int)=t:=by omega
  have:=h5 _ ⟨t.toNat,c',by omega,by rw[e];exact g4,g2,rfl⟩
  omega
end
theorem Rr {A:Trip->Option Int} {fin:List Int} {p q:Int} (hf: ∀x∈fin,x<=1000000000) (hA: ∀y d,A y=some d->d<=1000000000000000): ∀k,k<=fin.length->(bJ A fin p q k).2<=1000001000000000
 |0,_=>by simp[bJ]
 |k+1,hk=>by
  have ih:=Rr (p:=p) (q:=q) hf hA k (by omega)
  have hfk:=hf _ (aB fin k 0 (by omega))
  cases hd:A ⟨k,p,q⟩with
  |none=>rw[gZ hd];exact ih
  |some d=>
   have:=hA _ _ hd
   by_cases c:fin.getD k 0≠ -1/\((bJ A fin p q k).2= -1\/d+fin.getD k 0<(bJ A fin p q k).2)
   ·rw[mE hd c.1 c.2];show d+fin.getD k 0<=_;omega
   ·rw[mX hd]
    ·exact ih
    ·by_cases c1:fin.getD k 0= -1
     ·exact .inl c1
     ·exact .inr ⟨fun e=>c ⟨c1,.inl e⟩,fun e=>c ⟨c1,.inr e⟩⟩
def sO (F:TF) (u v:List Int) (n:Int):Prop:=(cG F u v=0->cB (Wt F u v) n/\n<=1000001000000000)/\(cG F u v≠0->n=0)
theorem pZ (F:TF) (u v:List Int) (cu cv:Nat) (hl:F.fin.length<=9223372036854775807) (hsc:cG F u v=0):
  Ct Tryz.prog 36 [fV F,.c (.sl 2 1 0 u.length cu),.c (.sl 3 1 0 v.length cv)] [] (hpQ F u v) 4 (fun x s=> ∃n,sO F u v n/\x= .tup [.c (.i n),.c (.i 0)]/\s=⟨[],[],4⟩):=by
 have hF:FOk F:=by
  refine aK ?_
  unfold cG at hsc
  by_cases h:aL F=0
  ·exact h
  ·rw[if_pos h]at hsc;exact absurd hsc h
 refine ctW Tryz.tyOk 12 [] Tryz.func36 rfl (by simp) (by simp) (fr:= [(0,fV F),(1,.c (.sl 2 1 0 u.length cu)),(2,.c (.sl 3 1 0 v.length cv))]) rfl ?_
 refine gO ?_
 refine cF (Fa F u v cu cv hl hsc) [0,1,2,3] Tryz.call73 ?_
 rintro _ _ ⟨rows,pi,es,clk,pf,⟨hm,ord,rk,B,hol,hD,hB,hall⟩,rfl,rfl⟩
 refine gO ?_
 refine⟨[],[],4,.tup [.c (.i (bJ (cW es pf) F.fin u.length v.length F.fin.length).2),.c (.i 0)],⟨by rfl,trivial,trivial⟩,by simp,_,⟨fun _=>⟨Tc hF (hD.least hall),?_⟩,fun c=>absurd hsc c⟩,rfl,rfl⟩
 refine Rr (fun x hx=>(hF.fin x hx).2) (fun y d h=>?_) _ (Nat.le_refl _)
 obtain⟨e,h1,rfl⟩:=Option.map_eq_some_iff.1 h
 have:=(hD.cost y e h1).2
 omega
abbrev oJ:TF:=⟨2,0,[-1,1],[⟨0,1,1,1,5⟩],2,1⟩
abbrev aDw (i j:Nat):SV:= .a (.agg [.i 2,.i 0,.sl i 1 0 2 2,.sl j 5 0 1 1])
theorem yO:Ct Tryz.prog 39 [] [] [] 0 (fun v s=>v=aDw 0 1/\s=⟨[],[(0,.arr true 3 .int [-1,1] 0),(1,.arr true 55 .arc [⟨0,1,1,1,5⟩] 0)],2⟩):=by
 refine ctW Tryz.tyOk 2 [] Tryz.func39 rfl (by simp) (by simp) (fr:= []) rfl ?_
 refine gO ?_
 refine cF (eK) [] Tryz.call33 ?_
 rintro _ _ ⟨rfl,rfl⟩
 refine gM ?_
 exact⟨[(0,some 1),(1,some 4)],[(0,.arr true 3 .int [-1,1] 0),(1,.arr true 55 .arc [⟨0,1,1,1,5⟩] 0)],2,aDw 0 1,⟨by rfl,trivial,by simp⟩,by simp,rfl,rfl⟩
theorem aDv {p:Nat->Bool} (h:nH oJ p):p 0=true/\p 1=true:=by
 have ha:(⟨0,1,1,1,5⟩:Arc)∈oJ.arcs:=by simp
 have r0:Rch oJ.arcs false [oJ.start] 0:= .here (by simp)
 have r1:Rch oJ.arcs false [oJ.start] 1:=Rch.on r0 ha rfl
 have b1:Rch oJ.arcs true [((1:Nat):Int)] 1:= .here (by simp)
 have b0:Rch oJ.arcs true [((1:Nat):Int)] 0:=Rch.on b1 ha rfl
 exact⟨(h.iff 0 (by decide)).2 ⟨r0,1,by decide,by decide,b0⟩,(h.iff 1 (by decide)).2 ⟨r1,1,by decide,by decide,b1⟩⟩
theorem Xn {U:TF} (h:lC oJ U):U=⟨2,0,[-1,1],[⟨0,1,1,1,5⟩],U.capF,U.capA⟩:=by
 obtain⟨p,hp,h1,h2,h3,h4⟩:=h
 obtain⟨p0,p1⟩:=aDv hp
 have hk:kT oJ p=⟨2,0,[-1,1],[⟨0,1,1,1,5⟩],0,0⟩:=by
  simp[kT,oJ,rkB,bY,bW,kOk,jN,p0,p1,List.getD,aD]
 rw[hk]at h1 h2 h3 h4
 obtain⟨a,b,c,d,e,f⟩:=U
 simp only at h1 h2 h3 h4⊢
 rw[h1,h2,h3,h4]
theorem aA4 (c d:Nat):iO ⟨2,0,[-1,1],[⟨0,1,1,1,5⟩],c,d⟩ 201 200 [⟨0,0⟩]=2:=by kernel_rfl
theorem Xo (c d:Nat):bN ⟨2,0,[-1,1],[⟨0,1,1,1,5⟩],c,d⟩ 2=([[⟨0,0⟩],[⟨1,0⟩]],[⟨0,1,1,1,5⟩]):=by kernel_rfl
theorem Qf (c d:Nat):([[⟨0,0⟩],[⟨1,0⟩]]:List (List Duo)).map (bQ ⟨2,0,[-1,1],[⟨0,1,1,1,5⟩],c,d⟩)=[-1,1]:=by kernel_rfl
theorem Ik {c d:Nat} {st:DS} (h:jI ⟨2,0,[-1,1],[⟨0,1,1,1,5⟩],c,d⟩ st):st=([[⟨0,0⟩],[⟨1,0⟩]],[⟨0,1,1,1,5⟩]):=
 h.uniq ⟨2,Xo c d,rfl⟩
theorem aA3 {x:Glo} {v:SV} {s:S} (h:Sm oJ x v s): ∃sp sq,v= .tup [.agg [.i 2,.i 0,.sl 3 1 0 2 (2+sp),.sl 4 5 0 1 (1+sq)],.c (.i 0)]/\
  s=⟨[],[(2,aF x),(3,.arr true 3 .int [-1,1] sp),(4,.arr true 55 .arc [⟨0,1,1,1,5⟩] sq)],5⟩:=by
 rcases h with⟨h,_⟩|⟨_,U,hus,⟨h,_,_⟩|⟨_,st,hmd,_,sp,sq,h1,h2⟩⟩
 ·exact absurd (by decide:Ao oJ=0) h
 ·have hU:=Xn hus
  rw[hU]at h
  rcases h with h|⟨_,st,hmd,hg⟩
  ·rw[aA4]at h;omega
  ·have:=Ik hmd
   subst this
   rw[Qf]at hg
   exact absurd hg (by decide)
 ·have hU:=Xn hus
  rw[hU]at hmd h1 h2
  have:=Ik hmd
  subst this
  simp only[Qf]at h1 h2
  exact⟨sp,sq,h1,h2⟩
theorem Td {cf ca:Nat} {n:Int} (h:sO ⟨2,0,[-1,1],[⟨0,1,1,1,5⟩],cf,ca⟩ [1] [1] n):n=6:=by
 have h1:=(h.1 (by kernel_rfl)).1
 have hw:Wt ⟨2,0,[-1,1],[⟨0,1,1,1,5⟩],cf,ca⟩ [1] [1] 6:=iX.2 ⟨by decide,by decide,rfl⟩
 rcases h1 with⟨_,h2⟩|⟨_,h2,_⟩
 ·exact absurd hw (h2 6)
 ·exact(iX.1 h2).2.2
abbrev Qg:TF:=⟨2,0,[-1,1],[⟨0,1,1,0,2⟩,⟨0,1,1,1,5⟩],2,2⟩
theorem Mo:Fk Qg= .tup [.c (.b true),.c (.i 0)]:=by kernel_rfl
theorem aA5:isV Qg= .tup [.c (.b false),.c (.i 0)]:=by kernel_rfl
theorem aCE (c d:Nat):isV ⟨2,0,[-1,1],[⟨0,1,1,1,5⟩],c,d⟩= .tup [.c (.b true),.c (.i 0)]:=by kernel_rfl
theorem wD (x:Glo) (hx:gJ x):Ct Tryz.prog 10 [] [] [(0,aF x)] 1 (fun v s=>v= .b true/\s=⟨[],[(0,aF x)],1⟩):=by
 refine ctW Tryz.tyOk 12 [] Tryz.func10 rfl (by simp) (by simp) (fr:= []) rfl ?_
 refine gO ?_
 refine cF (yO) [] Tryz.call39 ?_
 rintro _ _ ⟨rfl,rfl⟩
 refine gM ?_
 refine cI (aA7 Qg (by decide)) [1,4] Tryz.call43 ?_
 rw[Mo]
 refine gM ?_
 refine cI (aDJ Qg (by decide)) [1,4] Tryz.call44 ?_
 rw[aA5]
 refine gM ?_
 refine cF (yO) [] Tryz.call39 ?_
 rintro _ _ ⟨rfl,rfl⟩
 refine gM ?_
 refine cF (xC oJ (by decide) x hx) [5,6,0] Tryz.call26 ?_
 rintro v s hd
 obtain⟨sp,sq,rfl,rfl⟩:=aA3 hd
 clear hd
 try simp only[Nat.reduceAdd,Nat.reduceSub]
 refine gM ?_
 refine cF (pZ ⟨2,0,[-1,1],[⟨0,1,1,1,5⟩],2+sp,1+sq⟩ [1] [1] 1 1 (show([-1,1]:List Int).length<=9223372036854775807 by decide) (by kernel_rfl)) [7,8,10,11] Tryz.call36 ?_
 rintro _ _ ⟨n,hn,rfl,rfl⟩
 have hn6:=Td hn
 subst hn6
 clear hn
 try simp only[Nat.reduceAdd,Nat.reduceSub]
 refine gM ?_
 refine cI (aDJ ⟨2,0,[-1,1],[⟨0,1,1,1,5⟩],2+sp,1+sq⟩ (show([-1,1]:List Int).length<=9223372036854775807 by decide)) [7,8] Tryz.call44 ?_
 rw[aCE]
 refine gI ?_
 exact⟨[],[(0,aF x)],1,.b true,⟨by rfl,trivial,by simp⟩,by simp,rfl,rfl⟩
def aDk (p:Nat->Bool) (k:Nat) (to:List Int) (n:Nat):Prop:=to.length=n/\ ∀j,j<k->p j=true->to.getD j 0=(rkB p j:Nat)
theorem Wn (F:TF) (hF:FRng F) (hs:0<=F.start/\F.start<F.st) (hfin: ∀n∈F.fin,-1<=n):
  Ct Tryz.prog 14 [fV F] [] (hpF F) 2 (fun v s=> ∃p,nH F p/\lM (kT F p).st (kT F p).start (kT F p).fin (kT F p).arcs 2 v s):=by
 have hst:=hF.st
 have hal:=hF.arcl
 have hfl:=hF.finl
 refine ctC Tryz.tyOk Tryz.func14 rfl (by simp) (by simp) (fr:= [(0,fV F)]) rfl ?_
 refine gH.cut Tryz.tyOk 14 [] (fun _:Unit=>⟨[(1,.c (.ptr 2 0)),(2,.c (.ptr 3 0)),(3,.c (.sl 4 1 0 F.st.toNat F.st.toNat)),(4,.c (.sl 5 1 0 F.st.toNat F.st.toNat))],hpF F++[(2,.box 25 (aA F)),(3,.box 25 aW),(4,.arr true 4 .bool (List.replicate F.st.toNat false) 0),(5,.arr true 4 .bool (List.replicate F.st.toNat false) 0)],6⟩) (fun _=>True) 2 _ _ ?_ ?_
 ·refine gO ?_
  refine⟨⟨?_,?_⟩,?_⟩
  all_goals
   (conv=>whnf)
   first
   |(refine⟨(),[],⟨by rfl,?_,?_⟩,trivial⟩;(focus (simp;done));(focus (simp[aA,EK.dflt];done)))
   |(refine⟨(),[(4,some 5),(5,some 4)],⟨by rfl,?_,?_⟩,trivial⟩;(focus (simp;done));(focus (simp[aA,EK.dflt];done)))
 rintro _-
 refine gH.of Tryz.tyOk 14 [] ?_
 refine gO ?_
 refine aJ (fun z:Nat×List Bool=>⟨[(1,.c (.ptr 2 0)),(2,.c (.ptr 3 0)),(3,.c (.sl 4 1 0 F.st.toNat F.st.toNat)),(4,.c (.sl 5 1 0 F.st.toNat F.st.toNat)),(5,.i z.1)],hpF F++[(2,.box 25 (aA F)),(3,.box 25 aW),(4,.arr true 4 .bool ((List.replicate F.st.toNat false).set F.start.toNat true) 0),(5,.arr true 4 .bool z.2 0)],6⟩)
  (fun z=>z.1<=F.st.toNat/\z.2.length=F.st.toNat/\ ∀j,j<z.1->(z.2.getD j false=true <-> F.fin.getD j 0≠ -1)) (fun z=>F.st.toNat-z.1) (0,List.replicate F.st.toNat false) [] ⟨by rfl,?_,?_⟩ ⟨Nat.zero_le _,by simp,fun j h=>absurd h (Nat.not_lt_zero _)⟩ ?_
 ·simp
 ·simp[aA,EK.dflt]
 ·rintro⟨k,on⟩ ⟨hk,hol,ho⟩
  simp only at hk hol ho⊢
  (conv=>whnf)
  refine aG (fun hk2=>?_) (fun hk2=>?_)
  ·have e0:0+(k:Int).toNat=k:=by omega
   have hfk:=hfin _ (aB F.fin k 0 (by omega))
   refine gO ?_
   refine⟨(k+1,on.set (0+(k:Int).toNat) (decide (F.fin.getD (0+(k:Int).toNat) EK.int.dflt>=0))),[],⟨by rfl,?_,?_⟩,⟨by simp only;omega,by simp[hol],fun j hj=>?_⟩,by simp only;omega⟩
   ·simp
   ·simp[aA]
   ·simp only at hj⊢
    rw[e0,uX _ _ _ _ (by omega)]
    by_cases e:j=k
    ·rw[if_pos e,e,decide_eq_true_eq]
     have:F.fin.getD k EK.int.dflt=F.fin.getD k 0:=rfl
     rw[this]
     omega
    ·rw[if_neg e];exact ho j (by omega)
  ·have e:k=F.st.toNat:=by omega
   subst e
   have hsrF:=fun a ha=>hF.src (bk:=false) (a:=a) ha
   have hsrT:=fun a ha=>hF.src (bk:=true) (a:=a) ha
   have hth0:((List.replicate F.st.toNat false).set F.start.toNat true).length=F.st.toNat:=by simp
   have hthi: ∀j:Nat,j<F.st.toNat->(((List.replicate F.st.toNat false).set F.start.toNat true).getD j false=true <-> (j:Int)∈ [F.start]):=by
    intro j hj
    rw[uX _ _ _ _ (by simp;omega)]
    by_cases e:j=F.start.toNat
    ·rw[if_pos e];simp;omega
    ·rw[if_neg e]
     simp[List.getD,hj]
     omega
   generalize hth:(List.replicate F.st.toNat false).set F.start.toNat true=th0 at*
   refine gO ?_
   refine aJ (fun n:Nat=>⟨[(1,.c (.ptr 2 0)),(2,.c (.ptr 3 0)),(3,.c (.sl 4 1 0 F.st.toNat F.st.toNat)),(4,.c (.sl 5 1 0 F.st.toNat F.st.toNat)),(6,.i n)],hpF F++[(2,.box 25 (aA F)),(3,.box 25 aW),(4,.arr true 4 .bool (itM F.arcs false th0 n) 0),(5,.arr true 4 .bool (itM F.arcs true on n) 0)],6⟩)
    (fun n=>n<=F.st.toNat) (fun n=>F.st.toNat-n) 0 [] ⟨by rfl,?_,?_⟩ (Nat.zero_le _) ?_
   ·simp
   ·simp[aA,itM]
   ·clear hk2
    intro n hn
    (conv=>whnf)
    refine aG (fun hn2=>?_) (fun hn2=>?_)
    ·have hT1:itM F.arcs false th0 (n+1)=mkP F.arcs false (itM F.arcs false th0 n) F.arcs.length:=rfl
     have hT2:itM F.arcs true on (n+1)=mkP F.arcs true (itM F.arcs true on n) F.arcs.length:=rfl
     have hl1:(itM F.arcs false th0 n).length=F.st.toNat:=by rw[mV,hth0]
     have hl2:(itM F.arcs true on n).length=F.st.toNat:=by rw[mV,hol]
     generalize hg1:itM F.arcs false th0 n=t1 at*
     generalize hg2:itM F.arcs true on n=o1 at*
     refine gO ?_
     refine aJ (fun k:Nat=>⟨[(1,.c (.ptr 2 0)),(2,.c (.ptr 3 0)),(3,.c (.sl 4 1 0 F.st.toNat F.st.toNat)),(4,.c (.sl 5 1 0 F.st.toNat F.st.toNat)),(6,.i n),(7,.i k)],hpF F++[(2,.box 25 (aA F)),(3,.box 25 aW),(4,.arr true 4 .bool (mkP F.arcs false t1 k) 0),(5,.arr true 4 .bool (mkP F.arcs true o1 k) 0)],6⟩)
      (fun k=>k<=F.arcs.length) (fun k=>F.arcs.length-k) 0 [] ⟨by rfl,?_,?_⟩ (Nat.zero_le _) ?_
     ·simp
     ·simp[aA,mkP]
     ·intro k hk
      have hm1:(mkP F.arcs false t1 k).length=F.st.toNat:=by rw[xP,hl1]
      have hm2:(mkP F.arcs true o1 k).length=F.st.toNat:=by rw[xP,hl2]
      have hs1:mkP F.arcs false t1 (k+1)=(mkP F.arcs false t1 k).set (F.arcs.getD k aD).t.toNat ((mkP F.arcs false t1 k).getD (F.arcs.getD k aD).t.toNat false||(mkP F.arcs false t1 k).getD (F.arcs.getD k aD).f.toNat false):=rfl
      have hs2:mkP F.arcs true o1 (k+1)=(mkP F.arcs true o1 k).set (F.arcs.getD k aD).f.toNat ((mkP F.arcs true o1 k).getD (F.arcs.getD k aD).f.toNat false||(mkP F.arcs true o1 k).getD (F.arcs.getD k aD).t.toNat false):=rfl
      generalize hgm1:mkP F.arcs false t1 k=m1 at*
      generalize hgm2:mkP F.arcs true o1 k=m2 at*
      (conv=>whnf)
      refine aG (fun hk2=>?_) (fun hk2=>?_)
      ·have e0:0+(k:Int).toNat=k:=by omega
       have hb:=hF.arc _ (aB F.arcs k aD (by omega))
       have hb1:(0<=(F.arcs.getD (0+(k:Int).toNat) EK.arc.dflt).t/\(F.arcs.getD (0+(k:Int).toNat) EK.arc.dflt).t<F.st)/\0<=(F.arcs.getD (0+(k:Int).toNat) EK.arc.dflt).f/\(F.arcs.getD (0+(k:Int).toNat) EK.arc.dflt).f<F.st:=by rw[e0];exact⟨hb.2.2,hb.1,hb.2.1⟩
       have hs1:mkP F.arcs false t1 (k+1)=m1.set (0+(F.arcs.getD (0+(k:Int).toNat) EK.arc.dflt).t.toNat) (m1.getD (0+(F.arcs.getD (0+(k:Int).toNat) EK.arc.dflt).t.toNat) EK.bool.dflt||m1.getD (0+(F.arcs.getD (0+(k:Int).toNat) EK.arc.dflt).f.toNat) EK.bool.dflt):=by rw[e0,Nat.zero_add,Nat.zero_add];exact hs1
       have hs2:mkP F.arcs true o1 (k+1)=m2.set (0+(F.arcs.getD (0+(k:Int).toNat) EK.arc.dflt).f.toNat) (m2.getD (0+(F.arcs.getD (0+(k:Int).toNat) EK.arc.dflt).f.toNat) EK.bool.dflt||m2.getD (0+(F.arcs.getD (0+(k:Int).toNat) EK.arc.dflt).t.toNat) EK.bool.dflt):=by rw[e0,Nat.zero_add,Nat.zero_add];exact hs2
       refine gO ?_
       refine⟨fun h=>⟨fun h=>?_,fun h=>?_⟩,fun h=>⟨fun h=>?_,fun h=>?_⟩⟩
       all_goals
        rename_i g
        rw[g]at hs1
        rw[h]at hs2
        simp only[Bool.true_or,Bool.false_or]at hs1 hs2
        (conv=>whnf)
        refine⟨k+1,[],⟨by rfl,?_,?_⟩,by omega,by omega⟩
        ·simp
        ·simp[aA,hs1,hs2]
      ·have e:k=F.arcs.length:=by omega
       subst e
       refine gO ?_
       refine⟨n+1,[],⟨by rfl,?_,?_⟩,by omega,by omega⟩
       ·simp
       ·simp[aA,hT1,hT2,hgm1,hgm2]
    ·have e:n=F.st.toNat:=by omega
     subst e
     have hT:=fun j (hj:j<F.st.toNat)=>Ri (n:=F.st.toNat) (first:= [F.start]) hth0 hsrF (fun x hx=>by rw[List.mem_singleton]at hx;omega) hthi hj
     have hO:=fun j (hj:j<F.st.toNat)=>Ri (n:=F.st.toNat) (first:=mD F.fin F.st.toNat) hol hsrT (fun x hx=>by obtain⟨e,h1,h2,rfl⟩:=(iK _).1 hx;omega) (fun j hj=>by
      rw[ho j hj,iK]
      refine⟨fun h=>⟨j,hj,h,rfl⟩,fun⟨e,_,h,he⟩=>?_⟩
      have:j=e:=by omega
      rw[this];exact h) hj
     have hl1:(itM F.arcs false th0 F.st.toNat).length=F.st.toNat:=by rw[mV,hth0]
     have hl2:(itM F.arcs true on F.st.toNat).length=F.st.toNat:=by rw[mV,hol]
     generalize itM F.arcs false th0 F.st.toNat=T at*
     generalize itM F.arcs true on F.st.toNat=O at*
     have hU:nH F (kpB T O):=⟨fun j hj=>by
      unfold kpB
      rw[Bool.and_eq_true,hT j hj,hO j hj]
      constructor
      ·rintro⟨h1,h2⟩
       obtain⟨e,he,h2⟩:=yV.1 h2
       obtain⟨i,hi,h3,rfl⟩:=(iK _).1 he
       exact⟨h1,i,hi,h3,h2⟩
      ·rintro⟨h1,i,hi,h3,h2⟩
       exact⟨h1,yV.2 ⟨_,(iK _).2 ⟨i,hi,h3,rfl⟩,h2⟩⟩⟩
     have hT0:T.getD F.start.toNat false=true:=(hT _ (by omega)).2 (.here (by rw[List.mem_singleton];omega))
     clear hT hO hthi hth ho hsrF hsrT
     generalize hp:kpB T O=p at hU
     refine gO ?_
     refine⟨fun h=>?_,fun h=>?_⟩
     ·have hp0: ¬p F.start.toNat=true:=by
       rw[<-hp];unfold kpB;rw[Nat.zero_add]at h;rw[hT0,Bool.true_and]
       simpa[EK.dflt]using h
      (conv=>whnf)
      refine⟨[(2,some 6),(3,none)],[(2,.arr true 3 .int [-1] 0),(3,.arr true 55 .arc [] 0)],4,.a (.agg [.i 1,.i 0,.sl 2 1 0 1 1,.sl 3 5 0 0 0]),⟨by rfl,trivial,by simp[cT]⟩,by simp,p,hU,?_⟩
      unfold kT
      rw[if_neg hp0]
      exact⟨0,0,rfl,rfl⟩
     ·have hp0:p F.start.toNat=true:=by
       rw[<-hp];unfold kpB;rw[Nat.zero_add]at h;rw[hT0,Bool.true_and]
       simpa[EK.dflt]using h
      refine gO ?_
      refine aJ (fun z:Nat×List Int×Nat=>⟨[(1,.c (.ptr 2 0)),(2,.c (.ptr 3 0)),(3,.c (.sl 4 1 0 F.st.toNat F.st.toNat)),(4,.c (.sl 5 1 0 F.st.toNat F.st.toNat)),(9,.c (.ptr 6 0)),(10,.c (.sl 7 1 0 F.st.toNat F.st.toNat)),(11,.i z.1)],
       hpF F++[(2,.box 25 (aA F)),(3,.box 25 aW),(4,.arr true 4 .bool T 0),(5,.arr true 4 .bool O 0),(6,.box 25 [.i (rkB p z.1),.i 0,.sl 8 1 0 (bY p F.fin z.1).length ((bY p F.fin z.1).length+z.2.2),.v (.slice none 0 0)]),(7,.arr true 3 .int z.2.1 0),(8,.arr true 3 .int (bY p F.fin z.1) z.2.2)],9⟩)
       (fun z=>z.1<=F.st.toNat/\aDk p z.1 z.2.1 F.st.toNat) (fun z=>F.st.toNat-z.1) (0,List.replicate F.st.toNat 0,0) [(8,none)] ⟨by rfl,?_,?_⟩ ⟨Nat.zero_le _,by simp,fun j h=>absurd h (Nat.not_lt_zero _)⟩ ?_
      ·simp
      ·simp[aA,cT,rkB,bY,EK.dflt]
      ·rintro⟨k,to,sp⟩ ⟨hk,htl,hto⟩
       simp only at hk htl hto⊢
       have hkl:=iM p F.fin k
       have hrk:=uZ p k
       have hkf0:bY p F.fin (k+1)=if p k=true then bY p F.fin k++[F.fin.getD k 0]else bY p F.fin k:=rfl
       have hr0:rkB p (k+1)=if p k=true then rkB p k+1 else rkB p k:=rfl
       generalize hpl:bY p F.fin k=pl at*
       have e0:0+(k:Int).toNat=k:=by omega
       have hpk0:p k=(T.getD (0+(k:Int).toNat) EK.bool.dflt&&O.getD (0+(k:Int).toNat) EK.bool.dflt):=by rw[<-hp,e0];rfl
       (conv=>whnf)
       refine aG (fun hk2=>?_) (fun hk2=>?_)
       ·refine gO ?_
        refine⟨fun h=>⟨fun h=>?_,fun h=>?_⟩,fun h=>?_⟩
        ·rename_i hT1
         rw[hT1,h]at hpk0
         rw[if_pos (show p k=true from hpk0)]at hkf0 hr0
         refine gI fun _=>?_
         rename_i sp2
         refine⟨(k+1,to.set (0+(k:Int).toNat) (rkB p k:Nat),sp2),[(8,some 10)],⟨by rfl,?_,?_⟩,⟨by simp only;omega,by simp[htl],fun j hj hjp=>?_⟩,by simp only;omega⟩
         ·simp
         ·simp[hkf0,hr0,EK.dflt,e0,aA]
          simp[aV]
         ·rw[bV _ _ _ _ _ (by omega),e0]
          by_cases ej:j=k
          ·rw[if_pos ej,ej]
          ·rw[if_neg ej]
           exact hto j (by simp only at hj;omega) hjp
        ·rename_i hT1
         rw[hT1,h,Bool.and_false]at hpk0
         rw[if_neg (by rw[hpk0];simp)]at hkf0 hr0
         (conv=>whnf)
         refine⟨(k+1,to,sp),[],⟨by rfl,?_,?_⟩,⟨by simp only;omega,htl,fun j hj hjp=>?_⟩,by simp only;omega⟩
         ·simp
         ·simp[hkf0,hr0,aA]
         ·by_cases ej:j=k
          ·rw[ej,hpk0]at hjp;cases hjp
          ·exact hto j (by simp only at hj;omega) hjp
        ·rw[h]at hpk0
         rw[Bool.false_and]at hpk0
         rw[if_neg (by rw[hpk0];simp)]at hkf0 hr0
         (conv=>whnf)
         refine⟨(k+1,to,sp),[],⟨by rfl,?_,?_⟩,⟨by simp only;omega,htl,fun j hj hjp=>?_⟩,by simp only;omega⟩
         ·simp
         ·simp[hkf0,hr0,aA]
         ·by_cases ej:j=k
          ·rw[ej,hpk0]at hjp;cases hjp
          ·exact hto j (by simp only at hj;omega) hjp
       ·have e:k=F.st.toNat:=by omega
        subst e
        subst hpl
        have hl0:to.getD (0+F.start.toNat) EK.int.dflt=(rkB p F.start.toNat:Nat):=by rw[Nat.zero_add];exact hto _ (by omega) hp0
        refine gO ?_
        refine aJ (fun z:Nat×Nat=>⟨[(1,.c (.ptr 2 0)),(2,.c (.ptr 3 0)),(3,.c (.sl 4 1 0 F.st.toNat F.st.toNat)),(4,.c (.sl 5 1 0 F.st.toNat F.st.toNat)),(9,.c (.ptr 6 0)),(10,.c (.sl 7 1 0 F.st.toNat F.st.toNat)),(12,.i z.1)],
         hpF F++[(2,.box 25 (aA F)),(3,.box 25 aW),(4,.arr true 4 .bool T 0),(5,.arr true 4 .bool O 0),(6,.box 25 [.i (rkB p F.st.toNat),.i (rkB p F.start.toNat),.sl 8 1 0 (bY p F.fin F.st.toNat).length ((bY p F.fin F.st.toNat).length+sp),.sl 9 5 0 (bW p F.arcs z.1).length ((bW p F.arcs z.1).length+z.2)]),(7,.arr true 3 .int to 0),(8,.arr true 3 .int (bY p F.fin F.st.toNat) sp),(9,.arr true 55 .arc (bW p F.arcs z.1) z.2)],10⟩)
         (fun z=>z.1<=F.arcs.length) (fun z=>F.arcs.length-z.1) (0,0) [(9,none)] ⟨by rfl,?_,?_⟩ (Nat.zero_le _) ?_
        ·simp
        ·simp[aA,cT,bW]
         exact(show to[F.start.toNat]?.getD 0=_ from hto _ (by omega) hp0).symm
        ·rintro⟨k,sq⟩ hk2
         simp only at hk2⊢
         have hlen:=iN p F.arcs k
         have hks:bW p F.arcs (k+1)=if kOk p (F.arcs.getD k aD)=true then bW p F.arcs k++[jN p (F.arcs.getD k aD)]else bW p F.arcs k:=rfl
         (conv=>whnf)
         refine aG (fun hk3=>?_) (fun hk3=>?_)
         ·have e0:0+(k:Int).toNat=k:=by omega
          have hb:=hF.arc _ (aB F.arcs k aD (by omega))
          rw[<-e0]at hb
          have hax:F.arcs.getD (0+(k:Int).toNat) EK.arc.dflt=F.arcs.getD k aD:=by rw[e0];rfl
          have hb:(0<=(F.arcs.getD (0+(k:Int).toNat) EK.arc.dflt).f/\(F.arcs.getD (0+(k:Int).toNat) EK.arc.dflt).f<F.st)/\0<=(F.arcs.getD (0+(k:Int).toNat) EK.arc.dflt).t/\(F.arcs.getD (0+(k:Int).toNat) EK.arc.dflt).t<F.st:=⟨⟨hb.1,hb.2.1⟩,hb.2.2⟩
          refine gO ?_
          refine⟨fun h=>⟨fun h=>⟨fun h=>⟨fun h=>?_,fun h=>?_⟩,fun h=>?_⟩,fun h=>?_⟩,fun h=>?_⟩
          ·rename_i g1 g2 g3
           have hpf:p (F.arcs.getD k aD).f.toNat=true:=by rw[<-hp,<-hax];rw[Nat.zero_add]at g1 g2;exact(congr (congrArg _ g1) g2)
           have hpt:p (F.arcs.getD k aD).t.toNat=true:=by rw[<-hp,<-hax];rw[Nat.zero_add]at g3 h;exact(congr (congrArg _ g3) h)
           rw[if_pos (by unfold kOk;rw[hpf,hpt];rfl)]at hks
           have hl1:to.getD (0+(F.arcs.getD (0+(k:Int).toNat) EK.arc.dflt).f.toNat) EK.int.dflt=(rkB p (F.arcs.getD k aD).f.toNat:Nat):=by rw[Nat.zero_add,hax];exact hto _ (by rw[<-hax];omega) hpf
           have hl2:to.getD (0+(F.arcs.getD (0+(k:Int).toNat) EK.arc.dflt).t.toNat) EK.int.dflt=(rkB p (F.arcs.getD k aD).t.toNat:Nat):=by rw[Nat.zero_add,hax];exact hto _ (by rw[<-hax];omega) hpt
           refine gI fun _=>?_
           rw[hl1,hl2,hax]
           rename_i sp2
           refine⟨(k+1,sp2),[(9,some 12)],⟨by rfl,?_,?_⟩,by simp only;omega,by simp only;omega⟩
           ·simp
           ·simp[hks,aA]
            exact(aV (bW p F.arcs k) _ (jN p (F.arcs.getD k aD)) rfl).symm
          all_goals
           have hno:kOk p (F.arcs.getD k aD)=false:=by
            rw[<-hp]
            unfold kOk kpB
            rw[<-hax]
            simp only[Nat.zero_add]at*
            simp_all[EK.dflt]
           rw[hno,if_neg (by simp)]at hks
           (conv=>whnf)
           refine⟨(k+1,sq),[],⟨by rfl,?_,?_⟩,by simp only;omega,by simp only;omega⟩
           ·simp
           ·simp[hks,aA]
         ·have e:k=F.arcs.length:=by omega
          subst e
          refine gO ?_
          refine⟨[(2,some 8),(3,some 9)],[(2,.arr true 3 .int (bY p F.fin F.st.toNat) sp),(3,.arr true 55 .arc (bW p F.arcs F.arcs.length) sq)],4,.a (.agg [.i (rkB p F.st.toNat:Nat),.i (rkB p F.start.toNat:Nat),.sl 2 1 0 (bY p F.fin F.st.toNat).length ((bY p F.fin F.st.toNat).length+sp),.sl 3 5 0 (bW p F.arcs F.arcs.length).length ((bW p F.arcs F.arcs.length).length+sq)]),⟨by rfl,trivial,by simp⟩,by simp,p,hU,?_⟩
          unfold kT
          rw[if_pos hp0]
          exact⟨sp,sq,rfl,rfl⟩
theorem Cq (l:List Int) (t:Nat) (m:Int) (n:Nat) (ht:t<l.length):(l.set t m).getD n 0=if n=t then m else l.getD n 0:=by
 simp only[List.getD,List.getElem?_set]
 by_cases e:t=n
 ·subst e;simp[ht]
 ·rw[if_neg e,if_neg (fun c=>e c.symm)]
inductive RdW (L:List Arc):Int->List Int->Int->Int->Prop
 |nil (s:Int):RdW L s [] s 0
 |cons {a:Arc} {u:List Int} {t c:Int} (ha:a∈L) (h:RdW L a.t u t c):RdW L a.f (a.i::u) t (a.w+c)
theorem RdW.snoc {L:List Arc} {s t c:Int} {u:List Int} (h:RdW L s u t c) {a:Arc} (ha:a∈L) (he:a.f=t):RdW L s (u++[a.i]) a.t (c+a.w):=by
 induction h with
 |nil s=>subst he;have:=RdW.cons ha (.nil a.t);rwa [Int.add_zero,<-Int.zero_add a.w]at this
 |cons hb h ih=>rw[Int.add_assoc];exact .cons hb (ih he)
theorem RdW.app {L:List Arc} {s t r c d:Int} {u v:List Int} (h:RdW L s u t c) (h':RdW L t v r d):RdW L s (u++v) r (c+d):=by
 induction h with
 |nil s=>rwa [Int.zero_add]
 |cons hb h ih=>rw[Int.add_assoc];exact .cons hb (ih h')
theorem RdW.split {L:List Arc} {s t c:Int} {u v:List Int} (h:RdW L s (u++v) t c): ∃q d e,RdW L s u q d/\RdW L q v t e/\c=d+e:=by
 induction u generalizing s c with
 |nil=>exact⟨s,0,c,.nil s,h,by omega⟩
 |cons x u ih=>
  generalize hw:(x::u)++v=w at h
  cases h with
  |nil=>cases hw
  |cons ha h=>
   rename_i a w' c'
   have e:=List.cons.inj hw
   rw[<-e.2]at h
   obtain⟨q,d,f,h1,h2,h3⟩:=ih h
   exact⟨q,a.w+d,f,e.1▸ .cons ha h1,h2,by omega⟩
theorem RdW.none {L:List Arc} {s t c:Int} {u:List Int} (h:RdW L s u t c) (hu:u=[]):t=s/\c=0:=by
 cases h with
 |nil=>exact⟨rfl,rfl⟩
 |cons=>cases hu
theorem RdW.one {L:List Arc} {s t c x:Int} (h:RdW L s [x] t c): ∃a∈L,a.f=s/\a.i=x/\a.t=t/\c=a.w:=by
 generalize hw: [x]=w at h
 cases h with
 |nil=>cases hw
 |cons ha h=>
  have e:=List.cons.inj hw
  obtain⟨g1,g2⟩:=h.none e.2.symm
  exact⟨_,ha,rfl,e.1.symm,g1.symm,by omega⟩
theorem RdW.unsnoc {L:List Arc} {s t c x:Int} {u:List Int} (h:RdW L s (u++[x]) t c): ∃a∈L,∃d,RdW L s u a.f d/\a.i=x/\a.t=t/\c=d+a.w:=by
 obtain⟨q,d,e,h1,h2,h3⟩:=h.split
 obtain⟨a,ha,g1,g2,g3,g4⟩:=h2.one
 exact⟨a,ha,d,g1▸h1,g2,g3,by omega⟩
theorem RdW.pos {L:List Arc} (hL: ∀a∈L,0<=a.w/\a.w<=1000000000) {s t c:Int} {u:List Int} (h:RdW L s u t c):0<=c/\c<=1000000000*u.length:=by
 induction h with
 |nil s=>simp
 |cons ha h ih=>
  have:=hL _ ha
  rw[List.length_cons]
  omega
theorem RdW.rng {L:List Arc} {n:Int} (hL: ∀a∈L,0<=a.t/\a.t<n) {s t c:Int} {u:List Int} (h:RdW L s u t c) (hs:0<=s/\s<n):0<=t/\t<n:=by
 induction h with
 |nil s=>exact hs
 |cons ha h ih=>exact ih (hL _ ha)
def Bg (U:TF) (w:List Int):Prop:= ∃t c,RdW U.arcs U.start w t c
structure aDU (U:TF) (w V:List Int):Prop where
 len:V.length=U.st.toNat
 min: ∀q:Nat,q<U.st.toNat->cB (fun c=>RdW U.arcs U.start w q c) (V.getD q 0)
section
variable {U:TF} (hU: ∀a∈U.arcs,(0<=a.f/\a.f<U.st)/\(0<=a.t/\a.t<U.st)/\0<=a.w/\a.w<=1000000000)
include hU
end
structure WSt (U:TF) (W vs:List (List Int)) (par sym:List Int) (i:Nat) (c:Int):Prop where
 lv:vs.length=W.length
 lp:par.length=W.length
 ls:sym.length=W.length
 pos:1<=W.length
 w0:W.getD 0 []=[]
 p0:par.getD 0 0= -1
 s0:sym.getD 0 0=0
 vec: ∀j,j<W.length->aDU U (W.getD j []) (vs.getD j [])
 wl: ∀j,j<W.length->(W.getD j []).length<=j
 bg: ∀j,j<W.length->Bg U (W.getD j [])
 on: ∀j,1<=j->j<W.length-> ∃k:Nat,k<j/\par.getD j 0=k/\(1<=sym.getD j 0/\sym.getD j 0<=9)/\W.getD j []=W.getD k []++[sym.getD j 0]/\(k<i\/k=i/\sym.getD j 0<c)
 nd: ∀j k,j<W.length->k<W.length->W.getD j []=W.getD k []->j=k
 all: ∀j x,j<W.length->1<=x->x<=9->(j<i\/j=i/\x<c)->Bg U (W.getD j []++[x])-> ∃k,k<W.length/\W.getD k []=W.getD j []++[x]
section
variable {U:TF} {W vs:List (List Int)} {par sym:List Int} {i:Nat} {c:Int}
end
def Hr (P:Int->Prop) (o:Option Int):Prop:=(o=none/\ ∀x,¬P x)\/ ∃v,o=some v/\P v/\ ∀x,P x->v<=x
theorem Hr.cong {P Q:Int->Prop} {o:Option Int} (h:Hr P o) (hpq: ∀c,P c <-> Q c):Hr Q o:=by
 rcases h with⟨h1,h2⟩|⟨v,h1,h2,h3⟩
 ·exact .inl ⟨h1,fun x hx=>h2 x ((hpq x).2 hx)⟩
 ·exact .inr ⟨v,h1,(hpq v).1 h2,fun x hx=>h3 x ((hpq x).2 hx)⟩
structure SbI (P:Int->Int->Prop) (st:CM×Int):Prop where
 c: ∀t,Hr (P t) (st.1 t)
 b:cB (fun v=> ∃t,P t v) st.2
 pos: ∀t v,P t v->0<=v
theorem SbI.cong {P Q:Int->Int->Prop} {st:CM×Int} (h:SbI P st) (hpq: ∀t v,P t v <-> Q t v):SbI Q st:=
 ⟨fun t=>(h.c t).cong (hpq t),h.b.cong fun v=>⟨fun⟨t,ht⟩=>⟨t,(hpq t v).1 ht⟩,fun⟨t,ht⟩=>⟨t,(hpq t v).2 ht⟩⟩,fun t v hv=>h.pos t v ((hpq t v).2 hv)⟩
theorem SbI.step {P:Int->Int->Prop} {st:CM×Int} (h:SbI P st) {c:Int} {x:Duo} {a:Arc} (h0:0<=x.b+a.w):
  SbI (fun t v=>P t v\/a.f=x.a/\a.i=c/\a.t=t/\v=x.b+a.w) (sbA c x st a):=by
 unfold sbA
 by_cases hc:a.f=x.a/\a.i=c
 ·rw[if_pos hc]
  generalize x.b+a.w=n at*
  refine⟨fun t=>?_,?_,?_⟩
  ·simp only[uS]
   by_cases e:t=a.t
   ·rw[if_pos e,<-e]
    rcases h.c t with⟨h1,h2⟩|⟨o,h1,h2,h3⟩
    ·rw[h1]
     exact .inr ⟨n,rfl,.inr ⟨hc.1,hc.2,by simp,rfl⟩,fun y hy=>by
      rcases hy with hy|hy
      ·exact absurd hy (h2 y)
      ·omega⟩
    ·rw[h1]
     simp only
     split
     ·rename_i hlt
      exact .inr ⟨n,rfl,.inr ⟨hc.1,hc.2,by simp,rfl⟩,fun y hy=>by
       rcases hy with hy|hy
       ·have:=h3 y hy;omega
       ·omega⟩
     ·rename_i hlt
      exact .inr ⟨o,rfl,.inl h2,fun y hy=>by
       rcases hy with hy|hy
       ·exact h3 y hy
       ·omega⟩
   ·rw[if_neg e]
    exact(h.c t).cong fun v=>⟨fun g=> .inl g,fun g=>g.elim id fun g=>absurd g.2.2.1.symm e⟩
  ·have hb:=h.b
   simp only[fU]
   rcases hb with⟨h1,h2⟩|⟨h1,⟨t,h2⟩,h3⟩
   ·rw[if_pos (.inl h1)]
    exact .inr ⟨h0,⟨a.t,.inr ⟨hc.1,hc.2,by simp,rfl⟩⟩,fun y ⟨t,hy⟩=>by
     rcases hy with hy|hy
     ·exact absurd ⟨t,hy⟩ (h2 y)
     ·omega⟩
   ·by_cases hlt:n<st.2
    ·rw[if_pos (.inr hlt)]
     exact .inr ⟨h0,⟨a.t,.inr ⟨hc.1,hc.2,by simp,rfl⟩⟩,fun y ⟨t,hy⟩=>by
      rcases hy with hy|hy
      ·have:=h3 y ⟨t,hy⟩;omega
      ·omega⟩
    ·rw[if_neg (by omega)]
     exact .inr ⟨h1,⟨t,.inl h2⟩,fun y ⟨t,hy⟩=>by
      rcases hy with hy|hy
      ·exact h3 y ⟨t,hy⟩
      ·omega⟩
  ·rintro t v (hv|hv)
   ·exact h.pos t v hv
   ·omega
 ·rw[if_neg hc]
  exact h.cong fun t v=>⟨fun g=> .inl g,fun g=>g.elim id fun g=>absurd ⟨g.1,g.2.1⟩ hc⟩
theorem SbI.arcs {c:Int} {x:Duo} (hx:0<=x.b): ∀(l:List Arc),(∀a∈l,0<=a.w)-> ∀ {P:Int->Int->Prop} {st:CM×Int},SbI P st->
  SbI (fun t v=>P t v\/ ∃a∈l,a.f=x.a/\a.i=c/\a.t=t/\v=x.b+a.w) (l.foldl (sbA c x) st)
 | [],_,P,st,h=>h.cong fun t v=>⟨fun g=> .inl g,fun g=>g.elim id fun⟨a,ha,_⟩=>by cases ha⟩
 |a::l,hl,P,st,h=>by
  have h1:=h.step (c:=c) (x:=x) (a:=a) (by have:=hl a (by simp);omega)
  refine(SbI.arcs hx l (fun a ha=>hl a (by simp[ha])) h1).cong fun t v=>?_
  constructor
  ·rintro((g|g)|⟨b,hb,g⟩)
   ·exact .inl g
   ·exact .inr ⟨a,by simp,g⟩
   ·exact .inr ⟨b,by simp[hb],g⟩
  ·rintro(g|⟨b,hb,g⟩)
   ·exact .inl (.inl g)
   ·rcases List.mem_cons.1 hb with rfl|hb
    ·exact .inl (.inr g)
    ·exact .inr ⟨b,hb,g⟩
def aAI (U:TF) (s:List Duo) (c t v:Int):Prop:= ∃e∈s,∃a∈U.arcs,a.f=e.a/\a.i=c/\a.t=t/\v=e.b+a.w
theorem oI {U:TF} {s:List Duo} (hs: ∀e∈s,0<=e.b) (hw: ∀a∈U.arcs,0<=a.w) (c:Int):SbI (aAI U s c) (sbR U s c):=by
 have: ∀(l:List Duo),(∀e∈l,0<=e.b)-> ∀ {P:Int->Int->Prop} {st:CM×Int},SbI P st->SbI (fun t v=>P t v\/aAI U l c t v) (l.foldl (sbX U c) st):=by
  intro l
  induction l with
  |nil=>intro _ P st h;exact h.cong fun t v=>⟨fun g=> .inl g,fun g=>g.elim id fun⟨e,he,_⟩=>by cases he⟩
  |cons e l ih=>
   intro hl P st h
   refine(ih (fun e he=>hl e (by simp[he])) (SbI.arcs (c:=c) (x:=e) (hl e (by simp)) U.arcs hw h)).cong fun t v=>?_
   constructor
   ·rintro((g|⟨a,ha,g⟩)|⟨d,hd,g⟩)
    ·exact .inl g
    ·exact .inr ⟨e,by simp,a,ha,g⟩
    ·exact .inr ⟨d,by simp[hd],g⟩
   ·rintro(g|⟨d,hd,a,ha,g⟩)
    ·exact .inl (.inl g)
    ·rcases List.mem_cons.1 hd with rfl|hd
     ·exact .inl (.inr ⟨a,ha,g⟩)
     ·exact .inr ⟨d,hd,a,ha,g⟩
 refine(this s hs (P:=fun _ _=>False) (st:=(fun _=>none,-1)) ⟨fun t=> .inl ⟨rfl,fun x h=>h⟩,.inl ⟨rfl,fun x ⟨_,h⟩=>h⟩,fun t v h=>h.elim⟩).cong fun t v=>⟨fun g=>g.elim (fun h=>h.elim) id,fun g=> .inr g⟩
structure nP (U:TF) (w:List Int) (r:Int) (s:List Duo):Prop where
 r0:0<=r
 b0: ∀e∈s,0<=e.b
 min: ∀e∈s,cB (fun c=>RdW U.arcs U.start w e.a c) (r+e.b)
 all: ∀q c,RdW U.arcs U.start w q c-> ∃e∈s,e.a=q
theorem nP.start (U:TF):nP U [] 0 [⟨U.start,0⟩]:=by
 refine⟨Int.le_refl _,fun e he=>?_,fun e he=>?_,fun q c h=>?_⟩
 ·rw[List.mem_singleton]at he;subst he;exact Int.le_refl _
 ·rw[List.mem_singleton]at he
  subst he
  exact .inr ⟨by simp,.nil _,fun c hc=>by have:=(hc.none rfl).2;simp only;omega⟩
 ·exact⟨_,List.mem_singleton.2 rfl,((h.none rfl).1).symm⟩
section
variable {U:TF} (hU: ∀a∈U.arcs,(0<=a.f/\a.f<U.st)/\(0<=a.t/\a.t<U.st)/\0<=a.w/\a.w<=1000000000)
include hU
theorem Fi {s:List Duo} (hs: ∀e∈s,0<=e.b) {c:Int} {e:Duo}:e∈sbS U s c <-> aAI U s c e.a (e.b+sbB U s c)/\ ∀x,aAI U s c e.a x->e.b+sbB U s c<=x:=by
 have hsp:=oI hs (fun a ha=>(hU a ha).2.2.1) c
 unfold sbS sbB
 rw[Fj]
 constructor
 ·rintro⟨t,v,ht,hv,rfl⟩
  rcases hsp.c t with⟨h1,h2⟩|⟨o,h1,h2,h3⟩
  ·rw[h1]at hv;cases hv
  ·rw[h1]at hv
   cases hv
   simp only
   rw[show v-(sbR U s c).2+(sbR U s c).2=v by omega]
   exact⟨h2,h3⟩
 ·rintro⟨h1,h2⟩
  rcases hsp.c e.a with⟨g1,g2⟩|⟨o,g1,g2,g3⟩
  ·exact absurd h1 (g2 _)
  ·have:o=e.b+(sbR U s c).2:=by
    have:=g3 _ h1
    have:=h2 _ g2
    omega
   obtain⟨d,hd,a,ha,q1,q2,q3,q4⟩:=h1
   have:=hU a ha
   refine⟨e.a.toNat,o,by omega,by rw[show((e.a.toNat:Nat):Int)=e.a by omega];exact g1,?_⟩
   cases e
   simp only[Duo.mk.injEq]at*
   omega
theorem Qe {s:List Duo} (hs: ∀e∈s,0<=e.b) {c:Int}:sbB U s c≠ -1 <-> ∃e∈s,∃a∈U.arcs,a.f=e.a/\a.i=c:=by
 have hsp:=oI hs (fun a ha=>(hU a ha).2.2.1) c
 unfold sbB
 constructor
 ·intro h
  obtain⟨t,e,he,a,ha,g1,g2,_⟩:=hsp.b.is h
  exact⟨e,he,a,ha,g1,g2⟩
 ·rintro⟨e,he,a,ha,g1,g2⟩
  exact(hsp.b.le (c:=e.b+a.w) ⟨a.t,e,he,a,ha,g1,g2,rfl,rfl⟩).1
theorem nP.no {w:List Int} {r:Int} {s:List Duo} (h:nP U w r s) {c:Int} (hb:sbB U s c= -1): ¬Bg U (w++[c]):=by
 rintro⟨t,x,hx⟩
 obtain⟨a,ha,d,h1,h2,_⟩:=hx.unsnoc
 obtain⟨e,he,h3⟩:=h.all _ _ h1
 exact(Qe hU h.b0).2 ⟨e,he,a,ha,h3.symm,h2⟩ hb
theorem nP.yes {w:List Int} {r:Int} {s:List Duo} (h:nP U w r s) {c:Int} (hb:sbB U s c≠ -1):Bg U (w++[c]):=by
 obtain⟨e,he,a,ha,g1,g2⟩:=(Qe hU h.b0).1 hb
 have hp:=(h.min e he).is (by have:=h.r0;have:=h.b0 e he;omega)
 exact⟨_,_,g2▸hp.snoc ha g1⟩
theorem nP.step {w:List Int} {r:Int} {s:List Duo} (h:nP U w r s) {c:Int} (hb:sbB U s c≠ -1):nP U (w++[c]) (r+sbB U s c) (sbS U s c):=by
 have hsp:=(oI h.b0 (fun a ha=>(hU a ha).2.2.1) c).b
 have hr:=h.r0
 change cB _ (sbB U s c)at hsp
 have hb0:0<=sbB U s c:=by have:=hsp.low;omega
 refine⟨by omega,fun e he=>?_,fun e he=>?_,fun q x hx=>?_⟩
 ·have:=(Fi hU h.b0).1 he
  have:=(hsp.le (c:=e.b+sbB U s c) ⟨e.a,this.1⟩).2
  omega
 ·obtain⟨h1,h2⟩:=(Fi hU h.b0).1 he
  right
  refine⟨?_,?_,fun x hx=>?_⟩
  ·obtain⟨d,hd,a,ha,q1,q2,q3,q4⟩:=h1
   have:=h.b0 d hd
   have:=hU a ha
   omega
  ·obtain⟨d,hd,a,ha,q1,q2,q3,q4⟩:=h1
   have hp:=(h.min d hd).is (by have:=h.b0 d hd;omega)
   have:=hp.snoc ha q1
   rw[q2,q3]at this
   rwa [show r+sbB U s c+e.b=r+d.b+a.w by omega]
  ·obtain⟨a,ha,d,g1,g2,g3,g4⟩:=hx.unsnoc
   obtain⟨f,hf,g5⟩:=h.all _ _ g1
   have:=((h.min f hf).le (c:=d) (g5▸g1)).2
   have:=h2 (f.b+a.w) ⟨f,hf,a,ha,g5.symm,g2,g3,rfl⟩
   omega
 ·obtain⟨a,ha,d,g1,g2,g3,g4⟩:=hx.unsnoc
  obtain⟨f,hf,g5⟩:=h.all _ _ g1
  have hc:aAI U s c q (f.b+a.w):=⟨f,hf,a,ha,g5.symm,g2,g3,rfl⟩
  rcases(oI h.b0 (fun a ha=>(hU a ha).2.2.1) c).c q with⟨p1,p2⟩|⟨o,p1,p2,p3⟩
  ·exact absurd hc (p2 _)
  ·refine⟨⟨q,o-sbB U s c⟩,(Fi hU h.b0).2 ?_,rfl⟩
   simp only
   rw[show o-sbB U s c+sbB U s c=o by omega]
   exact⟨p2,p3⟩
end
theorem Ki {U:TF} {s:List Duo} (hs: ∀e∈s,0<=e.b) (hf: ∀j:Nat,-1<=U.fin.getD j 0):cB (fun x=> ∃e∈s,U.fin.getD e.a.toNat 0≠ -1/\x=e.b+U.fin.getD e.a.toNat 0) (bQ U s):=by
 have: ∀(l:List Duo),(∀e∈l,0<=e.b)-> ∀(P:Int->Prop) (r:Int),cB P r->cB (fun x=>P x\/ ∃e∈l,U.fin.getD e.a.toNat 0≠ -1/\x=e.b+U.fin.getD e.a.toNat 0) (l.foldl (sC U) r):=by
  intro l
  induction l with
  |nil=>intro _ P r h;exact h.cong fun x=>⟨fun g=> .inl g,fun g=>g.elim id fun⟨e,he,_⟩=>by cases he⟩
  |cons e l ih=>
   intro hl P r h
   have he:=hl e (by simp)
   have hfe:=hf e.a.toNat
   have h1:cB (fun x=>P x\/(U.fin.getD e.a.toNat 0≠ -1/\x=e.b+U.fin.getD e.a.toNat 0)) (sC U r e):=by
    unfold sC
    by_cases hn:U.fin.getD e.a.toNat 0≠ -1
    ·by_cases hr:r= -1\/e.b+U.fin.getD e.a.toNat 0<r
     ·rw[if_pos ⟨hn,hr⟩]
      refine .inr ⟨by omega,.inr ⟨hn,rfl⟩,fun c hc=>?_⟩
      rcases hc with hc|hc
      ·have:=h.le hc;omega
      ·omega
     ·rw[if_neg (fun g=>hr g.2)]
      have hr1:r≠ -1:=fun g=>hr (.inl g)
      have hr2:=h.low
      refine .inr ⟨by omega,.inl (h.is hr1),fun c hc=>?_⟩
      rcases hc with hc|hc
      ·exact(h.le hc).2
      ·omega
    ·rw[if_neg (fun g=>hn g.1)]
     exact h.cong fun x=>⟨fun g=> .inl g,fun g=>g.elim id fun g=>absurd g.1 hn⟩
   refine(ih (fun e he=>hl e (by simp[he])) _ _ h1).cong fun x=>?_
   constructor
   ·rintro((g|g)|⟨d,hd,g⟩)
    ·exact .inl g
    ·exact .inr ⟨e,by simp,g⟩
    ·exact .inr ⟨d,by simp[hd],g⟩
   ·rintro(g|⟨d,hd,g⟩)
    ·exact .inl (.inl g)
    ·rcases List.mem_cons.1 hd with rfl|hd
     ·exact .inl (.inr g)
     ·exact .inr ⟨d,hd,g⟩
 exact(this s hs _ _ cB.none).cong fun x=>⟨fun g=>g.elim (fun h=>h.elim) id,fun g=> .inr g⟩
theorem Bg.pre {U:TF} {u v:List Int} (h:Bg U (u++v)):Bg U u:=by
 obtain⟨t,c,h⟩:=h
 obtain⟨q,d,_,h1,_⟩:=h.split
 exact⟨q,d,h1⟩
theorem RdW.lets {L:List Arc} (hL: ∀a∈L,1<=a.i/\a.i<=9) {s t c:Int} {u:List Int} (h:RdW L s u t c): ∀x∈u,1<=x/\x<=9:=by
 induction h with
 |nil s=>intro x hx;cases hx
 |cons ha h ih=>
  intro x hx
  rcases List.mem_cons.1 hx with rfl|hx
  ·exact hL _ ha
  ·exact ih x hx
section
variable {U:TF} (hU: ∀a∈U.arcs,(0<=a.f/\a.f<U.st)/\(0<=a.t/\a.t<U.st)/\0<=a.w/\a.w<=1000000000)
include hU
omit hU
end
end Go.Fw
