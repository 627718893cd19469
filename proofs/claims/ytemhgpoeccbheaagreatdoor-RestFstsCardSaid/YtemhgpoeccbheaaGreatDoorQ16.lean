/-
  What a beginning costs as a word.
-/
import Derived.Test.YtemhgpoeccbheaaGreatDoorQ15
import Derived.Test.YtemhgpoeccbheaaGreatDoorQ06
import Derived.Test.YtemhgpoeccbheaaGreatDoorQ07
import Derived.Test.YtemhgpoeccbheaaGreatDoorQ09
import Derived.Test.YtemhgpoeccbheaaGreatDoorQ08
import Derived.Test.YtemhgpoeccbheaaGreatDoorQ14
import Derived.Test.YtemhgpoeccbheaaGreatDoorQ13
set_option linter.unusedSimpArgs false
set_option linter.unusedVariables false
set_option maxRecDepth 100000
set_option maxHeartbeats 16000000
namespace Go.Fw
section
variable {U:TF} (hU: ∀a∈U.arcs,(0<=a.f/\a.f<U.st)/\(0<=a.t/\a.t<U.st)/\0<=a.w/\a.w<=1000000000)
 (hlet: ∀a∈U.arcs,1<=a.i/\a.i<=9) (hfin: ∀j:Nat,-1<=U.fin.getD j 0) {st:DS} (h:RI U st.1.length 1 st)
include hU hfin h
theorem RI.endm {w:List Int} {q d:Int} (hr:RdW st.2 0 w q d):cB (CW U U.start w) (if bQ U (st.1.getD q.toNat [])= -1 then-1 else d+bQ U (st.1.getD q.toNat [])):=by
 have hs:=h.sub hU hr
 have hm:=Ki hs.b0 hfin
 have hr0:=hs.r0
 by_cases e:bQ U (st.1.getD q.toNat [])= -1
 ·rw[if_pos e]
  refine .inl ⟨rfl,fun c hc=>?_⟩
  obtain⟨t,d',h1,h2,rfl⟩:=hc
  obtain⟨f,hf,rfl⟩:=hs.all _ _ h1
  exact(hm.le (c:=_) ⟨f,hf,h2,rfl⟩).1 e
 ·rw[if_neg e]
  have hlow:=hm.low
  obtain⟨f,hf,h2,h3⟩:=hm.is e
  refine .inr ⟨by omega,⟨f.a,d+f.b,(hs.min f hf).is (by have:=hs.b0 f hf;omega),h2,by omega⟩,fun c hc=>?_⟩
  obtain⟨t,d',h1,h2,rfl⟩:=hc
  obtain⟨g,hg,rfl⟩:=hs.all _ _ h1
  have:=(hm.le (c:=_) ⟨g,hg,h2,rfl⟩).2
  have:=((hs.min g hg).le h1).2
  omega
end
section
variable {F U:TF} {st:DS} (h:fE F U st) (h12:F.st<=12)
include h h12
theorem fE.short {w:List Int} {t c:Int} (hr:RdW U.arcs U.start w t c):w.length<12/\c<=12000000000:=by
 obtain⟨t',ht,hF⟩:=h.us.rd h.wok.toFRng h.fok.start h.lets hr
 have h1:=LvA.all (l:=F.arcs) (n:=F.st.toNat) (fun a ha=>by
  have:=h.fok.arc a ha
  have:=this.t0
  have:=(h.fok.arc a ha).t1
  omega) (vZ.1 h.fine).2 (j:=F.start) (by have:=h.fok.start;omega) _ _ _ hF
 have h2:=hr.pos (fun a ha=>(h.hU a ha).2.2)
 have h3:=h.fok.st
 omega
theorem fE.wbd: ∀a∈st.2,0<=a.w/\a.w<=12000000000:=fun a ha=>by
 have hr:=h.ri
 obtain⟨j,x,q1,q2,q3,q4,q5,q6,q7,q8,q9,q10⟩:=hr.arc ha
 obtain⟨w,d,hrd⟩:=hr.rch j q2
 have hs:=hr.sub h.hU hrd
 rw[Int.toNat_natCast]at hs
 have hlow:=(oI (U:=U) hs.b0 (fun a ha=>(h.hU a ha).2.2.1) x).b.low
 change-1<=sbB U _ x at hlow
 obtain⟨t,c,hb⟩:=hs.yes h.hU q3
 have hs2:=hs.step h.hU q3
 obtain⟨e,he,_⟩:=hs2.all _ _ hb
 have hp:=(hs2.min e he).is (by have:=hs2.r0;have:=hs2.b0 e he;omega)
 have:=(h.short h12 hp).2
 have:=hs2.b0 e he
 have:=hs.r0
 omega
theorem fE.fbd: ∀n∈st.1.map (bQ U),-1<=n/\n<=13000000000:=fun n hn=>by
 have hr:=h.ri
 obtain⟨s,hs,rfl⟩:=List.mem_map.1 hn
 obtain⟨j,hj,rfl⟩:=List.mem_iff_getElem.1 hs
 have e:st.1.getD j []=st.1[j]:=by simp[List.getD,hj]
 rw[<-e]
 obtain⟨w,d,hrd⟩:=hr.rch j hj
 have hs:=hr.sub h.hU hrd
 rw[Int.toNat_natCast]at hs
 have hm:=Ki (U:=U) hs.b0 h.hfin
 refine⟨hm.low,?_⟩
 by_cases hn:bQ U (st.1.getD j [])= -1
 ·omega
 ·obtain⟨e,he,g1,g2⟩:=hm.is hn
  have hp:=(hs.min e he).is (by have:=hs.r0;have:=hs.b0 e he;omega)
  have:=(h.short h12 hp).2
  have:=hs.r0
  have hfu:U.fin.getD e.a.toNat 0<=1000000000:=by
   by_cases hj:e.a.toNat<U.fin.length
   ·exact(h.uok.1.fin _ (aB U.fin _ 0 hj)).2
   ·simp only[List.getD,List.getElem?_eq_none (show U.fin.length<=e.a.toNat by omega),Option.getD_none];omega
  omega
theorem fE.fokB (cf ca:Nat):mL (mkD U st cf ca)/\Srt st.2:=by
 have hr:=h.ri
 obtain⟨h1,h2,h3⟩:=h.small
 have hl:=hr.len
 refine⟨⟨?_,?_,?_,?_,?_,?_⟩,hr.srt⟩
 ·show 1<=((st.1.length:Nat):Int)/\((st.1.length:Nat):Int)<=200
  omega
 ·show 0<=(0:Int)/\(0:Int)<((st.1.length:Nat):Int)
  omega
 ·show((st.1.map (bQ U)).length:Int)=((st.1.length:Nat):Int)
  rw[List.length_map]
 ·intro n hn
  have:=h.fbd h12 n hn
  omega
 ·show st.2.length<=3000
  omega
 ·intro a ha
  have ha:a∈st.2:=ha
  obtain⟨j,x,q1,q2,q3,q4,q5,q6,q7,q8,q9,q10⟩:=hr.arc ha
  have:=h.wbd h12 a ha
  exact⟨by omega,by show a.f<((st.1.length:Nat):Int);omega,by omega,by show a.t<((st.1.length:Nat):Int);omega,by omega,by omega,by omega,by omega⟩
end
section
variable {F:TF} (hF:mL F)
include hF
theorem xN:Sol (F.arcs.map sV) F.fin (onS F).1:=by
 have hb:=Ag hF
 have e:F.st.toNat=F.fin.length:=by have:=hb.len;omega
 unfold onS
 rw[e]
 exact(lG (fun a ha=>by
  obtain⟨b,hb,rfl⟩:=List.mem_map.1 ha
  exact sT (hF.arc b hb)) hb).1
theorem tO {q:Nat} (hq:q<F.st.toNat): -1<=(onS F).1.getD q 0:=by
 have:=(Yo hF).at (i:=(q:Int)) (by omega) (by omega)
 rw[Int.toNat_natCast]at this
 exact this.1
theorem Ng: ∀(w:List Int) (q c:Int),0<=q/\q<F.st->CW F q w c->(onS F).1.getD q.toNat 0≠ -1/\(onS F).1.getD q.toNat 0<=c
 | [],q,c,hq,h=>by
   obtain⟨h1,rfl⟩:=CW.nil.1 h
   have hfl:=hF.finl
   exact(xN hF).s1 q.toNat (by omega) h1
 |x::u,q,c,hq,h=>by
  obtain⟨a,ha,rfl,rfl,h1⟩:=CW.cons.1 h
  have hr:=hF.arc a ha
  obtain⟨g1,g2⟩:=Ng u a.t _ ⟨hr.t0,hr.t1⟩ h1
  have hl:=tO hF (q:=a.t.toNat) (by have:=hr.t0;have:=hr.t1;omega)
  have hw:=hr.w0
  have:=(xN hF).s2 (sV a) (List.mem_map_of_mem ha) g1 (show(onS F).1.getD a.t.toNat 0+a.w≠ -1 by omega)
  have g3:(onS F).1.getD a.f.toNat 0≠ -1/\(onS F).1.getD a.f.toNat 0<=(onS F).1.getD a.t.toNat 0+a.w:=this
  exact⟨g3.1,by omega⟩
theorem aDz {k v:Nat} {c:Int} (h:RN (F.arcs.map sV) F.fin k v c): ∃w,CW F v w c:=by
 induction h with
 |base hv hc=>exact⟨[],CW.nil.2 ⟨by rw[Int.toNat_natCast];exact hc,by rw[Int.toNat_natCast]⟩⟩
 |step h ha ih=>
  rename_i k a c
  obtain⟨w,hw⟩:=ih
  obtain⟨b,hb,rfl⟩:=List.mem_map.1 ha
  have hr:=hF.arc b hb
  have e1:(((sV b).f.toNat:Nat):Int)=b.t:=by show((b.t.toNat:Nat):Int)=b.t;have:=hr.t0;omega
  have e2:(((sV b).t.toNat:Nat):Int)=b.f:=by show((b.f.toNat:Nat):Int)=b.f;have:=hr.f0;omega
  rw[e1]at hw
  rw[e2]
  exact⟨b.i::w,CW.cons.2 ⟨b,hb,rfl,rfl,by rw[show c+(sV b).w-b.w=c by show c+b.w-b.w=c;omega];exact hw⟩⟩
theorem CW.pos: ∀(w:List Int) (q c:Int),CW F q w c->0<=c
 | [],q,c,h=>by
   obtain⟨h1,rfl⟩:=CW.nil.1 h
   by_cases hj:q.toNat<F.fin.length
   ·have:=(hF.fin _ (aB F.fin q.toNat 0 hj)).1
    omega
   ·simp only[List.getD,List.getElem?_eq_none (show F.fin.length<=q.toNat by omega),Option.getD_none];omega
 |x::u,q,c,h=>by
  obtain⟨a,ha,rfl,rfl,h1⟩:=CW.cons.1 h
  have:=(hF.arc a ha).w0
  have:=CW.pos u _ _ h1
  omega
theorem Qu {q:Nat} (hq:q<F.st.toNat):cB (fun c=> ∃w,CW F q w c) ((onS F).1.getD q 0):=by
 have hl:=tO hF hq
 have hle: ∀c,(∃w,CW F q w c)->(onS F).1.getD q 0≠ -1/\(onS F).1.getD q 0<=c:=fun c ⟨w,hw⟩=>by
  have:=Ng hF w (q:Int) c ⟨by omega,by omega⟩ hw
  rwa [Int.toNat_natCast]at this
 by_cases e:(onS F).1.getD q 0= -1
 ·exact .inl ⟨e,fun c hc=>(hle c hc).1 e⟩
 ·have hb:=Ag hF
  have hbl:=hb.len
  obtain⟨k,_,hk⟩:=(xN hF).s3 q (by omega) e
  exact .inr ⟨by omega,aDz hF hk,fun c hc=>(hle c hc).2⟩
end
def phT (F:TF) (c1 c2:Nat):TF:=⟨F.st,F.start,eC (onS F).1 F.fin F.fin.length,dD (onS F).1 F.arcs,c1,c2⟩
section
variable {F:TF} (hF:mL F) {c1 c2:Nat}
include hF
theorem aCK {q:Nat} (hq:q<F.st.toNat):(phT F c1 c2).fin.getD q 0=if F.fin.getD q 0≠ -1 then F.fin.getD q 0-(onS F).1.getD q 0 else-1:=by
 have hfl:=hF.finl
 have hq2:q<F.fin.length:=by omega
 show(eC (onS F).1 F.fin F.fin.length).getD q 0=_
 rw[Mw _ _ _ _ hq2]
 unfold yY
 by_cases e:F.fin.getD q 0= -1
 ·rw[if_neg (fun c=>c.2 e),if_neg (fun c=>c e),e]
 ·rw[if_pos ⟨hq2,e⟩,if_pos e]
omit hF in
theorem Dg: ∀(k:Nat) (v:Int),eX (dD (onS F).1 F.arcs) k v=true->eX F.arcs k v=true
 |0,_,_=>rfl
 |k+1,v,h=>by
  obtain⟨b,hb,e1,e2⟩:=iJ.1 h
  obtain⟨a,ha,_,_,rfl⟩:=Cy.1 hb
  exact iJ.2 ⟨a,ha,e1,Dg k _ e2⟩
omit hF in
theorem Yj (h:dS F.arcs F.st.toNat=false):dS (phT F c1 c2).arcs (phT F c1 c2).st.toNat=false:=by
 unfold dS at h⊢
 rw[List.any_eq_false]at h⊢
 intro v hv
 exact fun hc=>h v hv (Dg _ _ hc)
theorem Qr (hd: ∀q:Nat,q<F.st.toNat->(onS F).1.getD q 0≠ -1/\(onS F).1.getD q 0<=1000000000000):Hs (phT F c1 c2):=by
 have hfl:=hF.finl
 have hst:=hF.st
 have hal:=hF.arcl
 have hlen:(dD (onS F).1 F.arcs).length<=F.arcs.length:=List.length_filterMap_le _ _
 have hmem: ∀b∈dD (onS F).1 F.arcs,∃a∈F.arcs,b.f=a.f/\b.t=a.t/\b.i=a.i/\0<=b.w/\b.w<=10000000000000:=fun b hb=>by
  obtain⟨a,ha,g1,g2,rfl⟩:=Cy.1 hb
  have hr:=hF.arc a ha
  have hw:=hr.w0
  have hw1:=hr.w1
  have h1:=hd a.t.toNat (by have:=hr.t0;have:=hr.t1;omega)
  have h2:=hd a.f.toNat (by have:=hr.f0;have:=hr.f1;omega)
  have l1:=tO hF (q:=a.t.toNat) (by have:=hr.t0;have:=hr.t1;omega)
  have l2:=tO hF (q:=a.f.toNat) (by have:=hr.f0;have:=hr.f1;omega)
  have:=(xN hF).s2 (sV a) (List.mem_map_of_mem ha) g2 (show(onS F).1.getD a.t.toNat 0+a.w≠ -1 by omega)
  have g3:(onS F).1.getD a.f.toNat 0≠ -1/\(onS F).1.getD a.f.toNat 0<=(onS F).1.getD a.t.toNat 0+a.w:=this
  exact⟨a,ha,rfl,rfl,rfl,by simp only;omega,by simp only;omega⟩
 refine⟨⟨⟨by show 0<=F.st;omega,by show F.st<=_;omega⟩,by show((eC _ _ _).length:Int)=F.st;rw[jU];exact hfl,by show(dD _ _).length<=_;omega,fun b hb=>?_⟩,by show F.st<=1000;omega,by show(dD _ _).length<=10000;omega,fun b hb=>?_,fun b hb=>?_,fun n hn=>?_⟩
 ·obtain⟨a,ha,e1,e2,_⟩:=hmem b hb
  have hr:=hF.arc a ha
  rw[e1,e2]
  exact⟨hr.f0,hr.f1,hr.t0,hr.t1⟩
 ·obtain⟨a,ha,e1,e2,e3,_⟩:=hmem b hb
  have hr:=hF.arc a ha
  rw[e3]
  have:=hr.i0
  omega
 ·obtain⟨a,ha,e1,e2,e3,e4⟩:=hmem b hb
  exact e4
 ·obtain⟨j,hj,rfl⟩:=List.mem_iff_getElem.1 hn
  have hj2:j<F.fin.length:=by
   have:(phT F c1 c2).fin.length=F.fin.length:=jU _ _ _
   omega
  have e:(phT F c1 c2).fin[j]=(phT F c1 c2).fin.getD j 0:=by simp[List.getD,hj]
  rw[e,aCK hF (by omega)]
  have hf:=hF.fin _ (aB F.fin j 0 hj2)
  by_cases e2:F.fin.getD j 0= -1
  ·rw[if_neg (fun c=>c e2)];omega
  ·rw[if_pos e2]
   have h1:=Ng hF [] (j:Int) _ ⟨by omega,by omega⟩ (CW.nil.2 ⟨by rw[Int.toNat_natCast];exact e2,rfl⟩)
   rw[Int.toNat_natCast]at h1
   have:=tO hF (q:=j) (by omega)
   omega
end
theorem RdW.det {D:TF} (hd:aDo D): ∀ {w:List Int} {s t t' c c':Int},RdW D.arcs s w t c->RdW D.arcs s w t' c'->t=t'/\c=c'
 | [],s,t,t',c,c',h,h'=>by
   obtain⟨rfl,rfl⟩:=h.none rfl
   obtain⟨rfl,rfl⟩:=h'.none rfl
   exact⟨rfl,rfl⟩
 |x::u,s,t,t',c,c',h,h'=>by
  obtain⟨a,ha,e1,e2,d,h1,rfl⟩:=h.cons_inv
  obtain⟨b,hb,f1,f2,d',h2,rfl⟩:=h'.cons_inv
  have e:=hd.one a ha b hb (e1.trans f1.symm) (e2.trans f2.symm)
  subst e
  obtain⟨rfl,rfl⟩:=RdW.det hd h1 h2
  exact⟨rfl,rfl⟩
theorem Fl {p:Nat->Bool}: ∀ {n r:Nat},r<rkB p n-> ∃j,j<n/\p j=true/\rkB p j=r
 |0,r,h=>absurd h (Nat.not_lt_zero _)
 |n+1,r,h=>by
  have hs:rkB p (n+1)=if p n=true then rkB p n+1 else rkB p n:=rfl
  rw[hs]at h
  by_cases hp:p n=true
  ·rw[if_pos hp]at h
   by_cases e:r=rkB p n
   ·exact⟨n,by omega,hp,e.symm⟩
   ·obtain⟨j,h1,h2⟩:=Fl (p:=p) (n:=n) (r:=r) (by omega)
    exact⟨j,by omega,h2⟩
  ·rw[if_neg hp]at h
   obtain⟨j,h1,h2⟩:=Fl (p:=p) (n:=n) (r:=r) h
   exact⟨j,by omega,h2⟩
theorem Xw {D:TF} {e x:Int} (he:D.fin.getD e.toNat 0≠ -1) (h:Rch D.arcs true [e] x): ∃w c,CW D x w c:=by
 induction h with
 |here hx=>
  rw[List.mem_singleton]at hx
  subst hx
  exact⟨[],_,CW.nil.2 ⟨he,rfl⟩⟩
 | @on x a h ha hs ih=>
   obtain⟨w,c,hw⟩:=ih
   have hs:a.t=x:=hs
   show∃w c,CW D a.f w c
   exact⟨a.i::w,a.w+c,CW.cons.2 ⟨a,ha,rfl,rfl,by rw[show a.w+c-a.w=c by omega,hs];exact hw⟩⟩
theorem aAl {D:TF} (hr: ∀a∈D.arcs,0<=a.t/\a.t<D.st): ∀(w:List Int) (x c:Int),0<=x/\x<D.st->CW D x w c-> ∃e:Nat,e<D.st.toNat/\D.fin.getD e 0≠ -1/\Rch D.arcs true [(e:Int)] x
 | [],x,c,hx,h=>⟨x.toNat,by omega,(CW.nil.1 h).1,.here (by rw[List.mem_singleton];omega)⟩
 |y::u,x,c,hx,h=>by
  obtain⟨a,ha,rfl,rfl,h1⟩:=CW.cons.1 h
  obtain⟨e,g1,g2,g3⟩:=aAl hr u a.t _ (hr a ha) h1
  exact⟨e,g1,g2,Rch.on (bk:=true) g3 ha rfl⟩
theorem aCF {L:List Arc} {r s t c:Int} {w:List Int} (h:RdW L s w t c):Rch L false [r] s->Rch L false [r] t:=by
 induction h with
 |nil s=>exact fun h=>h
 |cons ha h ih=>exact fun h'=>ih (Rch.on (bk:=false) h' ha rfl)
theorem aCp {D:TF} (hL: ∀a∈D.arcs,a.i=a.o/\a.i≠0) {w:List Int} {c:Int}:CW D D.start w c <-> Wt D w w c:=
 ⟨fun⟨t,d,h1,h2,h3⟩=>⟨t,d,Fo hL h1,h2,h3⟩,fun⟨t,d,h1,h2,h3⟩=>⟨t,d,(Ez hL h1).2,h2,h3⟩⟩
theorem lC.co {F U:TF} (h:lC F U) (hF:FRng F) (hL: ∀a∈F.arcs,a.i=a.o/\a.i≠0) (hn: ∃w c,CW U U.start w c): ∀s,0<=s/\s<U.st-> ∃w c,CW U s w c:=by
 have hLU: ∀a∈U.arcs,a.i=a.o/\a.i≠0:=fun a ha=>by
  obtain⟨b,hb,e1,e2,_⟩:=h.arcs ha
  rw[e1,e2];exact hL b hb
 obtain⟨p,hp,h1,h2,h3,h4⟩:=h
 intro s hs
 by_cases hps:p F.start.toNat=true
 ·have e1:(kT F p).arcs=bW p F.arcs F.arcs.length:=by unfold kT;rw[if_pos hps]
  have e2:(kT F p).st=(rkB p F.st.toNat:Nat):=by unfold kT;rw[if_pos hps]
  have e3:(kT F p).fin=bY p F.fin F.st.toNat:=by unfold kT;rw[if_pos hps]
  rw[e1]at h4
  rw[e2]at h1
  rw[e3]at h3
  obtain⟨j,hj,hpj,hrk⟩:=Fl (p:=p) (n:=F.st.toNat) (r:=s.toNat) (by omega)
  obtain⟨r1,e,r2,r3,r4⟩:=(hp.iff j hj).1 hpj
  obtain⟨w,c,t,d,hr,hf,_⟩:=Xw (e:=(e:Int)) (by rw[Int.toNat_natCast];exact r3) r4
  obtain⟨i1,i2,i3,i4,i5,i6⟩:=tW hF hp (Fo hL hr) ⟨by omega,by omega⟩ r1 hf
  rw[h4]at hLU
  have hw:=(Ez hLU i6).2
  rw[Int.toNat_natCast,hrk,show((s.toNat:Nat):Int)=s by omega]at hw
  refine⟨w,d+U.fin.getD (rkB p t.toNat) 0,(rkB p t.toNat:Nat),d,by rw[h4];exact hw,?_,by rw[Int.toNat_natCast]⟩
  rw[Int.toNat_natCast,h3,pA F.fin (by omega) i3]
  exact hf
 ·exfalso
  have e1:(kT F p).arcs=[]:=by unfold kT;rw[if_neg hps]
  have e2:(kT F p).start=0:=by unfold kT;rw[if_neg hps]
  have e3:(kT F p).fin=[-1]:=by unfold kT;rw[if_neg hps]
  obtain⟨w,c,t,d,hr,hf,_⟩:=hn
  obtain⟨_,rfl,_⟩:=hr.empty (h4.trans e1)
  rw[h2,h3,e2,e3]at hf
  exact hf rfl
section
variable {F U:TF} {st:DS} (h:fE F U st)
include h
theorem fE.detD (cf ca:Nat):aDo (mkD U st cf ca):=by
 have hr:=h.ri
 refine⟨hr.srt,fun a ha b hb e1 e2=>?_⟩
 obtain⟨j,x,_,_,_,_,_,rfl⟩:=hr.snd a ha
 obtain⟨k,y,_,_,_,_,_,rfl⟩:=hr.snd b hb
 have e1:(j:Int)=(k:Int):=e1
 have e2:x=y:=e2
 have e3:j=k:=by omega
 rw[e3,e2]
theorem fE.rngD (cf ca:Nat): ∀a∈(mkD U st cf ca).arcs,(0<=a.f/\a.f<(mkD U st cf ca).st)/\(0<=a.t/\a.t<(mkD U st cf ca).st)/\(1<=a.i/\a.i<=9)/\a.i=a.o:=fun a ha=>by
 obtain⟨j,x,q1,q2,q3,q4,q5,q6,q7,q8,q9,q10⟩:=h.ri.arc ha
 show(0<=a.f/\a.f<((st.1.length:Nat):Int))/\(0<=a.t/\a.t<((st.1.length:Nat):Int))/\_
 omega
theorem fE.cw1 {cf ca:Nat} {w:List Int} {c:Int} (hc:CW (mkD U st cf ca) 0 w c):cB (CW U U.start w) c:=by
 obtain⟨t,d,h1,h2,rfl⟩:=hc
 have hm:=h.ri.endm h.hU h.hfin h1
 have ht:=h1.rng (n:=(mkD U st cf ca).st) (fun a ha=>(h.rngD cf ca a ha).2.1) ⟨Int.le_refl _,by show(0:Int)<((st.1.length:Nat):Int);have:=h.ri.len;omega⟩
 have ht2:t.toNat<st.1.length:=by have:t<((st.1.length:Nat):Int):=ht.2;omega
 have h2:(st.1.map (bQ U)).getD t.toNat 0≠ -1:=h2
 show cB _ (d+(st.1.map (bQ U)).getD t.toNat 0)
 rw[Gg ht2]at h2⊢
 rw[if_neg h2]at hm
 exact hm
theorem fE.cw2 {cf ca:Nat} {w:List Int} {c:Int} (hc:CW U U.start w c): ∃m,m<=c/\CW (mkD U st cf ca) 0 w m:=by
 obtain⟨t,d,h1,h2,h3⟩:=hc
 obtain⟨j,e,hj,hr⟩:=h.ri.reads h.hU (fun a ha=>(h.hlet a ha).1) ⟨t,d,h1⟩
 have hm:=h.ri.endm h.hU h.hfin hr
 have hle:=hm.le ⟨t,d,h1,h2,h3⟩
 rw[Int.toNat_natCast]at hle
 by_cases e2:bQ U (st.1.getD j [])= -1
 ·rw[if_pos e2]at hle;exact absurd rfl hle.1
 ·rw[if_neg e2]at hle
  refine⟨_,hle.2,(j:Int),e,hr,?_,?_⟩
  ·show(st.1.map (bQ U)).getD _ 0≠ -1
   rw[Int.toNat_natCast,Gg hj];exact e2
  ·show _=e+(st.1.map (bQ U)).getD _ 0
   rw[Int.toNat_natCast,Gg hj]
theorem fE.co (hn: ∃w c,CW U U.start w c) (cf ca:Nat) {j:Nat} (hj:j<st.1.length): ∃w c,CW (mkD U st cf ca) j w c:=by
 obtain⟨h1,h2,h3⟩:=h.small
 have hne:=h1.ne _ (aB st.1 j [] hj)
 obtain⟨e,he⟩:=List.exists_mem_of_ne_nil _ hne
 have hok:=(h1.ok j hj).rng e he
 obtain⟨w0,d0,hr⟩:=h.ri.rch j hj
 have hsub:=h.ri.sub h.hU hr
 rw[Int.toNat_natCast]at hsub
 have hp:=(hsub.min e he).is (by have:=hsub.r0;have:=hsub.b0 e he;omega)
 obtain⟨v,c,t,d,g1,g2,g3⟩:=h.us.co h.wok.toFRng h.lets hn e.a hok.1
 obtain⟨m,_,t',d',k1,k2,k3⟩:=h.cw2 (cf:=cf) (ca:=ca) (w:=w0++v) (c:=_) ⟨t,_,hp.app g1,g2,rfl⟩
 obtain⟨q,x,y,l1,l2,l3⟩:=k1.split
 obtain⟨rfl,_⟩:=RdW.det (h.detD cf ca) l1 hr
 exact⟨v,_,t',y,l2,k2,rfl⟩
end
theorem yP {p:Nat->Bool} {n:Nat} (hp: ∀j,j<n->p j=true): ∀k,k<=n->rkB p k=k
 |0,_=>rfl
 |k+1,hk=>by
  show(if p k=true then rkB p k+1 else rkB p k)=k+1
  rw[if_pos (hp k (by omega)),yP hp k (by omega)]
theorem Re {p:Nat->Bool} {fin:List Int} (hp: ∀j,j<fin.length->p j=true): ∀k,k<=fin.length->bY p fin k=fin.take k
 |0,_=>by simp[bY]
 |k+1,hk=>by
  show(if p k=true then bY p fin k++[fin.getD k 0]else bY p fin k)=_
  rw[if_pos (hp k (by omega)),Re hp k (by omega),List.take_add_one]
  simp[List.getD,show k<fin.length by omega]
theorem Rf {p:Nat->Bool} {l:List Arc} {n:Nat} (hp: ∀j,j<n->p j=true) (hl: ∀a∈l,(0<=a.f/\a.f<n)/\(0<=a.t/\a.t<n)): ∀k,k<=l.length->bW p l k=l.take k
 |0,_=>by simp[bW]
 |k+1,hk=>by
  have ha:=hl _ (aB l k aD (by omega))
  show(if kOk p (l.getD k aD)=true then bW p l k++[jN p (l.getD k aD)]else bW p l k)=_
  have e1:kOk p (l.getD k aD)=true:=by unfold kOk;rw[hp _ (by omega),hp _ (by omega)];rfl
  have e2:jN p (l.getD k aD)=l.getD k aD:=by
   unfold jN
   rw[yP hp _ (by omega),yP hp _ (by omega),show(((l.getD k aD).f.toNat:Nat):Int)=(l.getD k aD).f by omega,show(((l.getD k aD).t.toNat:Nat):Int)=(l.getD k aD).t by omega]
  rw[if_pos e1,e2,Rf hp hl k (by omega),List.take_add_one]
  simp[List.getD,show k<l.length by omega]
theorem aDI {D:TF} {p:Nat->Bool} (hD:FRng D) (hs:0<=D.start/\D.start<D.st) (hp: ∀j,j<D.st.toNat->p j=true):kT D p=⟨D.st,D.start,D.fin,D.arcs,0,0⟩:=by
 have hst:=hD.st
 have hfl:=hD.finl
 have e:D.st.toNat=D.fin.length:=by omega
 unfold kT
 rw[if_pos (hp _ (by omega)),yP hp _ (Nat.le_refl _),yP hp _ (by omega),Rf hp (fun a ha=>by have:=hD.arc a ha;omega) _ (Nat.le_refl _),e,Re (by rw[<-e];exact hp) _ (Nat.le_refl _),List.take_length,List.take_length]
 rw[show((D.fin.length:Nat):Int)=D.st by omega,show((D.start.toNat:Nat):Int)=D.start by omega]
theorem FRng.ofB {D:TF} (h:mL D):FRng D:=by
 have:=h.st
 have:=h.arcl
 exact⟨⟨by omega,by omega⟩,h.finl,by omega,fun a ha=>⟨(h.arc a ha).f0,(h.arc a ha).f1,(h.arc a ha).t0,(h.arc a ha).t1⟩⟩
theorem Zp {D:TF} (h:mL D) (p:Nat->Bool) (c1 c2:Nat):mL ⟨(kT D p).st,(kT D p).start,(kT D p).fin,(kT D p).arcs,c1,c2⟩:=by
 have hR:=FRng.ofB h
 obtain⟨f1,f2,f3⟩:=aAb hR h.start p c1 c2
 have hst:=h.st
 have hal:=h.arcl
 have hfl:=h.finl
 refine⟨⟨by show 1<=(kT D p).st;omega,by show(kT D p).st<=200;omega⟩,f2,f1.finl,?_,?_,?_⟩
 ·show∀n∈(kT D p).fin,_
  unfold kT
  split
  ·intro n hn
   obtain⟨j,hj,rfl⟩:=lZ D.fin hn
   exact h.fin _ (aB D.fin j 0 (by omega))
  ·intro n hn
   have:n= -1:=by simpa using hn
   omega
 ·show(kT D p).arcs.length<=3000
  unfold kT
  split
  ·have:=iN p D.arcs D.arcs.length
   show(bW p D.arcs D.arcs.length).length<=3000
   omega
  ·simp
 ·intro a ha
  have hr:=f1.arc a ha
  have: ∀a∈(kT D p).arcs,∃b∈D.arcs,a.i=b.i/\a.o=b.o/\a.w=b.w:=by
   unfold kT
   split
   ·intro a ha
    obtain⟨b,hb,_,_,rfl⟩:=fN.1 ha
    exact⟨b,hb,rfl,rfl,rfl⟩
   ·intro a ha;cases ha
  obtain⟨b,hb,e1,e2,e3⟩:=this a ha
  have hb:=h.arc b hb
  exact⟨hr.1,hr.2.1,hr.2.2.1,hr.2.2.2,e1▸hb.i0,e2▸hb.o0,by rw[e3];exact hb.w0,by rw[e3];exact hb.w1⟩
section
variable {F U:TF} {st:DS} (h:fE F U st) (h12:F.st<=12)
include h h12
theorem fE.all (hn: ∃w c,CW U U.start w c) {cf ca:Nat} {p:Nat->Bool} (hp:nH (mkD U st cf ca) p):kT (mkD U st cf ca) p=⟨(st.1.length:Nat),0,st.1.map (bQ U),st.2,0,0⟩:=by
 have hB:=(h.fokB h12 cf ca).1
 refine aDI (FRng.ofB hB) hB.start fun j hj=>?_
 have hj2:j<st.1.length:=by
  have:j<((st.1.length:Nat):Int).toNat:=hj
  omega
 refine(hp.iff j hj).2 ⟨?_,?_⟩
 ·obtain⟨w,d,hr⟩:=h.ri.rch j hj2
  exact aCF hr (.here (List.mem_singleton.2 rfl))
 ·obtain⟨w,c,hw⟩:=h.co hn cf ca hj2
  exact aAl (fun a ha=>(h.rngD cf ca a ha).2.1) w j c ⟨by omega,by show(j:Int)<((st.1.length:Nat):Int);omega⟩ hw
theorem fE.none (hn: ¬∃w c,CW U U.start w c) {cf ca:Nat} {p:Nat->Bool} (hp:nH (mkD U st cf ca) p) (c1 c2:Nat):
  (onS ⟨(kT (mkD U st cf ca) p).st,(kT (mkD U st cf ca) p).start,(kT (mkD U st cf ca) p).fin,(kT (mkD U st cf ca) p).arcs,c1,c2⟩).1.getD (kT (mkD U st cf ca) p).start.toNat 0= -1:=by
 have hB:=(h.fokB h12 cf ca).1
 have hk:=Zp hB p c1 c2
 have hs:=hk.start
 simp only at hs
 refine Classical.byContradiction fun hc=>hn ?_
 have hm:=Qu hk (q:=(kT (mkD U st cf ca) p).start.toNat) (by simp only;omega)
 obtain⟨w,hw⟩:=hm.is hc
 rw[show(((kT (mkD U st cf ca) p).start.toNat:Nat):Int)=(kT (mkD U st cf ca) p).start by omega]at hw
 have hL: ∀a∈(mkD U st cf ca).arcs,a.i=a.o/\a.i≠0:=fun a ha=>by have:=h.rngD cf ca a ha;omega
 have hLk: ∀a∈(kT (mkD U st cf ca) p).arcs,a.i=a.o/\a.i≠0:=by
  unfold kT
  split
  ·intro a ha
   obtain⟨b,hb,_,_,rfl⟩:=fN.1 ha
   exact hL b hb
  ·intro a ha;cases ha
 have h1:Wt (kT (mkD U st cf ca) p) w w _:=(aCp hLk).1 hw
 have h2:=(aCp hL).2 ((Cf (FRng.ofB hB) hB.start hp).1 h1)
 exact⟨w,_,(h.cw1 h2).is (by have:=CW.pos hB _ _ _ h2;omega)⟩
end
open Go Go.Proofs
instance {a b:Bool}:CB (!(a==b)) (¬a=b) (a=b):=⟨fun h=>by simpa using h,fun h=>by simpa using h⟩
section
variable {F U:TF} {st:DS} (h:fE F U st) {W vs:List (List Int)} {par sym:List Int} (hw:WSt U W vs par sym W.length 1)
include h hw
end
section
theorem lC.nil {F U:TF} (h:lC F U) (hF:FRng F) (hs:0<=F.start/\F.start<F.st) (hL: ∀a∈F.arcs,a.i=a.o/\a.i≠0) (hn: ¬∃w c,CW U U.start w c):U.arcs=[]:=by
 have hLU: ∀a∈U.arcs,a.i=a.o/\a.i≠0:=fun a ha=>by
  obtain⟨b,hb,e1,e2,_⟩:=h.arcs ha
  rw[e1,e2];exact hL b hb
 obtain⟨p,hp,h1,h2,h3,h4⟩:=h
 by_cases hps:p F.start.toNat=true
 ·exfalso
  have e1:(kT F p).arcs=bW p F.arcs F.arcs.length:=by unfold kT;rw[if_pos hps]
  have e2:(kT F p).start=(rkB p F.start.toNat:Nat):=by unfold kT;rw[if_pos hps]
  have e3:(kT F p).fin=bY p F.fin F.st.toNat:=by unfold kT;rw[if_pos hps]
  rw[e1]at h4
  rw[e2]at h2
  rw[e3]at h3
  obtain⟨r1,e,r2,r3,r4⟩:=(hp.iff F.start.toNat (by omega)).1 hps
  obtain⟨w,c,t,d,hr,hf,_⟩:=Xw (e:=(e:Int)) (by rw[Int.toNat_natCast];exact r3) r4
  obtain⟨i1,i2,i3,i4,i5,i6⟩:=tW hF hp (Fo hL hr) ⟨by omega,by omega⟩ r1 hf
  rw[h4]at hLU
  have hw:=(Ez hLU i6).2
  rw[Int.toNat_natCast,<-h2]at hw
  refine hn ⟨w,d+U.fin.getD (rkB p t.toNat) 0,(rkB p t.toNat:Nat),d,by rw[h4];exact hw,?_,by rw[Int.toNat_natCast]⟩
  rw[Int.toNat_natCast,h3,pA F.fin (by omega) i3]
  exact hf
 ·rw[h4]
  unfold kT
  rw[if_neg hps]
variable {F U G V:TF} {st st':DS} (h:fE F U st) (h12:F.st<=12) {W vs:List (List Int)} {par sym:List Int} (hw:WSt U W vs par sym W.length 1)
 (h':fE G V st') (h12':G.st<=12) {Y ys:List (List Int)} {par' sym':List Int} (hw':WSt V Y ys par' sym' Y.length 1)
include h h12 hw h' h12' hw'
end
section
variable {F U:TF} {st:DS} (h:fE F U st) (h12:F.st<=12) (hn: ∃w c,CW U U.start w c) {W vs:List (List Int)} {par sym:List Int} (hw:WSt U W vs par sym W.length 1)
def dsD (U:TF) (st:DS) (q:Nat):Int:=(onS (mkD U st 0 0)).1.getD q 0
include h h12 hn
theorem Od {q:Nat} (hq:q<st.1.length):cB (fun c=> ∃w,CW (mkD U st 0 0) q w c) (dsD U st q)/\0<=dsD U st q/\dsD U st q<=100000000000:=by
 have hB:=(h.fokB h12 0 0).1
 have hm:=Qu hB (q:=q) (by show q<((st.1.length:Nat):Int).toNat;omega)
 obtain⟨w,c,hc⟩:=h.co hn 0 0 hq
 have h1:=hm.le ⟨w,hc⟩
 have hlow:=hm.low
 obtain⟨v,hv⟩:=hm.is h1.1
 refine⟨hm,by unfold dsD;omega,?_⟩
 obtain⟨w0,d0,hr⟩:=h.ri.rch q hq
 obtain⟨t,d,k1,k2,k3⟩:=hv
 have hall:CW (mkD U st 0 0) 0 (w0++v) (d0+(dsD U st q)):=⟨t,d0+d,hr.app k1,k2,by unfold dsD;omega⟩
 have hd0:=(h.ri.sub h.hU hr).r0
 obtain⟨t2,d2,k4,k5,k6⟩:=(h.cw1 hall).is (by have:=CW.pos hB _ _ _ hall;omega)
 have:=(h.short h12 k4).2
 have hfu:U.fin.getD t2.toNat 0<=1000000000:=by
  by_cases hj:t2.toNat<U.fin.length
  ·exact(h.uok.1.fin _ (aB U.fin _ 0 hj)).2
  ·simp only[List.getD,List.getElem?_eq_none (show U.fin.length<=t2.toNat by omega),Option.getD_none];omega
 omega
include hw
end
def cV (F:TF):Int:=if aL F≠0 then aL F else if 12<F.st then 2 else if lK F=true then 0 else 4
def aAF (U:TF) (st:DS) (n:Nat) (ff:List Int) (oo:List Arc):Prop:=
 (¬(∃w c,CW U U.start w c)/\n=1/\ff=[-1]/\oo=[])\/
 ((∃w c,CW U U.start w c)/\ ∃c1 c2 cls left outs,rG (phT (mkD U st 0 0) c1 c2) cls/\bP (phT (mkD U st 0 0) c1 c2) cls left.length=(left,outs)/\
   (∀j,j<left.length->j<(bP (phT (mkD U st 0 0) c1 c2) cls j).1.length)/\MgI (phT (mkD U st 0 0) c1 c2) cls (left,outs)/\n=left.length/\ff=adF (dsD U st 0) (left.map (fiA (phT (mkD U st 0 0) c1 c2)))/\oo=outs.map (adA (dsD U st 0)))
def mK (F:TF) (x:Glo) (v:SV) (s:S):Prop:=
 (cV F≠0/\v= .tup [.agg aW,.c (.i (cV F))]/\s=⟨[],[(2,aF x)],3⟩)\/
 (cV F=0/\ ∃U,lC F U/\
  ((200<iO U 201 200 [⟨U.start,0⟩]/\v= .tup [.agg aW,.c (.i 2)]/\s=⟨[],[(2,aF x)],3⟩)\/
   (iO U 201 200 [⟨U.start,0⟩]<=200/\ ∃st:DS,jI U st/\ ∃n ff oo,aAF U st n ff oo/\
    ((eM oo ff=true/\v= .tup [.agg aW,.c (.i 2)]/\s=⟨[],[(2,aF x)],3⟩)\/
     (eM oo ff=false/\ ∃sp sq,v= .tup [.agg [.i (n:Nat),.i 0,.sl 3 1 0 ff.length (ff.length+sp),.sl 4 5 0 oo.length (oo.length+sq)],.c (.i 0)]/\
      s=⟨[],[(2,aF x),(3,.arr true 3 .int ff sp),(4,.arr true 55 .arc oo sq)],5⟩)))))
theorem Gj (F:TF) (hl:F.fin.length<=9223372036854775807) (x:Glo) (hx:gJ x):Ct Tryz.prog 77 [fV F] [] (hpF F++[(2,aF x)]) 3 (mK F x):=by
 by_cases h:aL F=0
 ·have hF:=aK h
  have hst:=hF.st
  have hss:=hF.start
  by_cases h12:12<F.st
  ·have hd:cV F=2:=by unfold cV;rw[if_neg (fun c=>c h),if_pos h12]
   refine ctW Tryz.tyOk 10 [] Tryz.func77 rfl (by simp) (by simp) (fr:= [(0,fV F)]) rfl ?_
   refine gO ?_
   refine cI (aU F hl) [0,1] Tryz.call35 ?_
   rw[h]
   refine gO fun h=>?_
   all_goals
    first
    |(exfalso;omega)
    |((conv=>whnf)
      exact⟨[],[(2,aF x)],3,.tup [.agg aW,.c (.i 2)],⟨by rfl,trivial,by simp⟩,by simp,.inl ⟨by rw[hd];decide,by rw[hd],rfl⟩⟩)
  ·by_cases hf:lK F=true
   ·have hd:cV F=0:=by unfold cV;rw[if_neg (fun c=>c h),if_neg h12,if_pos hf]
    refine ctW Tryz.tyOk 10 [] Tryz.func77 rfl (by simp) (by simp) (fr:= [(0,fV F)]) rfl ?_
    refine gO ?_
    refine cI (aU F hl) [0,1] Tryz.call35 ?_
    rw[h]
    refine gO fun h=>?_
    all_goals try(exfalso;omega)
    (conv=>whnf)
    refine cI (Gt F (FRng.of hF)) [0,1] Tryz.call74 ?_
    rw[hf]
    refine gO ?_
    refine cF (Zb F (WOk.of hF) (by omega) (by omega) x hx) [0,1,2] Tryz.call75 ?_
    rintro v s ⟨U,hus,⟨h1,rfl,rfl⟩|⟨h1,st,hmd,sp,sq,rfl,rfl⟩⟩
    ·simp only[Nat.reduceAdd,Nat.reduceSub]
     refine gI ?_
     exact⟨[],[(2,aF x)],3,.tup [.agg aW,.c (.i 2)],⟨by rfl,trivial,by simp⟩,by simp,.inr ⟨hd,U,hus,.inl ⟨h1,rfl,rfl⟩⟩⟩
    ·have hD:fE F U st:=⟨hF,hf,hus,h1,hmd⟩
     have hle:F.st<=12:=by omega
     have hB:=fun cf ca=>(hD.fokB hle cf ca).1
     obtain⟨_,hs1,hs2⟩:=hD.small
     have hdec: ∀v s,(∃n ff oo,aAF U st n ff oo/\((eM oo ff=true/\v= .tup [.agg aW,.c (.i 2)]/\s=⟨[],[(2,aF x)],3⟩)\/
      (eM oo ff=false/\ ∃sp sq,v= .tup [.agg [.i (n:Nat),.i 0,.sl 3 1 0 ff.length (ff.length+sp),.sl 4 5 0 oo.length (oo.length+sq)],.c (.i 0)]/\
      s=⟨[],[(2,aF x),(3,.arr true 3 .int ff sp),(4,.arr true 55 .arc oo sq)],5⟩)))->mK F x v s:=fun v s hp=> .inr ⟨hd,U,hus,.inr ⟨h1,st,hmd,hp⟩⟩
     by_cases hn: ∃w c,CW U U.start w c
     ·have c63: ∀cf ca,Ct Tryz.prog 48 [.a (.agg [.i (st.1.length:Nat),.i 0,.sl 0 1 0 (st.1.map (bQ U)).length cf,.sl 1 5 0 st.2.length ca])] [] [(0,.arr false 3 .int (st.1.map (bQ U)) 0),(1,.arr false 55 .arc st.2 0)] 2 (lM (st.1.length:Nat) 0 (st.1.map (bQ U)) st.2 2):=fun cf ca=>
       (nZ (mkD U st cf ca) (FRng.ofB (hB cf ca)) (hB cf ca).start).to fun v s ⟨p,hp,ho⟩=>by rw[hD.all hle hn hp]at ho;exact ho
      have d0:=Od hD hle hn (q:=0) (by have:=hD.ri.len;omega)
      have c73: ∀cf ca,Ct Tryz.prog 66 [.a (.agg [.i (st.1.length:Nat),.i 0,.sl 0 1 0 (st.1.map (bQ U)).length cf,.sl 1 5 0 st.2.length ca])] [] [(0,.arr false 3 .int (st.1.map (bQ U)) 0),(1,.arr false 55 .arc st.2 0)] 2
        (fun v s=> ∃sp sp',v= .tup [.agg [.i (st.1.length:Nat),.i 0,.sl 2 1 0 (st.1.map (bQ U)).length ((st.1.map (bQ U)).length+sp),.sl 3 5 0 (phT (mkD U st 0 0) 0 0).arcs.length ((phT (mkD U st 0 0) 0 0).arcs.length+sp')],.c (.i (dsD U st 0))]/\
         s=⟨[],[(2,.arr true 3 .int (phT (mkD U st 0 0) 0 0).fin sp),(3,.arr true 55 .arc (phT (mkD U st 0 0) 0 0).arcs sp')],4⟩):=fun cf ca=>
       (yX (mkD U st cf ca) (hB cf ca)).to fun v s hp=>by
        have: ¬(onS (mkD U st cf ca)).1.getD (mkD U st cf ca).start.toNat 0= -1:=fun e=>by
         have e:dsD U st 0= -1:=e
         omega
        rw[if_neg this]at hp
        exact hp
      have hX:=fun c1 c2=>Qr (hB 0 0) (c1:=c1) (c2:=c2) fun q hq=>by
       have hq:q<((st.1.length:Nat):Int).toNat:=hq
       have:=Od hD hle hn (q:=q) (by omega)
       unfold dsD at this
       omega
      have hXr:=fun c1 c2=>Yj (c1:=c1) (c2:=c2) (hD.round 0 0)
      have c75: ∀c1 c2,Ct Tryz.prog 128 [.a (.agg [.i (st.1.length:Nat),.i 0,.sl 0 1 0 (phT (mkD U st 0 0) 0 0).fin.length c1,.sl 1 5 0 (phT (mkD U st 0 0) 0 0).arcs.length c2])] [] [(0,.arr false 3 .int (phT (mkD U st 0 0) 0 0).fin 0),(1,.arr false 55 .arc (phT (mkD U st 0 0) 0 0).arcs 0),(2,aF x)] 3
        (fun v s=> ∃cls,rG (phT (mkD U st 0 0) c1 c2) cls/\v= .c (.sl 3 1 0 cls.length cls.length)/\s=⟨[],[(2,aF x),(3,.arr true 3 .int cls 0)],4⟩):=fun c1 c2=>
       Vm (phT (mkD U st 0 0) c1 c2) (hX c1 c2) (hXr c1 c2) x hx
      have c76: ∀c1 c2 cls,rG (phT (mkD U st 0 0) c1 c2) cls->Ct Tryz.prog 129 [.c (.ptr 2 0),.i (dsD U st 0)] [] [(0,.arr false 3 .int (phT (mkD U st 0 0) 0 0).fin 0),(1,.arr false 55 .arc (phT (mkD U st 0 0) 0 0).arcs 0),(2,.box 161 [.i (st.1.length:Nat),.i 0,.sl 0 1 0 (phT (mkD U st 0 0) 0 0).fin.length c1,.sl 1 5 0 (phT (mkD U st 0 0) 0 0).arcs.length c2,.sl 3 1 0 cls.length cls.length,.mp 4,.v (.slice none 0 0),.i 0,.i 0,.v (.slice none 0 0),.v (.slice none 0 0)]),(3,.arr false 3 .int cls 0),(4,.map .int .int [] 0)] 5
        (fun v s=> ∃n ff oo,aAF U st n ff oo/\n<=100000/\ff.length<=100000/\oo.length<=9223372036854775807/\ ∃fsp asp,v= .a (.agg [.i (n:Nat),.i 0,.sl 5 1 0 ff.length (ff.length+fsp),.sl 6 5 0 oo.length (oo.length+asp)])/\s=⟨[],[(5,.arr true 3 .int ff fsp),(6,.arr true 55 .arc oo asp)],7⟩):=fun c1 c2 cls hc=>
       (aBq (phT (mkD U st 0 0) c1 c2) (hX c1 c2) ⟨Int.le_refl _,by show(0:Int)<((st.1.length:Nat):Int);have:=hD.ri.len;omega⟩ cls cls.length hc.len hc.bd (dsD U st 0) (by omega)).to fun v s ⟨left,outs,fsp,asp,m1,m2,m3,m4,m5⟩=>
        ⟨left.length,_,_,.inr ⟨hn,c1,c2,cls,left,outs,hc,m1,m2,m3,rfl,rfl,rfl⟩,by
         have:=m3.le (hX c1 c2).st.1 hc.bd
         have e:(phT (mkD U st 0 0) c1 c2).st=((st.1.length:Nat):Int):=rfl
         simp only at this
         omega,by
         have:=m3.le (hX c1 c2).st.1 hc.bd
         have e:(phT (mkD U st 0 0) c1 c2).st=((st.1.length:Nat):Int):=rfl
         have e2:(adF (dsD U st 0) (left.map (fiA (phT (mkD U st 0 0) c1 c2)))).length=left.length:=by unfold adF;split<;>simp
         simp only at this
         omega,by
         have hk: ∀k,(bP (phT (mkD U st 0 0) c1 c2) cls k).2.length<=k*(phT (mkD U st 0 0) c1 c2).arcs.length:=fun k=>by
          induction k with
          |zero=>simp[bP]
          |succ k ih=>
           have:=(xQ (D:=phT (mkD U st 0 0) c1 c2) (cls:=cls) (i:=k) (s:=(bP (phT (mkD U st 0 0) c1 c2) cls k).1.getD k 0) (st:=bP (phT (mkD U st 0 0) c1 c2) cls k) (phT (mkD U st 0 0) c1 c2).arcs.length).1
           show(mgP _ _ _ _ _ _).2.length<=_
           rw[Nat.succ_mul]
           omega
         have h2:=hk left.length
         rw[m1]at h2
         have h3:=m3.le (hX c1 c2).st.1 hc.bd
         have e:(phT (mkD U st 0 0) c1 c2).st=((st.1.length:Nat):Int):=rfl
         simp only at h2 h3
         have h4:left.length*(phT (mkD U st 0 0) c1 c2).arcs.length<=200*(phT (mkD U st 0 0) c1 c2).arcs.length:=Nat.mul_le_mul_right _ (by omega)
         have h5:=(hX c1 c2).arc1
         rw[List.length_map]
         omega,fsp,asp,m4,m5⟩
      have hpl:(phT (mkD U st 0 0) 0 0).fin.length=(st.1.map (bQ U)).length:=jU _ _ _
      have hfl:(st.1.map (bQ U)).length<=200:=by rw[List.length_map];omega
      have hal:(phT (mkD U st 0 0) 0 0).arcs.length<=10000:=(hX 0 0).arc1
      clear hX hXr hB
      generalize (phT (mkD U st 0 0) 0 0).fin=pf at*
      generalize (phT (mkD U st 0 0) 0 0).arcs=pl at*
      simp only[hpl]at c75 c76
      generalize hcl:rG=CO at*
      clear hcl
      generalize st.1.map (bQ U)=fins at*
      generalize ((st.1.length:Nat):Int)=nst at*
      generalize st.2=raw at*
      generalize dsD U st 0=more at*
      simp only[Nat.reduceAdd,Nat.reduceSub]
      refine gI ?_
      refine cF (c63 (fins.length+sp) (raw.length+sq)) [5,6] Tryz.call48 ?_
      rintro _ _ ⟨sp1,sq1,rfl,rfl⟩
      simp only[Nat.reduceAdd,Nat.reduceSub]
      refine gM ?_
      refine cF (c73 (fins.length+sp1) (raw.length+sq1)) [8,9] Tryz.call66 ?_
      rintro _ _ ⟨sp2,sq2,rfl,rfl⟩
      try simp only[Nat.reduceAdd,Nat.reduceSub]
      refine gI ?_
      refine fun h=>⟨?_,?_⟩
      all_goals
       (conv=>whnf)
       simp only[Nat.reduceAdd,Nat.reduceSub]
       refine cF (c75 (fins.length+sp2) (pl.length+sq2)) [10,11,2] Tryz.call128 ?_
       rintro _ _ ⟨cls,hcls,rfl,rfl⟩
       refine gM ?_
      refine cF (c76 (fins.length+sp2) (pl.length+sq2) cls hcls) [10,11,14,12,13] Tryz.call129 ?_
      rotate_left
      refine cF (c76 (fins.length+sp2) (pl.length+sq2) cls hcls) [10,11,14,13,12] Tryz.call129 ?_
      rotate_left
      all_goals
       rintro _ _ ⟨n,ff,oo,hls,hn1,hf1,ho1,fsp,asp,rfl,rfl⟩
       refine gM ?_
       have hgc:=Rl ⟨(n:Nat),0,ff,oo,ff.length+fsp,oo.length+asp⟩ ho1 (by simp only;omega)
       refine cI (hgc) [15,16] Tryz.call76 ?_
       simp only
       cases hg:eM oo ff with
       |true=>
        refine gO ?_
        exact⟨[],[(2,aF x)],3,.tup [.agg aW,.c (.i 2)],⟨by rfl,trivial,by simp⟩,by simp,hdec _ _ ⟨n,ff,oo,hls,.inl ⟨hg,rfl,rfl⟩⟩⟩
       |false=>
        refine gO ?_
        exact⟨[(3,some 15),(4,some 16)],[(2,aF x),(3,.arr true 3 .int ff fsp),(4,.arr true 55 .arc oo asp)],5,.tup [.agg [.i (n:Nat),.i 0,.sl 3 1 0 ff.length (ff.length+fsp),.sl 4 5 0 oo.length (oo.length+asp)],.c (.i 0)],⟨by rfl,trivial,by simp⟩,by simp,hdec _ _ ⟨n,ff,oo,hls,.inr ⟨hg,fsp,asp,rfl,rfl⟩⟩⟩
     ·have c63: ∀cf ca,Ct Tryz.prog 48 [.a (.agg [.i (st.1.length:Nat),.i 0,.sl 0 1 0 (st.1.map (bQ U)).length cf,.sl 1 5 0 st.2.length ca])] [] [(0,.arr false 3 .int (st.1.map (bQ U)) 0),(1,.arr false 55 .arc st.2 0)] 2 (fun v s=> ∃ts tr tf ta,lM ts tr tf ta 2 v s/\
        ∀c1 c2,mL ⟨ts,tr,tf,ta,c1,c2⟩/\(onS ⟨ts,tr,tf,ta,c1,c2⟩).1.getD tr.toNat 0= -1):=fun cf ca=>
       (nZ (mkD U st cf ca) (FRng.ofB (hB cf ca)) (hB cf ca).start).to fun v s ⟨p,hp,ho⟩=>⟨_,_,_,_,ho,fun c1 c2=>⟨Zp (hB cf ca) p c1 c2,hD.none hle hn hp c1 c2⟩⟩
      have hls:aAF U st 1 [-1] []:= .inl ⟨hn,rfl,rfl,rfl⟩
      clear hB
      generalize st.1.map (bQ U)=fins at*
      generalize ((st.1.length:Nat):Int)=nst at*
      generalize st.2=raw at*
      simp only[Nat.reduceAdd,Nat.reduceSub]
      refine gM ?_
      refine cF (c63 (fins.length+sp) (raw.length+sq)) [5,6] Tryz.call48 ?_
      rintro _ _ ⟨ts,tr,tf,ta,⟨sp1,sq1,rfl,rfl⟩,hT⟩
      obtain⟨hT1,hT2⟩:=hT (tf.length+sp1) (ta.length+sq1)
      have hpu:=yX ⟨ts,tr,tf,ta,tf.length+sp1,ta.length+sq1⟩ hT1
      simp only[hT2,if_pos]at hpu
      clear hT hT2
      simp only[Nat.reduceAdd,Nat.reduceSub]
      refine gI ?_
      refine cF (hpu) [8,9] Tryz.call66 ?_
      rintro _ _ ⟨sp2,rfl,rfl⟩
      refine gI ?_
      refine cF (Dh) [] Tryz.call127 ?_
      rintro _ _ ⟨sp3,sq3,rfl,rfl⟩
      refine gM ?_
      exact⟨[(3,some 11),(4,some 12)],[(2,aF x),(3,.arr true 3 .int [-1] sp3),(4,.arr true 55 .arc [] sq3)],5,.tup [.agg [.i ((1:Nat):Int),.i 0,.sl 3 1 0 ([-1]:List Int).length (([-1]:List Int).length+sp3),.sl 4 5 0 ([]:List Arc).length (([]:List Arc).length+sq3)],.c (.i 0)],⟨by rfl,trivial,by simp⟩,by simp,hdec _ _ ⟨1,[-1],[],hls,.inr ⟨by decide,sp3,sq3,rfl,rfl⟩⟩⟩
   ·have hd:cV F=4:=by unfold cV;rw[if_neg (fun c=>c h),if_neg h12,if_neg hf]
    have hf2:lK F=false:=by simpa using hf
    refine ctW Tryz.tyOk 10 [] Tryz.func77 rfl (by simp) (by simp) (fr:= [(0,fV F)]) rfl ?_
    refine gO ?_
    refine cI (aU F hl) [0,1] Tryz.call35 ?_
    rw[h]
    refine gO fun h=>?_
    all_goals try(exfalso;omega)
    (conv=>whnf)
    refine cI (Gt F (FRng.of hF)) [0,1] Tryz.call74 ?_
    rw[hf2]
    refine gO ?_
    exact⟨[],[(2,aF x)],3,.tup [.agg aW,.c (.i 4)],⟨by rfl,trivial,by simp⟩,by simp,.inl ⟨by rw[hd];decide,by rw[hd],rfl⟩⟩
 ·have hd:cV F=aL F:=by unfold cV;rw[if_pos h]
  refine ctW Tryz.tyOk 10 [] Tryz.func77 rfl (by simp) (by simp) (fr:= [(0,fV F)]) rfl ?_
  refine gO ?_
  refine cI (aU F hl) [0,1] Tryz.call35 ?_
  refine gO fun h=>?_
  all_goals
   first
   |(exfalso;omega)
   |((conv=>whnf)
     exact⟨[],[(2,aF x)],3,.tup [.agg aW,.c (.i (aL F))],⟨by rfl,trivial,by simp⟩,by simp,.inl ⟨by rw[hd];exact h,by rw[hd],rfl⟩⟩)
def bK (F G:TF) (q:Trip):Int:=if F.fin.getD q.a.toNat 0≠ -1/\G.fin.getD q.b.toNat 0≠ -1 then F.fin.getD q.a.toNat 0+G.fin.getD q.b.toNat 0 else-1
def eD (ps:List Trip) (q:Trip):List Trip:=if q∈ps then ps else ps++[q]
def kO (F G:TF) (ps:List Trip) (g:Bool) (q:Trip):Bool:=if q∈ps then g else g||decide (1000000000<bK F G q)
structure uN (es:List (Trip×Int×Nat)) (ps:List Trip):Prop where
 len:es.length=ps.length
 lk: ∀q,@lkM EK.trip.ty EK.int.ty (EK.instDeq .trip) es q=if q∈ps then some ((ps.idxOf q:Nat):Int)else none
theorem eY {l m:List Trip} {x:Trip} (h:x∈l):(l++m).idxOf x=l.idxOf x:=by
 rw[List.idxOf_append,if_pos h]
theorem gA {l m:List Trip} {x:Trip} (h:x∉l):(l++m).idxOf x=m.idxOf x+l.length:=by
 rw[List.idxOf_append,if_neg h]
theorem uN.new {es:List (Trip×Int×Nat)} {ps:List Trip} (h:uN es ps) {q:Trip} (hq:q∉ps) (clk:Nat):uN (@bL EK.trip.ty EK.int.ty (EK.instDeq .trip) es clk q ((ps.length:Nat):Int)).1 (ps++[q]):=by
 have hn: ¬(@lkM EK.trip.ty EK.int.ty (EK.instDeq .trip) es q).isSome=true:=by rw[h.lk q,if_neg hq];simp
 refine⟨?_,fun x=>?_⟩
 ·unfold bL
  rw[if_neg hn]
  simp[h.len]
 ·rw[fZ]
  by_cases e:x=q
  ·subst e
   rw[if_pos rfl,if_pos (by simp),gA hq]
   simp
  ·rw[if_neg e,h.lk x]
   by_cases hx:x∈ps
   ·rw[if_pos hx,if_pos (by simp[hx]),eY hx]
   ·rw[if_neg hx,if_neg (by simp[hx,e])]
abbrev cC (F G:TF) (il lo nl cl jf nf cf ir nr cr:Nat) (g:Bool):List SC:= [.i F.st,.i F.start,.sl 0 1 0 F.fin.length F.capF,.sl 1 5 0 F.arcs.length F.capA,.i G.st,.i G.start,.sl 2 1 0 G.fin.length G.capF,.sl 3 5 0 G.arcs.length G.capA,.mp 5,.sl il 3 lo nl cl,.i 0,.i 0,.sl jf 1 0 nf cf,.sl ir 5 0 nr cr,.b g]
structure bU (L:List Trip) (lo cl sp:Nat) (ls:List Trip):Prop where
 is:sub L lo ls.length=ls
 le:lo+ls.length<=L.length
 cp:ls.length<=cl
 ca:lo+cl<=L.length+sp
theorem bU.all (ls:List Trip) (sp:Nat):bU ls 0 (ls.length+sp) sp ls:=⟨by simp[sub],by omega,by omega,by omega⟩
theorem qO {α:Type} (l L:List α) (lo n:Nat) (x:α) (h:sub L lo n=l):lOp.appL (sub L lo n) (sub [x] 0 1)=l++[x]:=by
 rw[h]
 simp[sub,lOp.appL]
structure iR (F G:TF) (q:Trip):Prop where
 a0:0<=q.a
 a1:q.a<F.fin.length
 b0:0<=q.b
 b1:q.b<G.fin.length
section
variable (F G:TF) (es:List (Trip×Int×Nat)) (clk:Nat) (ps L ls:List Trip) (lo cl spL:Nat) (fin:List Int) (spF nr cr:Nat) (g:Bool) (q:Trip)
 (hF: ∀n∈F.fin,-1<=n/\n<=1000000000) (hG: ∀n∈G.fin,-1<=n/\n<=1000000000) (hq:iR F G q) (hm:uN es ps) (hps:ps.length<=1000000) (hls:ls.length<=1000000) (hfl:fin.length<=1000000) (hpl:bU L lo cl spL ls)
include hF hG hq hm hps hls hfl hpl
omit hF hG hps hfl in
theorem Ub (hin:q∈ps):
  Ct Tryz.prog 60 [.c (.ptr 4 0),SV.a (SA.agg [SC.i (Trip.a q),SC.i (Trip.b q),SC.i (Trip.c q)])] [] [(0,.arr false 3 .int F.fin 0),(2,.arr false 3 .int G.fin 0),(4,.box 77 (cC F G 6 lo ls.length cl 7 fin.length (fin.length+spF) 8 nr cr g)),(5,.map .trip .int es clk),(6,.arr true 80 .trip L spL),(7,.arr true 3 .int fin spF)] 9
  (fun v s=> ∃es' clk' L' lo' cl' sl sf,uN es' (ps)/\v= .i ((((ps).idxOf q:Nat)):Int)/\bU L' lo' cl' sl ls/\
   s=⟨[],[(4,.box 77 (cC F G 9 lo' (ls).length cl' 10 (fin).length ((fin).length+sf) 8 nr cr (g))),(5,.map .trip .int es' clk'),(9,.arr true 80 .trip L' sl),(10,.arr true 3 .int (fin) sf)],11⟩):=by
 obtain⟨qa,qb,qc⟩:=q
 have hx:=hm.lk ⟨qa,qb,qc⟩
 have hml:=hm.len
 have hl1:=hpl.le
 have hl2:=hpl.cp
 have hl3:=hpl.ca
 obtain⟨a0,a1,b0,b1⟩:=hq
 simp only at a0 a1 b0 b1
 refine ctW Tryz.tyOk 12 [] Tryz.func60 rfl (by simp) (by simp) (fr:= [(0,.c (.ptr 4 0)),(1,.a (.agg [.i qa,.i qb,.i qc]))]) rfl ?_
 rw[if_pos hin]at hx
 refine gO ?_
 refine⟨fun h=>?_,fun h=>?_⟩
 ·refine⟨[(9,some 6),(10,some 7)],[(4,.box 77 (cC F G 9 lo ls.length cl 10 fin.length (fin.length+spF) 8 nr cr g)),(5,.map .trip .int es clk),(9,.arr true 80 .trip L spL),(10,.arr true 3 .int fin spF)],11,.i ((ps.idxOf (⟨qa,qb,qc⟩:Trip):Nat):Int),⟨by rfl,trivial,by simp⟩,?_,es,clk,L,lo,cl,spL,spF,hm,rfl,hpl,rfl⟩
  simp only[eqV,eqA,eqC,hx,Option.getD_some]
 ·rw[hx]at h;cases h
omit hps in
theorem Nj (hin:q∉ps):
  Ct Tryz.prog 60 [.c (.ptr 4 0),SV.a (SA.agg [SC.i (Trip.a q),SC.i (Trip.b q),SC.i (Trip.c q)])] [] [(0,.arr false 3 .int F.fin 0),(2,.arr false 3 .int G.fin 0),(4,.box 77 (cC F G 6 lo ls.length cl 7 fin.length (fin.length+spF) 8 nr cr g)),(5,.map .trip .int es clk),(6,.arr true 80 .trip L spL),(7,.arr true 3 .int fin spF)] 9
  (fun v s=> ∃es' clk' L' lo' cl' sl sf,uN es' (ps++[q])/\v= .i ((((ps++[q]).idxOf q:Nat)):Int)/\bU L' lo' cl' sl (ls++[q])/\
   s=⟨[],[(4,.box 77 (cC F G 9 lo' (ls++[q]).length cl' 10 (fin++[bK F G q]).length ((fin++[bK F G q]).length+sf) 8 nr cr (g||decide (1000000000<bK F G q)))),(5,.map .trip .int es' clk'),(9,.arr true 80 .trip L' sl),(10,.arr true 3 .int (fin++[bK F G q]) sf)],11⟩):=by
 obtain⟨qa,qb,qc⟩:=q
 have hx:=hm.lk ⟨qa,qb,qc⟩
 have hml:=hm.len
 have hl1:=hpl.le
 have hl2:=hpl.cp
 have hl3:=hpl.ca
 obtain⟨a0,a1,b0,b1⟩:=hq
 simp only at a0 a1 b0 b1
 have hf1:=hF _ (aB F.fin (0+qa.toNat) EK.int.dflt (by omega))
 have hg1:=hG _ (aB G.fin (0+qb.toNat) EK.int.dflt (by omega))
 have hnew:=hm.new hin clk
 rw[<-hml]at hnew
 have hidx:(ps++[(⟨qa,qb,qc⟩:Trip)]).idxOf ⟨qa,qb,qc⟩=es.length:=by rw[gA hin,hml];simp
 have hfp:bK F G ⟨qa,qb,qc⟩=if F.fin.getD (0+qa.toNat) EK.int.dflt≠ -1/\G.fin.getD (0+qb.toNat) EK.int.dflt≠ -1 then F.fin.getD (0+qa.toNat) EK.int.dflt+G.fin.getD (0+qb.toNat) EK.int.dflt else-1:=by rw[Nat.zero_add,Nat.zero_add];rfl
 refine ctW Tryz.tyOk 12 [] Tryz.func60 rfl (by simp) (by simp) (fr:= [(0,.c (.ptr 4 0)),(1,.a (.agg [.i qa,.i qb,.i qc]))]) rfl ?_
 rw[if_neg hin]at hx
 by_cases hfg:F.fin.getD (0+qa.toNat) EK.int.dflt≠ -1/\G.fin.getD (0+qb.toNat) EK.int.dflt≠ -1
 ·rw[if_pos hfg]at hfp
  obtain⟨hfa,hga⟩:=hfg
  cases g with
  |true=>
   refine gI ?_
   refine⟨fun h=>?_,fun h _ h h _=>?_⟩
   ·rw[hx]at h;cases h
   ·simp only[<-hfp]
    rename_i h0 sp1 h1 sp2
    refine⟨[(9,some 11),(10,some 13)],[(4,.box 77 (cC F G 9 0 (ls++[(⟨qa,qb,qc⟩:Trip)]).length ((ls++[(⟨qa,qb,qc⟩:Trip)]).length+sp1) 10 (fin++[bK F G ⟨qa,qb,qc⟩]).length ((fin++[bK F G ⟨qa,qb,qc⟩]).length+sp2) 8 nr cr (true||decide (1000000000<bK F G ⟨qa,qb,qc⟩)))),(5,.map .trip .int (@bL EK.trip.ty EK.int.ty (EK.instDeq .trip) es clk ⟨qa,qb,qc⟩ (es.length:Int)).1 (@bL EK.trip.ty EK.int.ty (EK.instDeq .trip) es clk ⟨qa,qb,qc⟩ (es.length:Int)).2),(9,.arr true 80 .trip (ls++[(⟨qa,qb,qc⟩:Trip)]) sp1),(10,.arr true 3 .int (fin++[bK F G ⟨qa,qb,qc⟩]) sp2)],11,.i (es.length:Int),⟨by rfl,trivial,?_⟩,by simp,_,_,_,0,_,sp1,sp2,hnew,by rw[hidx],bU.all _ _,rfl⟩
    simp[aV,qO _ L lo ls.length _ hpl.is,Nat.le_refl]
  |false=>
   refine gI ?_
   refine⟨fun h=>?_,fun h _ h h _=>?_⟩
   ·rw[hx]at h;cases h
   ·simp only[<-hfp]
    rename_i h0 sp1 h1 sp2
    refine⟨[(9,some 11),(10,some 13)],[(4,.box 77 (cC F G 9 0 (ls++[(⟨qa,qb,qc⟩:Trip)]).length ((ls++[(⟨qa,qb,qc⟩:Trip)]).length+sp1) 10 (fin++[bK F G ⟨qa,qb,qc⟩]).length ((fin++[bK F G ⟨qa,qb,qc⟩]).length+sp2) 8 nr cr (false||decide (1000000000<bK F G ⟨qa,qb,qc⟩)))),(5,.map .trip .int (@bL EK.trip.ty EK.int.ty (EK.instDeq .trip) es clk ⟨qa,qb,qc⟩ (es.length:Int)).1 (@bL EK.trip.ty EK.int.ty (EK.instDeq .trip) es clk ⟨qa,qb,qc⟩ (es.length:Int)).2),(9,.arr true 80 .trip (ls++[(⟨qa,qb,qc⟩:Trip)]) sp1),(10,.arr true 3 .int (fin++[bK F G ⟨qa,qb,qc⟩]) sp2)],11,.i (es.length:Int),⟨by rfl,trivial,?_⟩,by simp,_,_,_,0,_,sp1,sp2,hnew,by rw[hidx],bU.all _ _,rfl⟩
    simp[aV,qO _ L lo ls.length _ hpl.is]
 ·rw[if_neg hfg]at hfp
  have hfx:F.fin.getD (0+qa.toNat) EK.int.dflt= -1\/G.fin.getD (0+qb.toNat) EK.int.dflt= -1:=by omega
  cases g with
  |true=>
   by_cases hf2:F.fin.getD (0+qa.toNat) EK.int.dflt= -1
   ·refine gI ?_
    refine⟨fun h=>?_,fun h _ h _=>?_⟩
    ·rw[hx]at h;cases h
    ·rename_i h0 sp1 sp2
     refine⟨[(9,some 11),(10,some 13)],[(4,.box 77 (cC F G 9 0 (ls++[(⟨qa,qb,qc⟩:Trip)]).length ((ls++[(⟨qa,qb,qc⟩:Trip)]).length+sp1) 10 (fin++[bK F G ⟨qa,qb,qc⟩]).length ((fin++[bK F G ⟨qa,qb,qc⟩]).length+sp2) 8 nr cr (true||decide (1000000000<bK F G ⟨qa,qb,qc⟩)))),(5,.map .trip .int (@bL EK.trip.ty EK.int.ty (EK.instDeq .trip) es clk ⟨qa,qb,qc⟩ (es.length:Int)).1 (@bL EK.trip.ty EK.int.ty (EK.instDeq .trip) es clk ⟨qa,qb,qc⟩ (es.length:Int)).2),(9,.arr true 80 .trip (ls++[(⟨qa,qb,qc⟩:Trip)]) sp1),(10,.arr true 3 .int (fin++[bK F G ⟨qa,qb,qc⟩]) sp2)],11,.i (es.length:Int),⟨by rfl,trivial,?_⟩,by simp,_,_,_,0,_,sp1,sp2,hnew,by rw[hidx],bU.all _ _,rfl⟩
     simp[aV,qO _ L lo ls.length _ hpl.is,hfp]
   ·refine gI ?_
    refine⟨fun h=>?_,fun h _ h h _=>?_⟩
    ·rw[hx]at h;cases h
    ·rename_i h0 sp1 h1 sp2
     refine⟨[(9,some 11),(10,some 13)],[(4,.box 77 (cC F G 9 0 (ls++[(⟨qa,qb,qc⟩:Trip)]).length ((ls++[(⟨qa,qb,qc⟩:Trip)]).length+sp1) 10 (fin++[bK F G ⟨qa,qb,qc⟩]).length ((fin++[bK F G ⟨qa,qb,qc⟩]).length+sp2) 8 nr cr (true||decide (1000000000<bK F G ⟨qa,qb,qc⟩)))),(5,.map .trip .int (@bL EK.trip.ty EK.int.ty (EK.instDeq .trip) es clk ⟨qa,qb,qc⟩ (es.length:Int)).1 (@bL EK.trip.ty EK.int.ty (EK.instDeq .trip) es clk ⟨qa,qb,qc⟩ (es.length:Int)).2),(9,.arr true 80 .trip (ls++[(⟨qa,qb,qc⟩:Trip)]) sp1),(10,.arr true 3 .int (fin++[bK F G ⟨qa,qb,qc⟩]) sp2)],11,.i (es.length:Int),⟨by rfl,trivial,?_⟩,by simp,_,_,_,0,_,sp1,sp2,hnew,by rw[hidx],bU.all _ _,rfl⟩
     simp[aV,qO _ L lo ls.length _ hpl.is,hfp]
  |false=>
   by_cases hf2:F.fin.getD (0+qa.toNat) EK.int.dflt= -1
   ·refine gI ?_
    refine⟨fun h=>?_,fun h _ h _=>?_⟩
    ·rw[hx]at h;cases h
    ·rename_i h0 sp1 sp2
     refine⟨[(9,some 11),(10,some 13)],[(4,.box 77 (cC F G 9 0 (ls++[(⟨qa,qb,qc⟩:Trip)]).length ((ls++[(⟨qa,qb,qc⟩:Trip)]).length+sp1) 10 (fin++[bK F G ⟨qa,qb,qc⟩]).length ((fin++[bK F G ⟨qa,qb,qc⟩]).length+sp2) 8 nr cr (false||decide (1000000000<bK F G ⟨qa,qb,qc⟩)))),(5,.map .trip .int (@bL EK.trip.ty EK.int.ty (EK.instDeq .trip) es clk ⟨qa,qb,qc⟩ (es.length:Int)).1 (@bL EK.trip.ty EK.int.ty (EK.instDeq .trip) es clk ⟨qa,qb,qc⟩ (es.length:Int)).2),(9,.arr true 80 .trip (ls++[(⟨qa,qb,qc⟩:Trip)]) sp1),(10,.arr true 3 .int (fin++[bK F G ⟨qa,qb,qc⟩]) sp2)],11,.i (es.length:Int),⟨by rfl,trivial,?_⟩,by simp,_,_,_,0,_,sp1,sp2,hnew,by rw[hidx],bU.all _ _,rfl⟩
     simp[aV,qO _ L lo ls.length _ hpl.is,hfp]
   ·refine gI ?_
    refine⟨fun h=>?_,fun h _ h h _=>?_⟩
    ·rw[hx]at h;cases h
    ·rename_i h0 sp1 h1 sp2
     refine⟨[(9,some 11),(10,some 13)],[(4,.box 77 (cC F G 9 0 (ls++[(⟨qa,qb,qc⟩:Trip)]).length ((ls++[(⟨qa,qb,qc⟩:Trip)]).length+sp1) 10 (fin++[bK F G ⟨qa,qb,qc⟩]).length ((fin++[bK F G ⟨qa,qb,qc⟩]).length+sp2) 8 nr cr (false||decide (1000000000<bK F G ⟨qa,qb,qc⟩)))),(5,.map .trip .int (@bL EK.trip.ty EK.int.ty (EK.instDeq .trip) es clk ⟨qa,qb,qc⟩ (es.length:Int)).1 (@bL EK.trip.ty EK.int.ty (EK.instDeq .trip) es clk ⟨qa,qb,qc⟩ (es.length:Int)).2),(9,.arr true 80 .trip (ls++[(⟨qa,qb,qc⟩:Trip)]) sp1),(10,.arr true 3 .int (fin++[bK F G ⟨qa,qb,qc⟩]) sp2)],11,.i (es.length:Int),⟨by rfl,trivial,?_⟩,by simp,_,_,_,0,_,sp1,sp2,hnew,by rw[hidx],bU.all _ _,rfl⟩
     simp[aV,qO _ L lo ls.length _ hpl.is,hfp]
end
theorem Uc {ps:List Trip} {k:Nat} (hk:k<=ps.length) {q:Trip} (h:q∉ps):(ps++[q]).drop k=ps.drop k++[q]:=by rw[List.drop_append_of_le_length hk]
section
variable (F G:TF) (es:List (Trip×Int×Nat)) (clk:Nat) (ps L:List Trip) (k lo cl spL spF nr cr:Nat) (g:Bool) (q:Trip)
theorem Jb (hF: ∀n∈F.fin,-1<=n/\n<=1000000000) (hG: ∀n∈G.fin,-1<=n/\n<=1000000000) (hq:iR F G q) (hm:uN es ps) (hps:ps.length<=1000000) (hL:bU L lo cl spL (ps.drop k)) (hk:k<=ps.length):
  Ct Tryz.prog 60 [.c (.ptr 4 0),SV.a (SA.agg [SC.i (Trip.a q),SC.i (Trip.b q),SC.i (Trip.c q)])] [] [(0,.arr false 3 .int F.fin 0),(2,.arr false 3 .int G.fin 0),(4,.box 77 (cC F G 6 lo (ps.drop k).length cl 7 (ps.map (bK F G)).length ((ps.map (bK F G)).length+spF) 8 nr cr g)),(5,.map .trip .int es clk),(6,.arr true 80 .trip L spL),(7,.arr true 3 .int (ps.map (bK F G)) spF)] 9
  (fun v s=> ∃es' clk' L' lo' cl' sl sf,uN es' (eD ps q)/\v= .i ((((eD ps q).idxOf q:Nat)):Int)/\bU L' lo' cl' sl ((eD ps q).drop k)/\
   s=⟨[],[(4,.box 77 (cC F G 9 lo' ((eD ps q).drop k).length cl' 10 ((eD ps q).map (bK F G)).length (((eD ps q).map (bK F G)).length+sf) 8 nr cr (kO F G ps g q))),(5,.map .trip .int es' clk'),(9,.arr true 80 .trip L' sl),(10,.arr true 3 .int ((eD ps q).map (bK F G)) sf)],11⟩):=by
 have hdl:(ps.drop k).length<=1000000:=by rw[List.length_drop];omega
 have hml:(ps.map (bK F G)).length<=1000000:=by rw[List.length_map];exact hps
 by_cases hin:q∈ps
 ·have e1:eD ps q=ps:=if_pos hin
  have e2:kO F G ps g q=g:=if_pos hin
  rw[e1,e2]
  exact Ub F G es clk ps L (ps.drop k) lo cl spL (ps.map (bK F G)) spF nr cr g q hq hm hdl hL hin
 ·have e1:eD ps q=ps++[q]:=if_neg hin
  have e2:kO F G ps g q=(g||decide (1000000000<bK F G q)):=if_neg hin
  rw[e1,e2,Uc hk hin,List.map_append]
  exact Nj F G es clk ps L (ps.drop k) lo cl spL (ps.map (bK F G)) spF nr cr g q hF hG hq hm hdl hml hL hin
end
abbrev CS:=List Trip×List Arc×Bool
def xJ (ps:List Trip) (raw:List Arc) (n:Int) (s:Stp):List Arc:=raw++[⟨n,s.i,s.o,((eD ps s.p).idxOf s.p:Nat),s.w⟩]
def grP (F G:TF) (ps:List Trip) (g:Bool) (s:Stp):Bool:=kO F G ps g s.p||decide (1000000000<s.w)
def Bv (F G:TF) (n:Int) (x:CS) (s:Stp):CS:=(eD x.1 s.p,xJ x.1 x.2.1 n s,grP F G x.1 x.2.2 s)
abbrev xH (F G:TF) (k:Nat) (ps:List Trip) (raw:List Arc) (g:Bool) (es:List (Trip×Int×Nat)) (clk:Nat) (L:List Trip) (lo cl sl sf sr i6 i7 i8:Nat):List (Nat×SO):= [(4,.box 77 (cC F G i6 lo (ps.drop k).length cl i7 (ps.map (bK F G)).length ((ps.map (bK F G)).length+sf) i8 raw.length (raw.length+sr) g)),(5,.map .trip .int es clk),(i6,.arr true 80 .trip L sl),(i7,.arr true 3 .int (ps.map (bK F G)) sf),(i8,.arr true 55 .arc raw sr)]
theorem Li (F G:TF) (ps:List Trip) (raw:List Arc) (g:Bool) (k:Nat) (es:List (Trip×Int×Nat)) (clk:Nat) (L:List Trip) (lo cl sl sf sr:Nat) (n:Int) (s:Stp) (hF: ∀n∈F.fin,-1<=n/\n<=1000000000) (hG: ∀n∈G.fin,-1<=n/\n<=1000000000) (hq:iR F G s.p) (hm:uN es ps) (hps:ps.length<=1000000) (hL:bU L lo cl sl (ps.drop k)) (hk:k<=ps.length) (hr:raw.length<=10000000):
  Ct Tryz.prog 102 [.c (.ptr 4 0),.i n,.i s.i,.i s.o,.i s.w,.a (.agg [.i s.p.a,.i s.p.b,.i s.p.c])] [] ((0,.arr false 3 .int F.fin 0)::(2,.arr false 3 .int G.fin 0)::xH F G k ps raw g es clk L lo cl sl sf sr 6 7 8) 9
  (fun v t=> ∃es' clk' L' lo' cl' sl sf sr,uN es' (eD ps s.p)/\v= .tup []/\bU L' lo' cl' sl ((eD ps s.p).drop k)/\t=⟨[],xH F G k (eD ps s.p) (xJ ps raw n s) (grP F G ps g s) es' clk' L' lo' cl' sl sf sr 9 10 11,12⟩):=by
 obtain⟨si,so,sw,⟨qa,qb,qc⟩⟩:=s
 simp only at hq⊢
 refine ctW Tryz.tyOk 12 [] Tryz.func102 rfl (by simp) (by simp) (fr:= [(0,.c (.ptr 4 0)),(1,.i n),(2,.i si),(3,.i so),(4,.i sw),(5,.a (.agg [.i qa,.i qb,.i qc]))]) rfl ?_
 refine gO ?_
 refine cF (Jb F G es clk ps L k lo cl sl sf raw.length (raw.length+sr) g ⟨qa,qb,qc⟩ hF hG hq hm hps hL hk) [0,1,2,3,4,5,6,7,8] Tryz.call60 ?_
 rintro _ _ ⟨es',clk',L',lo',cl',sl',sf',hm',rfl,hp',rfl⟩
 unfold xJ grP
 simp only
 generalize hps':eD ps ⟨qa,qb,qc⟩=ps' at*
 generalize hg':kO F G ps g ⟨qa,qb,qc⟩=g'
 cases g' with
 |true=>
  refine gI fun _=>?_
  rename_i sp3
  refine⟨[(9,some 10),(10,some 11),(11,some 13)],xH F G k ps' (raw++[⟨n,si,so,(ps'.idxOf ⟨qa,qb,qc⟩:Nat),sw⟩]) (true||decide (1000000000<sw)) es' clk' L' lo' cl' sl' sf' sp3 9 10 11,12,.tup [],⟨by rfl,trivial,?_⟩,by simp,es',clk',L',lo',cl',sl',sf',sp3,hm',rfl,hp',rfl⟩
  simp[aV]
 |false=>
  refine gI fun _=>?_
  rename_i sp3
  refine⟨[(9,some 10),(10,some 11),(11,some 13)],xH F G k ps' (raw++[⟨n,si,so,(ps'.idxOf ⟨qa,qb,qc⟩:Nat),sw⟩]) (false||decide (1000000000<sw)) es' clk' L' lo' cl' sl' sf' sp3 9 10 11,12,.tup [],⟨by rfl,trivial,?_⟩,by simp,es',clk',L',lo',cl',sl',sf',sp3,hm',rfl,hp',rfl⟩
  simp[aV]
theorem iR.of {F G:TF} {a b c:Int} (h1:0<=a/\a<F.fin.length) (h2:0<=b/\b<G.fin.length):iR F G ⟨a,b,c⟩:=⟨h1.1,h1.2,h2.1,h2.2⟩
def kI (F G:TF) (p:Trip) (i:Nat):List Stp:=(F.arcs.drop i).flatMap (qV G p)++G.arcs.flatMap (sX p)
def oS (G:TF) (p:Trip) (j:Nat):List Stp:=(G.arcs.drop j).flatMap (sX p)
def aCw (p:Trip) (a b:Arc):List Stp:=if b.f=p.b/\a.o=b.i/\a.o≠0 then [⟨a.i,b.o,a.w+b.w,⟨a.t,b.t,0⟩⟩]else []
def fH (F G:TF) (p:Trip) (i j:Nat):List Stp:=(G.arcs.drop j).flatMap (aCw p (F.arcs.getD i aD))++kI F G p (i+1)
theorem eO {α:Type} (l:List α) (i:Nat) (d:α) (h:i<l.length):l.drop i=l.getD i d::l.drop (i+1):=by
 rw[List.drop_eq_getElem_cons h]
 simp[List.getD,h]
theorem Mr {F G:TF} {p:Trip} {i:Nat} (h:i<F.arcs.length) (hf:(F.arcs.getD i aD).f≠p.a):kI F G p i=kI F G p (i+1):=by
 unfold kI
 rw[eO _ _ aD h,List.flatMap_cons]
 unfold qV
 rw[if_pos hf]
 rfl
theorem Tm {F G:TF} {p:Trip} {i:Nat} (h:i<F.arcs.length) (hf:(F.arcs.getD i aD).f=p.a) (ho:(F.arcs.getD i aD).o=0/\p.c≠2):kI F G p i=⟨(F.arcs.getD i aD).i,0,(F.arcs.getD i aD).w,⟨(F.arcs.getD i aD).t,p.b,1⟩⟩::fH F G p i 0:=by
 unfold kI fH kI
 rw[eO _ _ aD h,List.flatMap_cons]
 unfold qV
 rw[if_neg (fun c=>c hf),if_pos ho]
 simp only[List.drop_zero,List.cons_append,List.nil_append,List.append_assoc]
 rfl
theorem Tn {F G:TF} {p:Trip} {i:Nat} (h:i<F.arcs.length) (hf:(F.arcs.getD i aD).f=p.a) (ho: ¬((F.arcs.getD i aD).o=0/\p.c≠2)):kI F G p i=fH F G p i 0:=by
 unfold kI fH kI
 rw[eO _ _ aD h,List.flatMap_cons]
 unfold qV
 rw[if_neg (fun c=>c hf),if_neg ho]
 simp only[List.drop_zero,List.nil_append,List.append_assoc]
 rfl
theorem rP {F G:TF} {p:Trip} {i:Nat}:fH F G p i G.arcs.length=kI F G p (i+1):=by
 unfold fH
 simp
theorem rO {F G:TF} {p:Trip} {i j:Nat} (h:j<G.arcs.length) (hc:(G.arcs.getD j aD).f=p.b/\(F.arcs.getD i aD).o=(G.arcs.getD j aD).i/\(F.arcs.getD i aD).o≠0):fH F G p i j=⟨(F.arcs.getD i aD).i,(G.arcs.getD j aD).o,(F.arcs.getD i aD).w+(G.arcs.getD j aD).w,⟨(F.arcs.getD i aD).t,(G.arcs.getD j aD).t,0⟩⟩::fH F G p i (j+1):=by
 unfold fH
 rw[eO _ _ aD h,List.flatMap_cons]
 rw[show aCw p (F.arcs.getD i aD) (G.arcs.getD j aD)=_ from if_pos hc]
 rfl
theorem vB {F G:TF} {p:Trip} {i j:Nat} (h:j<G.arcs.length) (hc: ¬((G.arcs.getD j aD).f=p.b/\(F.arcs.getD i aD).o=(G.arcs.getD j aD).i/\(F.arcs.getD i aD).o≠0)):fH F G p i j=fH F G p i (j+1):=by
 unfold fH
 rw[eO _ _ aD h,List.flatMap_cons]
 rw[show aCw p (F.arcs.getD i aD) (G.arcs.getD j aD)=_ from if_neg hc]
 rfl
theorem To {F G:TF} {p:Trip}:kI F G p F.arcs.length=oS G p 0:=by
 unfold kI oS
 simp
theorem Tk {G:TF} {p:Trip} {j:Nat} (h:j<G.arcs.length) (hc:(G.arcs.getD j aD).f=p.b/\(G.arcs.getD j aD).i=0):oS G p j=⟨0,(G.arcs.getD j aD).o,(G.arcs.getD j aD).w,⟨p.a,(G.arcs.getD j aD).t,2⟩⟩::oS G p (j+1):=by
 unfold oS
 rw[eO _ _ aD h,List.flatMap_cons]
 rw[show sX p (G.arcs.getD j aD)=_ from if_pos hc]
 rfl
theorem Xv {G:TF} {p:Trip} {j:Nat} (h:j<G.arcs.length) (hc: ¬((G.arcs.getD j aD).f=p.b/\(G.arcs.getD j aD).i=0)):oS G p j=oS G p (j+1):=by
 unfold oS
 rw[eO _ _ aD h,List.flatMap_cons]
 rw[show sX p (G.arcs.getD j aD)=_ from if_neg hc]
 rfl
theorem Tl {G:TF} {p:Trip}:oS G p G.arcs.length=[]:=by
 unfold oS
 simp
theorem Mg {F G:TF} {p:Trip}:eF F G p=kI F G p 0:=rfl
structure rF (F G:TF) (n:Int) (k:Nat) (x1:CS) (ps:List Trip) (raw:List Arc) (g:Bool) (es:List (Trip×Int×Nat)) (L:List Trip) (lo cl sl:Nat) (rest:List Stp):Prop where
 fin:rest.foldl (Bv F G n) (ps,raw,g)=x1
 num:uN es ps
 lf:bU L lo cl sl (ps.drop k)
 kl:k<=ps.length
 psl:ps.length+rest.length<=1000000
 rl:raw.length+rest.length<=10000000
theorem Yv (ps:List Trip) (q:Trip):ps.length<=(eD ps q).length/\(eD ps q).length<=ps.length+1:=by
 unfold eD
 split
 ·omega
 ·rw[List.length_append];exact⟨Nat.le_add_right _ _,Nat.le_refl _⟩
theorem rF.next {F G:TF} {n:Int} {k:Nat} {x1:CS} {ps:List Trip} {raw:List Arc} {g:Bool} {es es':List (Trip×Int×Nat)} {L L':List Trip} {lo cl sl lo' cl' sl':Nat} {s:Stp} {rest:List Stp} (h:rF F G n k x1 ps raw g es L lo cl sl (s::rest)) (hm:uN es' (eD ps s.p)) (hp:bU L' lo' cl' sl' ((eD ps s.p).drop k)):
  rF F G n k x1 (eD ps s.p) (xJ ps raw n s) (grP F G ps g s) es' L' lo' cl' sl' rest:=by
 have h1:=Yv ps s.p
 have h3:=h.kl
 have h4:=h.psl
 have h5:=h.rl
 simp only[List.length_cons]at h4 h5
 refine⟨h.fin,hm,hp,by omega,by omega,?_⟩
 unfold xJ
 rw[List.length_append]
 simp only[List.length_cons,List.length_nil]
 omega
end Go.Fw
