/-
  The composer: what it holds when pair after pair is done; how many pairs and arcs there are.
-/
import Derived.Test.YtemhgpoeccbheaaGreatDoorQ08
import Derived.Test.YtemhgpoeccbheaaGreatDoorQ16
import Derived.Test.YtemhgpoeccbheaaGreatDoorQ07
import Derived.Test.YtemhgpoeccbheaaGreatDoorQ12
import Derived.Test.YtemhgpoeccbheaaGreatDoorQ09
import Derived.Test.YtemhgpoeccbheaaGreatDoorQ06
import Derived.Test.YtemhgpoeccbheaaGreatDoorQ11
set_option linter.unusedSimpArgs false
set_option linter.unusedVariables false
set_option maxRecDepth 100000
set_option maxHeartbeats 16000000
namespace Go.Fw
open Go Go.Proofs
structure aCr (F G:TF):Prop where
 fl:F.arcs.length<=100000
 gl:G.arcs.length<=100000
 f: ∀n∈F.fin,-1<=n/\n<=1000000000
 g: ∀n∈G.fin,-1<=n/\n<=1000000000
 fa: ∀a∈F.arcs,(0<=a.t/\a.t<F.fin.length)/\0<=a.w/\a.w<=1000000000
 ga: ∀a∈G.arcs,(0<=a.t/\a.t<G.fin.length)/\0<=a.w/\a.w<=1000000000
theorem Ps (F G:TF) (hO:aCr F G) (p:Trip) (hp:iR F G p) (ps:List Trip) (hin:p∈ps) (raw:List Arc) (g:Bool) (k:Nat) (es:List (Trip×Int×Nat)) (clk:Nat) (L:List Trip) (lo cl sl sf sr:Nat) (x1:CS)
  (hI:rF F G (ps.idxOf p:Nat) k x1 ps raw g es L lo cl sl (eF F G p)):
  Ct Tryz.prog 61 [.c (.ptr 4 0),.a (.agg [.i p.a,.i p.b,.i p.c])] [] (hpG F G++xH F G k ps raw g es clk L lo cl sl sf sr 6 7 8) 9
  (fun v t=> ∃es' clk' L' lo' cl' sl sf sr,uN es' x1.1/\v= .tup []/\bU L' lo' cl' sl (x1.1.drop k)/\t=⟨[],xH F G k x1.1 x1.2.1 x1.2.2 es' clk' L' lo' cl' sl sf sr 9 10 11,12⟩):=by
 have hfl:=hO.fl
 have hgl:=hO.gl
 have hx:=hI.num.lk p
 rw[if_pos hin]at hx
 obtain⟨pa,pb,pc⟩:=p
 simp only
 generalize hn:((ps.idxOf (⟨pa,pb,pc⟩:Trip):Nat):Int)=n at hI hx
 rw[Mg]at hI
 refine ctW Tryz.tyOk 11 [21,22,23,56,57,58,102,103,104] Tryz.func61 rfl (by simp) (by simp) (fr:= [(0,.c (.ptr 4 0)),(1,.a (.agg [.i pa,.i pb,.i pc]))]) rfl ?_
 refine gO ?_
 refine aJ (fun z:Nat×List Trip×List Arc×Bool×List (Trip×Int×Nat)×Nat×List Trip×Nat×Nat×Nat×Nat×Nat=>⟨[(0,.c (.ptr 4 0)),(3,.c (.ptr 9 0)),(4,.i n),(21,.c (.sl 1 5 0 F.arcs.length F.capA)),(22,.i F.arcs.length),(23,.i z.1)],
   hpG F G++xH F G k z.2.1 z.2.2.1 z.2.2.2.1 z.2.2.2.2.1 z.2.2.2.2.2.1 z.2.2.2.2.2.2.1 z.2.2.2.2.2.2.2.1 z.2.2.2.2.2.2.2.2.1 z.2.2.2.2.2.2.2.2.2.1 z.2.2.2.2.2.2.2.2.2.2.1 z.2.2.2.2.2.2.2.2.2.2.2 10 11 12++[(9,.box 80 [.i pa,.i pb,.i pc])],13⟩)
  (fun z=>z.1<=F.arcs.length/\rF F G n k x1 z.2.1 z.2.2.1 z.2.2.2.1 z.2.2.2.2.1 z.2.2.2.2.2.2.1 z.2.2.2.2.2.2.2.1 z.2.2.2.2.2.2.2.2.1 z.2.2.2.2.2.2.2.2.2.1 (kI F G ⟨pa,pb,pc⟩ z.1)) (fun z=>F.arcs.length-z.1) (0,ps,raw,g,es,clk,L,lo,cl,sl,sf,sr) [(10,some 6),(11,some 7),(12,some 8)] ⟨by rfl,?_,?_⟩ ⟨Nat.zero_le _,hI⟩ ?_
 ·simp[hx]
 ·simp
 ·clear hI hin hn hx
  clear es clk L lo cl sl sf sr raw g ps
  rintro⟨i,ps,raw,g,es,clk,L,lo,cl,sl,sf,sr⟩ ⟨hi,hI⟩
  simp only at hi hI⊢
  have hps:=hI.psl
  have hrl:=hI.rl
  (conv=>whnf)
  refine aG (fun hi2=>?_) (fun hi2=>?_)
  ·have e0:0+(i:Int).toNat=i:=by omega
   have ham:=aB F.arcs i aD (by omega)
   have hfa:=hO.fa _ ham
   have rskip:=Mr (F:=F) (G:=G) (p:=⟨pa,pb,pc⟩) (i:=i) (by omega)
   have rsil:=Tm (F:=F) (G:=G) (p:=⟨pa,pb,pc⟩) (i:=i) (by omega)
   have rlab:=Tn (F:=F) (G:=G) (p:=⟨pa,pb,pc⟩) (i:=i) (by omega)
   generalize hax:F.arcs.getD i aD=a at hfa rskip rsil rlab
   have hax1:F.arcs.getD (0+(i:Int).toNat) EK.arc.dflt=a:=by rw[e0];exact hax
   have hq:iR F G ⟨a.t,pb,1⟩:=iR.of hfa.1 ⟨hp.b0,hp.b1⟩
   simp only at rskip rsil rlab
   refine gO ?_
   refine⟨fun h=>?_,fun h=>⟨fun h=>⟨fun h=>?_,fun h=>?_⟩,fun h=>?_⟩⟩
   ·simp only[hax1]at*
    rw[rskip h]at hI
    (conv=>whnf)
    refine⟨(i+1,ps,raw,g,es,clk,L,lo,cl,sl,sf,sr),[],⟨by rfl,?_,?_⟩,⟨by simp only;omega,hI⟩,by simp only;omega⟩
    ·simp
    ·simp
   ·simp only[hax1]at*
    rw[rsil (by omega) (by omega)]at hI
    have hl:=hI.psl
    have hl2:=hI.rl
    simp only[List.length_cons]at hl hl2
    refine gO ?_
    refine cF (Li F G ps raw g k es clk L lo cl sl sf sr n ⟨a.i,0,a.w,⟨a.t,pb,1⟩⟩ hO.f hO.g hq hI.num (by omega) hI.lf hI.kl (by omega)) [0,1,2,3,4,5,10,11,12] Tryz.call102 ?_
    rintro _ _ ⟨es',clk',L',lo',cl',sl',sf',sr',hm',rfl,hp',rfl⟩
    replace hI:=hI.next hm' hp'
    generalize eD ps (Stp.p ⟨a.i,0,a.w,⟨a.t,pb,1⟩⟩)=ps1 at hI hm'⊢
    generalize xJ ps raw n ⟨a.i,0,a.w,⟨a.t,pb,1⟩⟩=raw1 at hI⊢
    generalize grP F G ps g ⟨a.i,0,a.w,⟨a.t,pb,1⟩⟩=g1 at hI⊢
    refine gO ?_
    refine aJ (fun z:Nat×List Trip×List Arc×Bool×List (Trip×Int×Nat)×Nat×List Trip×Nat×Nat×Nat×Nat×Nat=>⟨[(0,.c (.ptr 4 0)),(3,.c (.ptr 9 0)),(4,.i n),(6,.c (.ptr 13 0)),(21,.c (.sl 1 5 0 F.arcs.length F.capA)),(22,.i F.arcs.length),(23,.i i),(56,.c (.sl 3 5 0 G.arcs.length G.capA)),(57,.i G.arcs.length),(58,.i z.1)],
      hpG F G++xH F G k z.2.1 z.2.2.1 z.2.2.2.1 z.2.2.2.2.1 z.2.2.2.2.2.1 z.2.2.2.2.2.2.1 z.2.2.2.2.2.2.2.1 z.2.2.2.2.2.2.2.2.1 z.2.2.2.2.2.2.2.2.2.1 z.2.2.2.2.2.2.2.2.2.2.1 z.2.2.2.2.2.2.2.2.2.2.2 14 15 16++[(9,.box 80 [.i pa,.i pb,.i pc]),(13,.box 55 [.i a.f,.i a.i,.i a.o,.i a.t,.i a.w])],17⟩)
     (fun z=>z.1<=G.arcs.length/\rF F G n k x1 z.2.1 z.2.2.1 z.2.2.2.1 z.2.2.2.2.1 z.2.2.2.2.2.2.1 z.2.2.2.2.2.2.2.1 z.2.2.2.2.2.2.2.2.1 z.2.2.2.2.2.2.2.2.2.1 (fH F G ⟨pa,pb,pc⟩ i z.1)) (fun z=>G.arcs.length-z.1) (0,ps1,raw1,g1,es',clk',L',lo',cl',sl',sf',sr') [(14,some 14),(15,some 15),(16,some 16)] ⟨by rfl,?_,?_⟩ ⟨Nat.zero_le _,hI⟩ ?_
    ·simp
    ·simp
    ·clear hI
     rintro⟨j,ps,raw,g,es,clk,L,lo,cl,sl,sf,sr⟩ ⟨hj,hI⟩
     simp only at hj hI⊢
     have hps:=hI.psl
     have hrl:=hI.rl
     (conv=>whnf)
     refine aG (fun hj2=>?_) (fun hj2=>?_)
     ·have f0:0+(j:Int).toNat=j:=by omega
      have hbm:=aB G.arcs j aD (by omega)
      have hgb:=hO.ga _ hbm
      have ryes:=rO (F:=F) (G:=G) (p:=⟨pa,pb,pc⟩) (i:=i) (j:=j) (by omega)
      have rno:=vB (F:=F) (G:=G) (p:=⟨pa,pb,pc⟩) (i:=i) (j:=j) (by omega)
      rw[hax]at ryes rno
      generalize hb:G.arcs.getD j aD=b at hgb ryes rno
      have hb1:G.arcs.getD (0+(j:Int).toNat) EK.arc.dflt=b:=by rw[f0];exact hb
      have hq:iR F G ⟨a.t,b.t,0⟩:=iR.of hfa.1 hgb.1
      simp only at ryes rno
      refine gO ?_
      refine⟨fun h=>⟨fun h h=>?_,fun h=>?_⟩,fun h=>?_⟩
      all_goals simp only[hb1]at*
      all_goals first
       |(unfold InI;omega)
       |(rw[ryes (by omega)]at hI
         have hl:=hI.psl
         have hl2:=hI.rl
         simp only[List.length_cons]at hl hl2
         (conv=>whnf)
         refine cF (Li F G ps raw g k es clk L lo cl sl sf sr n ⟨a.i,b.o,a.w+b.w,⟨a.t,b.t,0⟩⟩ hO.f hO.g hq hI.num (by omega) hI.lf hI.kl (by omega)) [0,1,2,3,4,5,14,15,16] Tryz.call102 ?_
         rintro _ _ ⟨es',clk',L',lo',cl',sl',sf',sr',hm',rfl,hp',rfl⟩
         replace hI:=hI.next hm' hp'
         generalize eD ps (Stp.p ⟨a.i,b.o,a.w+b.w,⟨a.t,b.t,0⟩⟩)=ps1 at hI hm'⊢
         generalize xJ ps raw n ⟨a.i,b.o,a.w+b.w,⟨a.t,b.t,0⟩⟩=raw1 at hI⊢
         generalize grP F G ps g ⟨a.i,b.o,a.w+b.w,⟨a.t,b.t,0⟩⟩=g1 at hI⊢
         repeat' (first|exact rfl|((conv=>whnf);first|(refine qX (fun h=>?_) fun h=>?_<;>try exact absurd h (by omega))|refine oN ?_|refine oM ?_ ?_|refine bM ?_ ?_|refine dR ?_))
         (conv=>whnf)
         refine⟨(j+1,ps1,raw1,g1,es',clk',L',lo',cl',sl',sf',sr'),[(14,some 18),(15,some 19),(16,some 20)],⟨by rfl,?_,?_⟩,⟨by simp only;omega,hI⟩,by simp only;omega⟩
         ·simp
         ·simp)
       |(rw[rno (by omega)]at hI
         (conv=>whnf)
         refine⟨(j+1,ps,raw,g,es,clk,L,lo,cl,sl,sf,sr),[],⟨by rfl,?_,?_⟩,⟨by simp only;omega,hI⟩,by simp only;omega⟩
         ·simp
         ·simp)
     ·have e:j=G.arcs.length:=by omega
      subst e
      rw[rP]at hI
      refine gO ?_
      refine⟨(i+1,ps,raw,g,es,clk,L,lo,cl,sl,sf,sr),[(10,some 14),(11,some 15),(12,some 16)],⟨by rfl,?_,?_⟩,⟨by simp only;omega,hI⟩,by simp only;omega⟩
      ·simp
      ·simp
   ·simp only[hax1]at*
    rw[rlab (by omega) (by omega)]at hI
    refine gO ?_
    refine aJ (fun z:Nat×List Trip×List Arc×Bool×List (Trip×Int×Nat)×Nat×List Trip×Nat×Nat×Nat×Nat×Nat=>⟨[(0,.c (.ptr 4 0)),(3,.c (.ptr 9 0)),(4,.i n),(6,.c (.ptr 13 0)),(21,.c (.sl 1 5 0 F.arcs.length F.capA)),(22,.i F.arcs.length),(23,.i i),(56,.c (.sl 3 5 0 G.arcs.length G.capA)),(57,.i G.arcs.length),(58,.i z.1)],
      hpG F G++xH F G k z.2.1 z.2.2.1 z.2.2.2.1 z.2.2.2.2.1 z.2.2.2.2.2.1 z.2.2.2.2.2.2.1 z.2.2.2.2.2.2.2.1 z.2.2.2.2.2.2.2.2.1 z.2.2.2.2.2.2.2.2.2.1 z.2.2.2.2.2.2.2.2.2.2.1 z.2.2.2.2.2.2.2.2.2.2.2 14 15 16++[(9,.box 80 [.i pa,.i pb,.i pc]),(13,.box 55 [.i a.f,.i a.i,.i a.o,.i a.t,.i a.w])],17⟩)
     (fun z=>z.1<=G.arcs.length/\rF F G n k x1 z.2.1 z.2.2.1 z.2.2.2.1 z.2.2.2.2.1 z.2.2.2.2.2.2.1 z.2.2.2.2.2.2.2.1 z.2.2.2.2.2.2.2.2.1 z.2.2.2.2.2.2.2.2.2.1 (fH F G ⟨pa,pb,pc⟩ i z.1)) (fun z=>G.arcs.length-z.1) (0,ps,raw,g,es,clk,L,lo,cl,sl,sf,sr) [(14,some 10),(15,some 11),(16,some 12)] ⟨by rfl,?_,?_⟩ ⟨Nat.zero_le _,hI⟩ ?_
    ·simp
    ·simp
    ·clear hI
     rintro⟨j,ps,raw,g,es,clk,L,lo,cl,sl,sf,sr⟩ ⟨hj,hI⟩
     simp only at hj hI⊢
     have hps:=hI.psl
     have hrl:=hI.rl
     (conv=>whnf)
     refine aG (fun hj2=>?_) (fun hj2=>?_)
     ·have f0:0+(j:Int).toNat=j:=by omega
      have hbm:=aB G.arcs j aD (by omega)
      have hgb:=hO.ga _ hbm
      have ryes:=rO (F:=F) (G:=G) (p:=⟨pa,pb,pc⟩) (i:=i) (j:=j) (by omega)
      have rno:=vB (F:=F) (G:=G) (p:=⟨pa,pb,pc⟩) (i:=i) (j:=j) (by omega)
      rw[hax]at ryes rno
      generalize hb:G.arcs.getD j aD=b at hgb ryes rno
      have hb1:G.arcs.getD (0+(j:Int).toNat) EK.arc.dflt=b:=by rw[f0];exact hb
      have hq:iR F G ⟨a.t,b.t,0⟩:=iR.of hfa.1 hgb.1
      simp only at ryes rno
      refine gO ?_
      refine⟨fun h=>⟨fun h h=>?_,fun h=>?_⟩,fun h=>?_⟩
      all_goals simp only[hb1]at*
      all_goals first
       |(unfold InI;omega)
       |(rw[ryes (by omega)]at hI
         have hl:=hI.psl
         have hl2:=hI.rl
         simp only[List.length_cons]at hl hl2
         (conv=>whnf)
         refine cF (Li F G ps raw g k es clk L lo cl sl sf sr n ⟨a.i,b.o,a.w+b.w,⟨a.t,b.t,0⟩⟩ hO.f hO.g hq hI.num (by omega) hI.lf hI.kl (by omega)) [0,1,2,3,4,5,14,15,16] Tryz.call102 ?_
         rintro _ _ ⟨es',clk',L',lo',cl',sl',sf',sr',hm',rfl,hp',rfl⟩
         replace hI:=hI.next hm' hp'
         generalize eD ps (Stp.p ⟨a.i,b.o,a.w+b.w,⟨a.t,b.t,0⟩⟩)=ps1 at hI hm'⊢
         generalize xJ ps raw n ⟨a.i,b.o,a.w+b.w,⟨a.t,b.t,0⟩⟩=raw1 at hI⊢
         generalize grP F G ps g ⟨a.i,b.o,a.w+b.w,⟨a.t,b.t,0⟩⟩=g1 at hI⊢
         repeat' (first|exact rfl|((conv=>whnf);first|(refine qX (fun h=>?_) fun h=>?_<;>try exact absurd h (by omega))|refine oN ?_|refine oM ?_ ?_|refine bM ?_ ?_|refine dR ?_))
         (conv=>whnf)
         refine⟨(j+1,ps1,raw1,g1,es',clk',L',lo',cl',sl',sf',sr'),[(14,some 18),(15,some 19),(16,some 20)],⟨by rfl,?_,?_⟩,⟨by simp only;omega,hI⟩,by simp only;omega⟩
         ·simp
         ·simp)
       |(rw[rno (by omega)]at hI
         (conv=>whnf)
         refine⟨(j+1,ps,raw,g,es,clk,L,lo,cl,sl,sf,sr),[],⟨by rfl,?_,?_⟩,⟨by simp only;omega,hI⟩,by simp only;omega⟩
         ·simp
         ·simp)
     ·have e:j=G.arcs.length:=by omega
      subst e
      rw[rP]at hI
      refine gO ?_
      refine⟨(i+1,ps,raw,g,es,clk,L,lo,cl,sl,sf,sr),[(10,some 14),(11,some 15),(12,some 16)],⟨by rfl,?_,?_⟩,⟨by simp only;omega,hI⟩,by simp only;omega⟩
      ·simp
      ·simp
   ·simp only[hax1]at*
    rw[rlab (by omega) (by omega)]at hI
    refine gO ?_
    refine aJ (fun z:Nat×List Trip×List Arc×Bool×List (Trip×Int×Nat)×Nat×List Trip×Nat×Nat×Nat×Nat×Nat=>⟨[(0,.c (.ptr 4 0)),(3,.c (.ptr 9 0)),(4,.i n),(6,.c (.ptr 13 0)),(21,.c (.sl 1 5 0 F.arcs.length F.capA)),(22,.i F.arcs.length),(23,.i i),(56,.c (.sl 3 5 0 G.arcs.length G.capA)),(57,.i G.arcs.length),(58,.i z.1)],
      hpG F G++xH F G k z.2.1 z.2.2.1 z.2.2.2.1 z.2.2.2.2.1 z.2.2.2.2.2.1 z.2.2.2.2.2.2.1 z.2.2.2.2.2.2.2.1 z.2.2.2.2.2.2.2.2.1 z.2.2.2.2.2.2.2.2.2.1 z.2.2.2.2.2.2.2.2.2.2.1 z.2.2.2.2.2.2.2.2.2.2.2 14 15 16++[(9,.box 80 [.i pa,.i pb,.i pc]),(13,.box 55 [.i a.f,.i a.i,.i a.o,.i a.t,.i a.w])],17⟩)
     (fun z=>z.1<=G.arcs.length/\rF F G n k x1 z.2.1 z.2.2.1 z.2.2.2.1 z.2.2.2.2.1 z.2.2.2.2.2.2.1 z.2.2.2.2.2.2.2.1 z.2.2.2.2.2.2.2.2.1 z.2.2.2.2.2.2.2.2.2.1 (fH F G ⟨pa,pb,pc⟩ i z.1)) (fun z=>G.arcs.length-z.1) (0,ps,raw,g,es,clk,L,lo,cl,sl,sf,sr) [(14,some 10),(15,some 11),(16,some 12)] ⟨by rfl,?_,?_⟩ ⟨Nat.zero_le _,hI⟩ ?_
    ·simp
    ·simp
    ·clear hI
     rintro⟨j,ps,raw,g,es,clk,L,lo,cl,sl,sf,sr⟩ ⟨hj,hI⟩
     simp only at hj hI⊢
     have hps:=hI.psl
     have hrl:=hI.rl
     (conv=>whnf)
     refine aG (fun hj2=>?_) (fun hj2=>?_)
     ·have f0:0+(j:Int).toNat=j:=by omega
      have hbm:=aB G.arcs j aD (by omega)
      have hgb:=hO.ga _ hbm
      have ryes:=rO (F:=F) (G:=G) (p:=⟨pa,pb,pc⟩) (i:=i) (j:=j) (by omega)
      have rno:=vB (F:=F) (G:=G) (p:=⟨pa,pb,pc⟩) (i:=i) (j:=j) (by omega)
      rw[hax]at ryes rno
      generalize hb:G.arcs.getD j aD=b at hgb ryes rno
      have hb1:G.arcs.getD (0+(j:Int).toNat) EK.arc.dflt=b:=by rw[f0];exact hb
      have hq:iR F G ⟨a.t,b.t,0⟩:=iR.of hfa.1 hgb.1
      simp only at ryes rno
      refine gO ?_
      refine⟨fun h=>⟨fun h h=>⟨?_,?_⟩,fun h=>?_⟩,fun h=>?_⟩
      all_goals simp only[hb1]at*
      all_goals first
       |(unfold InI;omega)
       |(rw[ryes (by omega)]at hI
         have hl:=hI.psl
         have hl2:=hI.rl
         simp only[List.length_cons]at hl hl2
         (conv=>whnf)
         refine cF (Li F G ps raw g k es clk L lo cl sl sf sr n ⟨a.i,b.o,a.w+b.w,⟨a.t,b.t,0⟩⟩ hO.f hO.g hq hI.num (by omega) hI.lf hI.kl (by omega)) [0,1,2,3,4,5,14,15,16] Tryz.call102 ?_
         rintro _ _ ⟨es',clk',L',lo',cl',sl',sf',sr',hm',rfl,hp',rfl⟩
         replace hI:=hI.next hm' hp'
         generalize eD ps (Stp.p ⟨a.i,b.o,a.w+b.w,⟨a.t,b.t,0⟩⟩)=ps1 at hI hm'⊢
         generalize xJ ps raw n ⟨a.i,b.o,a.w+b.w,⟨a.t,b.t,0⟩⟩=raw1 at hI⊢
         generalize grP F G ps g ⟨a.i,b.o,a.w+b.w,⟨a.t,b.t,0⟩⟩=g1 at hI⊢
         refine gO ?_
         refine⟨(j+1,ps1,raw1,g1,es',clk',L',lo',cl',sl',sf',sr'),[(14,some 18),(15,some 19),(16,some 20)],⟨by rfl,?_,?_⟩,⟨by simp only;omega,hI⟩,by simp only;omega⟩
         ·simp
         ·simp)
       |(rw[rno (by omega)]at hI
         (conv=>whnf)
         refine⟨(j+1,ps,raw,g,es,clk,L,lo,cl,sl,sf,sr),[],⟨by rfl,?_,?_⟩,⟨by simp only;omega,hI⟩,by simp only;omega⟩
         ·simp
         ·simp)
     ·have e:j=G.arcs.length:=by omega
      subst e
      rw[rP]at hI
      refine gO ?_
      refine⟨(i+1,ps,raw,g,es,clk,L,lo,cl,sl,sf,sr),[(10,some 14),(11,some 15),(12,some 16)],⟨by rfl,?_,?_⟩,⟨by simp only;omega,hI⟩,by simp only;omega⟩
      ·simp
      ·simp
  ·have e:i=F.arcs.length:=by omega
   subst e
   rw[To]at hI
   refine gO ?_
   refine aJ (fun z:Nat×List Trip×List Arc×Bool×List (Trip×Int×Nat)×Nat×List Trip×Nat×Nat×Nat×Nat×Nat=>⟨[(0,.c (.ptr 4 0)),(3,.c (.ptr 9 0)),(4,.i n),(102,.c (.sl 3 5 0 G.arcs.length G.capA)),(103,.i G.arcs.length),(104,.i z.1)],
     hpG F G++xH F G k z.2.1 z.2.2.1 z.2.2.2.1 z.2.2.2.2.1 z.2.2.2.2.2.1 z.2.2.2.2.2.2.1 z.2.2.2.2.2.2.2.1 z.2.2.2.2.2.2.2.2.1 z.2.2.2.2.2.2.2.2.2.1 z.2.2.2.2.2.2.2.2.2.2.1 z.2.2.2.2.2.2.2.2.2.2.2 10 11 12++[(9,.box 80 [.i pa,.i pb,.i pc])],13⟩)
    (fun z=>z.1<=G.arcs.length/\rF F G n k x1 z.2.1 z.2.2.1 z.2.2.2.1 z.2.2.2.2.1 z.2.2.2.2.2.2.1 z.2.2.2.2.2.2.2.1 z.2.2.2.2.2.2.2.2.1 z.2.2.2.2.2.2.2.2.2.1 (oS G ⟨pa,pb,pc⟩ z.1)) (fun z=>G.arcs.length-z.1) (0,ps,raw,g,es,clk,L,lo,cl,sl,sf,sr) [] ⟨by rfl,?_,?_⟩ ⟨Nat.zero_le _,hI⟩ ?_
   ·simp
   ·simp
   ·clear hI
    rintro⟨j,ps,raw,g,es,clk,L,lo,cl,sl,sf,sr⟩ ⟨hj,hI⟩
    simp only at hj hI⊢
    have hps:=hI.psl
    have hrl:=hI.rl
    (conv=>whnf)
    refine aG (fun hj2=>?_) (fun hj2=>?_)
    ·have f0:0+(j:Int).toNat=j:=by omega
     have hbm:=aB G.arcs j aD (by omega)
     have hgb:=hO.ga _ hbm
     have ryes:=Tk (G:=G) (p:=⟨pa,pb,pc⟩) (j:=j) (by omega)
     have rno:=Xv (G:=G) (p:=⟨pa,pb,pc⟩) (j:=j) (by omega)
     generalize hb:G.arcs.getD j aD=b at hgb ryes rno
     have hb1:G.arcs.getD (0+(j:Int).toNat) EK.arc.dflt=b:=by rw[f0];exact hb
     have hq:iR F G ⟨pa,b.t,2⟩:=iR.of ⟨hp.a0,hp.a1⟩ hgb.1
     simp only at ryes rno
     refine gO ?_
     refine⟨fun h=>⟨fun h=>?_,fun h=>?_⟩,fun h=>?_⟩
     all_goals simp only[hb1]at*
     all_goals first
      |(unfold InI;omega)
      |(rw[ryes (by omega)]at hI
        have hl:=hI.psl
        have hl2:=hI.rl
        simp only[List.length_cons]at hl hl2
        (conv=>whnf)
        refine cF (Li F G ps raw g k es clk L lo cl sl sf sr n ⟨0,b.o,b.w,⟨pa,b.t,2⟩⟩ hO.f hO.g hq hI.num (by omega) hI.lf hI.kl (by omega)) [0,1,2,3,4,5,10,11,12] Tryz.call102 ?_
        rintro _ _ ⟨es',clk',L',lo',cl',sl',sf',sr',hm',rfl,hp',rfl⟩
        replace hI:=hI.next hm' hp'
        generalize eD ps (Stp.p ⟨0,b.o,b.w,⟨pa,b.t,2⟩⟩)=ps1 at hI hm'⊢
        generalize xJ ps raw n ⟨0,b.o,b.w,⟨pa,b.t,2⟩⟩=raw1 at hI⊢
        generalize grP F G ps g ⟨0,b.o,b.w,⟨pa,b.t,2⟩⟩=g1 at hI⊢
        refine gO ?_
        refine⟨(j+1,ps1,raw1,g1,es',clk',L',lo',cl',sl',sf',sr'),[(10,some 14),(11,some 15),(12,some 16)],⟨by rfl,?_,?_⟩,⟨by simp only;omega,hI⟩,by simp only;omega⟩
        ·simp
        ·simp)
      |(rw[rno (by omega)]at hI
        (conv=>whnf)
        refine⟨(j+1,ps,raw,g,es,clk,L,lo,cl,sl,sf,sr),[],⟨by rfl,?_,?_⟩,⟨by simp only;omega,hI⟩,by simp only;omega⟩
        ·simp
        ·simp)
    ·have e:j=G.arcs.length:=by omega
     subst e
     rw[Tl]at hI
     refine gO ?_
     have hfin:=hI.fin
     simp only[List.foldl_nil]at hfin
     subst hfin
     refine⟨[(9,some 10),(10,some 11),(11,some 12)],xH F G k ps raw g es clk L lo cl sl sf sr 9 10 11,12,.tup [],⟨by rfl,trivial,?_⟩,by simp,es,clk,L,lo,cl,sl,sf,sr,hI.num,rfl,hI.lf,rfl⟩
     simp
def dQ {α:Type} (f:α->Nat):List α->Nat
 | []=>0
 |x::l=>f x+dQ f l
theorem Ia {α:Type} (f:α->Nat) (l m:List α):dQ f (l++m)=dQ f l+dQ f m:=by
 induction l with
 |nil=>simp[dQ]
 |cons x l ih=>simp only[List.cons_append,dQ,ih];omega
theorem lR {α:Type} {f g:α->Nat} (l:List α) (h: ∀x∈l,f x<=g x):dQ f l<=dQ g l:=by
 induction l with
 |nil=>exact Nat.le_refl _
 |cons x l ih=>
  have:=h x (by simp)
  have:=ih fun y hy=>h y (by simp[hy])
  simp only[dQ];omega
theorem Me {α:Type} [BEq α] [LawfulBEq α] (f:α->Nat) {l:List α} {x:α} (h:x∈l):dQ f l=f x+dQ f (l.erase x):=by
 induction l with
 |nil=>cases h
 |cons y l ih=>
  by_cases e:y=x
  ·subst e;simp[dQ]
  ·have hx:x∈l:=by
    rcases List.mem_cons.1 h with h|h
    ·exact absurd h.symm e
    ·exact h
   rw[List.erase_cons_tail (by simpa using e)]
   simp only[dQ,ih hx];omega
theorem yG {α:Type} [BEq α] [LawfulBEq α] (f:α->Nat): ∀(l m:List α),l.Nodup->(∀x∈l,x∈m)->dQ f l<=dQ f m
 | [],m,_,_=>Nat.zero_le _
 |x::l,m,hn,hs=>by
  have hx:=hs x (by simp)
  rw[List.nodup_cons]at hn
  rw[Me f hx]
  have:=yG f l (m.erase x) hn.2 fun y hy=>(List.mem_erase_of_ne (by rintro rfl;exact hn.1 hy)).2 (hs y (by simp[hy]))
  simp only[dQ];omega
theorem Wr {α:Type} (l:List α):dQ (fun _=>1) l=l.length:=by
 induction l with
 |nil=>rfl
 |cons x l ih=>simp only[dQ,ih,List.length_cons];omega
theorem sW {α β:Type} (f:β->Nat) (g:α->List β) (l:List α):dQ f (l.flatMap g)=dQ (fun x=>dQ f (g x)) l:=by
 induction l with
 |nil=>rfl
 |cons x l ih=>rw[List.flatMap_cons,Ia,ih];rfl
theorem Ws {α β:Type} (f:β->Nat) (g:α->β) (l:List α):dQ f (l.map g)=dQ (fun x=>f (g x)) l:=by
 induction l with
 |nil=>rfl
 |cons x l ih=>simp only[List.map_cons,dQ,ih]
theorem fG {α β:Type} (g:α->List β) (l:List α):(l.flatMap g).length=dQ (fun x=>(g x).length) l:=by
 induction l with
 |nil=>rfl
 |cons x l ih=>rw[List.flatMap_cons,List.length_append,ih];rfl
def iS (n:Nat) (f:Nat->Nat):Nat:=dQ f (List.range n)
theorem fL (n:Nat) (f:Nat->Nat):iS (n+1) f=iS n f+f n:=by
 unfold iS
 rw[List.range_succ,Ia]
 simp[dQ]
theorem Hz (n:Nat) (f:Nat->Nat) (A B C:Nat):iS n (fun i=>A*f i+f i*B+C)=A*iS n f+iS n f*B+n*C:=by
 induction n with
 |zero=>simp[iS,dQ]
 |succ n ih=>
  rw[fL,fL,ih,Nat.mul_add,Nat.add_mul,Nat.succ_mul]
  omega
theorem rJ (n c:Nat):iS n (fun _=>c)=n*c:=by
 induction n with
 |zero=>simp[iS,dQ]
 |succ n ih=>rw[fL,ih,Nat.succ_mul]
def bS (l:List Arc) (a:Nat):Nat:=dQ (fun x=>if x.f=(a:Int)then 1 else 0) l
theorem Kr (l:List Arc) (n:Nat):iS n (bS l)<=l.length:=by
 induction l with
 |nil=>
  have: ∀n,iS n (bS [])=0:=fun n=>by
   induction n with
   |zero=>rfl
   |succ n ih=>rw[fL,ih];rfl
  rw[this];exact Nat.zero_le _
 |cons x l ih=>
  have e: ∀n,iS n (bS (x::l))=iS n (fun a=>if x.f=(a:Int)then 1 else 0)+iS n (bS l):=fun n=>by
   induction n with
   |zero=>rfl
   |succ n ih=>rw[fL,fL,fL,ih];simp only[bS,dQ];omega
  have h1: ∀n,iS n (fun a=>if x.f=(a:Int)then 1 else 0)<=1/\(iS n (fun a=>if x.f=(a:Int)then 1 else 0)=1->x.f<n):=fun n=>by
   induction n with
   |zero=>exact⟨Nat.zero_le _,fun h=>by cases h⟩
   |succ n ih=>
    rw[fL]
    by_cases q:x.f=(n:Int)
    ·rw[if_pos q]
     have:iS n (fun a=>if x.f=(a:Int)then 1 else 0)≠1:=fun h=>by have:=ih.2 h;omega
     exact⟨by omega,fun _=>by omega⟩
    ·rw[if_neg q]
     exact⟨by omega,fun h=>by have:=ih.2 (by omega);omega⟩
  have:=(h1 n).1
  rw[e,List.length_cons]
  omega
def Vv (n m:Nat):List Trip:=(List.range n).flatMap fun a:Nat=>(List.range m).flatMap fun b:Nat=>(List.range 3).map fun c:Nat=>⟨(a:Int),(b:Int),(c:Int)⟩
theorem Ji {n m:Nat} {p:Trip} (ha:0<=p.a/\p.a<n) (hb:0<=p.b/\p.b<m) (hc:0<=p.c/\p.c<3):p∈Vv n m:=by
 unfold Vv
 refine List.mem_flatMap.2 ⟨p.a.toNat,List.mem_range.2 (by omega),List.mem_flatMap.2 ⟨p.b.toNat,List.mem_range.2 (by omega),List.mem_map.2 ⟨p.c.toNat,List.mem_range.2 (by omega),?_⟩⟩⟩
 obtain⟨a,b,c⟩:=p
 simp only at*
 rw[Int.toNat_of_nonneg ha.1,Int.toNat_of_nonneg hb.1,Int.toNat_of_nonneg hc.1]
theorem Hy (n m:Nat) (h:Nat->Nat->Nat):dQ (fun p:Trip=>h p.a.toNat p.b.toNat) (Vv n m)=iS n fun a=>iS m fun b=>3*h a b:=by
 unfold Vv
 rw[sW]
 unfold iS
 congr 1
 funext a
 rw[sW]
 congr 1
 funext b
 rw[Ws]
 simp only[Int.toNat_natCast]
 show iS 3 (fun _=>h a b)=_
 rw[rJ]
theorem Ci (F G:TF) (p:Trip) (ha:0<=p.a) (hb:0<=p.b):(eF F G p).length<=1*bS F.arcs p.a.toNat+bS F.arcs p.a.toNat*bS G.arcs p.b.toNat+bS G.arcs p.b.toNat:=by
 have ea:((p.a.toNat:Nat):Int)=p.a:=by omega
 have eb:((p.b.toNat:Nat):Int)=p.b:=by omega
 unfold eF
 rw[List.length_append,fG,fG]
 have h1:dQ (fun x=>(sX p x).length) G.arcs<=bS G.arcs p.b.toNat:=by
  refine lR _ fun x _=>?_
  rw[eb]
  unfold sX
  by_cases q:x.f=p.b
  ·rw[if_pos q];split<;>simp
  ·rw[if_neg (fun h=>q h.1),if_neg q];simp
 have h2: ∀a:Arc,(qV G p a).length<=if a.f=p.a then 1+bS G.arcs p.b.toNat else 0:=fun a=>by
  unfold qV
  by_cases q:a.f=p.a
  ·rw[if_neg (fun h=>h q),if_pos q,List.length_append,fG]
   have h3:dQ (fun b:Arc=>(if b.f=p.b/\a.o=b.i/\a.o≠0 then [(⟨a.i,b.o,a.w+b.w,⟨a.t,b.t,0⟩⟩:Stp)]else []).length) G.arcs<=bS G.arcs p.b.toNat:=by
    refine lR _ fun x _=>?_
    rw[eb]
    by_cases q:x.f=p.b
    ·rw[if_pos q];split<;>simp
    ·rw[if_neg (fun h=>q h.1),if_neg q];simp
   have h4:(if a.o=0/\p.c≠2 then [(⟨a.i,0,a.w,⟨a.t,p.b,1⟩⟩:Stp)]else []).length<=1:=by split<;>simp
   omega
  ·rw[if_pos q,if_neg q];simp
 have h5:dQ (fun x=>(qV G p x).length) F.arcs<=bS F.arcs p.a.toNat*(1+bS G.arcs p.b.toNat):=by
  refine Nat.le_trans (lR _ fun x _=>h2 x) ?_
  unfold bS
  rw[ea]
  generalize dQ (fun x:Arc=>if x.f=((p.b.toNat:Nat):Int)then 1 else 0) G.arcs=D
  generalize F.arcs=l
  induction l with
  |nil=>simp[dQ]
  |cons x l ih=>
   simp only[dQ]
   rw[Nat.add_mul]
   split<;>omega
 rw[Nat.mul_add]at h5
 omega
def Bm (F G:TF) (ps:List Trip) (p:Trip):List Arc:=(eF F G p).map fun s=>⟨(ps.idxOf p:Nat),s.i,s.o,(ps.idxOf s.p:Nat),s.w⟩
theorem tP {ps:List Trip} {q x:Trip}:x∈eD ps q <-> x∈ps\/x=q:=by
 unfold eD
 split
 ·rename_i h
  exact⟨.inl,fun h2=>h2.elim id fun e=>e▸h⟩
 ·simp
theorem Yu (ps:List Trip) (q:Trip): ∃m,eD ps q=ps++m:=by
 unfold eD
 split
 ·exact⟨[],by simp⟩
 ·exact⟨[q],rfl⟩
theorem aBn {ps:List Trip} {q:Trip} (h:ps.Nodup):(eD ps q).Nodup:=by
 unfold eD
 split
 ·exact h
 ·rename_i hq
  exact List.nodup_append.2 ⟨h,by simp,fun a ha b hb=>by rw[List.mem_singleton]at hb;subst hb;rintro rfl;exact hq ha⟩
structure aDn (F G:TF) (n:Int) (x:CS) (l:List Stp) (y:CS):Prop where
 pre: ∃m,y.1=x.1++m
 nd:x.1.Nodup->y.1.Nodup
 of: ∀q∈y.1,q∈x.1\/ ∃s∈l,q=s.p
 cl: ∀s∈l,s.p∈y.1
 raw:y.2.1=x.2.1++l.map fun s=>⟨n,s.i,s.o,(y.1.idxOf s.p:Nat),s.w⟩
 g:y.2.2=true->x.2.2=true\/(∃q∈y.1,1000000000<bK F G q)\/ ∃s∈l,1000000000<s.w
 g2:y.2.2=false->x.2.2=false/\(∀q∈y.1,q∈x.1\/bK F G q<=1000000000)/\ ∀s∈l,s.w<=1000000000
theorem Rn (F G:TF) (n:Int): ∀(l:List Stp) (x:CS),aDn F G n x l (l.foldl (Bv F G n) x)
 | [],x=>⟨⟨[],by simp⟩,id,fun q h=> .inl h,fun s h=>(by cases h),by simp,fun h=> .inl h,fun h=>⟨h,fun q hq=> .inl hq,fun s hs=>(by cases hs)⟩⟩
 |s::l,x=>by
  have ih:=Rn F G n l (Bv F G n x s)
  rw[List.foldl_cons]
  generalize l.foldl (Bv F G n) (Bv F G n x s)=y at ih
  obtain⟨m,hm⟩:=ih.pre
  obtain⟨m0,hm0⟩:=Yu x.1 s.p
  have e1:(Bv F G n x s).1=eD x.1 s.p:=rfl
  rw[e1]at hm
  have hsp:s.p∈eD x.1 s.p:=tP.2 (.inr rfl)
  refine⟨⟨m0++m,by rw[hm,hm0,List.append_assoc]⟩,fun h=>ih.nd (aBn h),fun q hq=>?_,fun t ht=>?_,?_,fun h=>?_,fun h=>?_⟩
  ·rcases ih.of q hq with h|⟨t,ht,h⟩
   ·rcases tP.1 h with h|h
    ·exact .inl h
    ·exact .inr ⟨s,by simp,h⟩
   ·exact .inr ⟨t,by simp[ht],h⟩
  ·rcases List.mem_cons.1 ht with rfl|ht
   ·rw[hm];exact List.mem_append.2 (.inl hsp)
   ·exact ih.cl t ht
  ·rw[ih.raw]
   show xJ x.1 x.2.1 n s++_=_
   unfold xJ
   rw[List.append_assoc]
   congr 1
   rw[List.map_cons,hm,eY hsp]
   rfl
  ·rcases ih.g h with h|h|⟨t,ht,h⟩
   ·have h:grP F G x.1 x.2.2 s=true:=h
    unfold grP kO at h
    rw[Bool.or_eq_true,decide_eq_true_eq]at h
    rcases h with h|h
    ·split at h
     ·exact .inl h
     ·rw[Bool.or_eq_true,decide_eq_true_eq]at h
      rcases h with h|h
      ·exact .inl h
      ·exact .inr (.inl ⟨s.p,by rw[hm];exact List.mem_append.2 (.inl hsp),h⟩)
    ·exact .inr (.inr ⟨s,by simp,h⟩)
   ·exact .inr (.inl h)
   ·exact .inr (.inr ⟨t,by simp[ht],h⟩)
  ·obtain⟨h1,h2,h3⟩:=ih.g2 h
   have h1:grP F G x.1 x.2.2 s=false:=h1
   unfold grP kO at h1
   rw[Bool.or_eq_false_iff,decide_eq_false_iff_not]at h1
   refine⟨?_,fun q hq=>?_,fun t ht=>?_⟩
   ·have:=h1.1
    split at this
    ·exact this
    ·exact(Bool.or_eq_false_iff.1 this).1
   ·rcases h2 q hq with h|h
    ·rcases tP.1 h with h|h
     ·exact .inl h
     ·subst h
      by_cases hin:s.p∈x.1
      ·exact .inl hin
      ·right
       have:=h1.1
       rw[if_neg hin,Bool.or_eq_false_iff,decide_eq_false_iff_not]at this
       omega
    ·exact .inr h
   ·rcases List.mem_cons.1 ht with rfl|ht
    ·have:=h1.2;omega
    ·exact h3 t ht
structure eS (F G:TF) (k:Nat) (x:CS):Prop where
 kl:k<=x.1.length
 nd:x.1.Nodup
 first:x.1.head?=some ⟨F.start,G.start,0⟩
 rng: ∀q∈x.1,iR F G q/\0<=q.c/\q.c<3
 cl: ∀p∈x.1.take k,∀s∈eF F G p,s.p∈x.1
 raw:x.2.1=(x.1.take k).flatMap (Bm F G x.1)
 g:x.2.2=true->(∃q∈x.1,1000000000<bK F G q)\/ ∃p∈x.1,∃s∈eF F G p,1000000000<s.w
 g2:x.2.2=false->(∀q∈x.1,bK F G q<=1000000000)/\ ∀p∈x.1.take k,∀s∈eF F G p,s.w<=1000000000
section
variable {F G:TF} {k:Nat} {x:CS} (hF:FOk F) (hG:FOk G)
include hF hG
theorem Sw {p:Trip} (hp:iR F G p) {s:Stp} (hs:s∈eF F G p):iR F G s.p/\0<=s.p.c/\s.p.c<3:=by
 have hf:=hF.finl
 have hg:=hG.finl
 rcases fM.1 hs with⟨a,ha,e1,e2,_,rfl⟩|⟨a,ha,b,hb,e1,e2,e3,e4,rfl⟩|⟨b,hb,e1,e2,rfl⟩
 ·have h1:=hF.arc a ha
  exact⟨iR.of ⟨h1.t0,by have:=h1.t1;omega⟩ ⟨hp.b0,hp.b1⟩,by show(0:Int)<=1;omega,by show(1:Int)<3;omega⟩
 ·have h1:=hF.arc a ha
  have h2:=hG.arc b hb
  exact⟨iR.of ⟨h1.t0,by have:=h1.t1;omega⟩ ⟨h2.t0,by have:=h2.t1;omega⟩,by show(0:Int)<=0;omega,by show(0:Int)<3;omega⟩
 ·have h2:=hG.arc b hb
  exact⟨iR.of ⟨hp.a0,hp.a1⟩ ⟨h2.t0,by have:=h2.t1;omega⟩,by show(0:Int)<=2;omega,by show(2:Int)<3;omega⟩
theorem Wv {p:Trip} {s:Stp} (hs:s∈eF F G p):(0<=s.i/\s.i<=9)/\(0<=s.o/\s.o<=9)/\0<=s.w:=by
 rcases fM.1 hs with⟨a,ha,e1,e2,_,rfl⟩|⟨a,ha,b,hb,e1,e2,e3,e4,rfl⟩|⟨b,hb,e1,e2,rfl⟩
 ·have h1:=hF.arc a ha
  exact⟨h1.i0,by show(0:Int)<=0/\(0:Int)<=9;omega,h1.w0⟩
 ·have h1:=hF.arc a ha
  have h2:=hG.arc b hb
  refine⟨h1.i0,h2.o0,?_⟩
  have:=h1.w0
  have:=h2.w0
  show 0<=a.w+b.w
  omega
 ·have h2:=hG.arc b hb
  exact⟨by show(0:Int)<=0/\(0:Int)<=9;omega,h2.o0,h2.w0⟩
theorem eS.start:eS F G 0 (eD [] ⟨F.start,G.start,0⟩,[],kO F G [] false ⟨F.start,G.start,0⟩):=by
 have e:eD [] (⟨F.start,G.start,0⟩:Trip)=[⟨F.start,G.start,0⟩]:=rfl
 have e2:kO F G [] false ⟨F.start,G.start,0⟩=decide (1000000000<bK F G ⟨F.start,G.start,0⟩):=by simp[kO]
 rw[e,e2]
 have h1:=hF.start
 have h2:=hG.start
 have h3:=hF.finl
 have h4:=hG.finl
 refine⟨Nat.zero_le _,by simp,rfl,fun q hq=>?_,fun p hp=>by simp at hp,rfl,fun h=>?_,fun h=>⟨fun q hq=>?_,fun p hp=>by simp at hp⟩⟩
 ·rw[List.mem_singleton]at hq
  subst hq
  exact⟨iR.of ⟨h1.1,by omega⟩ ⟨h2.1,by omega⟩,by show(0:Int)<=0;omega,by show(0:Int)<3;omega⟩
 ·exact .inl ⟨_,List.mem_singleton.2 rfl,of_decide_eq_true h⟩
 ·rw[List.mem_singleton]at hq
  subst hq
  have:=of_decide_eq_false h
  omega
omit hF hG in
theorem Gp {ps m:List Trip} {q:Trip} (h:q∈ps):(ps++m).idxOf q=ps.idxOf q:=eY h
omit hF hG in
theorem aCT {ps:List Trip} (hn:ps.Nodup) (hk:k<ps.length):ps.idxOf (ps.getD k ⟨0,0,0⟩)=k:=by
 have e:ps.getD k ⟨0,0,0⟩=ps[k]:=by simp[List.getD,hk]
 rw[e]
 exact List.Nodup.idxOf_getElem hn k hk
theorem eS.step (h:eS F G k x) (hk:k<x.1.length):eS F G (k+1) ((eF F G (x.1.getD k ⟨0,0,0⟩)).foldl (Bv F G (x.1.idxOf (x.1.getD k ⟨0,0,0⟩):Nat)) x):=by
 have hi:=aCT h.nd hk
 have hpm:x.1.getD k ⟨0,0,0⟩∈x.1:=aB _ _ _ hk
 have ht:x.1.take (k+1)=x.1.take k++[x.1.getD k ⟨0,0,0⟩]:=aY x.1 k _ hk
 generalize hp:x.1.getD k ⟨0,0,0⟩=p at hi hpm ht
 have hf:=Rn F G (x.1.idxOf p:Nat) (eF F G p) x
 generalize (eF F G p).foldl (Bv F G (x.1.idxOf p:Nat)) x=y at hf
 obtain⟨m,hm⟩:=hf.pre
 have htk:y.1.take (k+1)=x.1.take k++[p]:=by rw[hm,List.take_append_of_le_length (by omega),ht]
 have hkl:=h.kl
 have hsub: ∀q∈x.1,q∈y.1:=fun q hq=>by rw[hm];exact List.mem_append.2 (.inl hq)
 have htm: ∀q∈x.1.take k,q∈x.1:=fun q hq=>List.mem_of_mem_take hq
 refine⟨by rw[hm,List.length_append];omega,hf.nd h.nd,?_,fun q hq=>?_,fun q hq s hs=>?_,?_,fun hg=>?_,fun hg=>?_⟩
 ·rw[hm]
  have:=h.first
  cases hx:x.1 with
  |nil=>rw[hx]at hk;cases hk
  |cons a l=>rw[hx]at this;exact this
 ·rcases hf.of q hq with hq|⟨s,hs,rfl⟩
  ·exact h.rng q hq
  ·exact Sw hF hG (h.rng p hpm).1 hs
 ·rw[htk]at hq
  rcases List.mem_append.1 hq with hq|hq
  ·exact hsub _ (h.cl q hq s hs)
  ·rw[List.mem_singleton]at hq;subst hq;exact hf.cl s hs
 ·rw[hf.raw,htk,List.flatMap_append,h.raw]
  congr 1
  ·rw[List.flatMap_def,List.flatMap_def]
   congr 1
   refine List.map_congr_left fun q hq=>?_
   unfold Bm
   refine List.map_congr_left fun s hs=>?_
   rw[hm,Gp (htm q hq),Gp (h.cl q hq s hs)]
  ·rw[List.flatMap_cons,List.flatMap_nil,List.append_nil]
   unfold Bm
   rw[hm,Gp hpm]
 ·rcases hf.g hg with hg|hg|⟨s,hs,hw⟩
  ·rcases h.g hg with⟨q,hq,hw⟩|⟨q,hq,s,hs,hw⟩
   ·exact .inl ⟨q,hsub q hq,hw⟩
   ·exact .inr ⟨q,hsub q hq,s,hs,hw⟩
  ·exact .inl hg
  ·exact .inr ⟨p,hsub p hpm,s,hs,hw⟩
 ·obtain⟨g1,g2,g3⟩:=hf.g2 hg
  obtain⟨g4,g5⟩:=h.g2 g1
  refine⟨fun q hq=>?_,fun q hq s hs=>?_⟩
  ·rcases g2 q hq with h1|h1
   ·exact g4 q h1
   ·exact h1
  ·rw[htk]at hq
   rcases List.mem_append.1 hq with hq|hq
   ·exact g5 q hq s hs
   ·rw[List.mem_singleton]at hq;subst hq;exact g3 s hs
def tR (F G:TF):Nat:=F.arcs.length*G.arcs.length+F.arcs.length*G.st.toNat+G.arcs.length*F.st.toNat
theorem eS.psl (h:eS F G k x):x.1.length<=3*F.st.toNat*G.st.toNat:=by
 have hf:=hF.finl
 have hg:=hG.finl
 have hsub: ∀q∈x.1,q∈Vv F.st.toNat G.st.toNat:=fun q hq=>by
  obtain⟨⟨a0,a1,b0,b1⟩,c⟩:=h.rng q hq
  exact Ji ⟨a0,by omega⟩ ⟨b0,by omega⟩ c
 have h1:=yG (fun _=>1) x.1 _ h.nd hsub
 rw[Wr]at h1
 have h2:=Hy F.st.toNat G.st.toNat fun _ _=>1
 rw[h2,rJ,rJ]at h1
 rw[Nat.mul_assoc,Nat.mul_comm 3 _]
 rw[Nat.mul_assoc]
 exact h1
theorem eS.rawl (h:eS F G k x):x.2.1.length<=3*tR F G:=by
 have hf:=hF.finl
 have hg:=hG.finl
 rw[h.raw,fG]
 have hsub: ∀q∈x.1.take k,q∈Vv F.st.toNat G.st.toNat:=fun q hq=>by
  obtain⟨⟨a0,a1,b0,b1⟩,c⟩:=h.rng q (List.mem_of_mem_take hq)
  exact Ji ⟨a0,by omega⟩ ⟨b0,by omega⟩ c
 have h1:dQ (fun p=>(Bm F G x.1 p).length) (x.1.take k)<=dQ (fun p:Trip=>(fun a b=>1*bS F.arcs a+bS F.arcs a*bS G.arcs b+bS G.arcs b) p.a.toNat p.b.toNat) (x.1.take k):=by
  refine lR _ fun p hp=>?_
  have hr:=(h.rng p (List.mem_of_mem_take hp)).1
  unfold Bm
  rw[List.length_map]
  exact Ci F G p hr.a0 hr.b0
 have h2:=yG (fun p:Trip=>(fun a b=>1*bS F.arcs a+bS F.arcs a*bS G.arcs b+bS G.arcs b) p.a.toNat p.b.toNat) (x.1.take k) _ (h.nd.sublist (List.take_sublist _ _)) hsub
 rw[Hy F.st.toNat G.st.toNat fun a b=>1*bS F.arcs a+bS F.arcs a*bS G.arcs b+bS G.arcs b]at h2
 have e: ∀a,iS G.st.toNat (fun b=>3*(1*bS F.arcs a+bS F.arcs a*bS G.arcs b+bS G.arcs b))<=3*(G.st.toNat*bS F.arcs a+bS F.arcs a*G.arcs.length+G.arcs.length):=fun a=>by
  have e1:(fun b=>3*(1*bS F.arcs a+bS F.arcs a*bS G.arcs b+bS G.arcs b))=fun b=>(3*bS F.arcs a+3)*bS G.arcs b+bS G.arcs b*0+3*bS F.arcs a:=by
   funext b
   rw[Nat.mul_zero,Nat.add_zero,Nat.add_mul,Nat.mul_add,Nat.mul_add,Nat.mul_assoc]
   omega
  rw[e1,Hz]
  have hd:=Kr G.arcs G.st.toNat
  have:=Nat.mul_le_mul_left (3*bS F.arcs a+3) hd
  rw[Nat.add_mul,Nat.mul_assoc]at this
  have e3:G.st.toNat*(3*bS F.arcs a)=3*(G.st.toNat*bS F.arcs a):=by rw[Nat.mul_left_comm]
  rw[Nat.mul_zero,e3]
  rw[Nat.add_mul]at this⊢
  rw[Nat.mul_assoc]at this⊢
  omega
 have h3:iS F.st.toNat (fun a=>iS G.st.toNat fun b=>3*(1*bS F.arcs a+bS F.arcs a*bS G.arcs b+bS G.arcs b))<=iS F.st.toNat fun a=>3*(G.st.toNat*bS F.arcs a+bS F.arcs a*G.arcs.length+G.arcs.length):=lR _ fun a _=>e a
 have e4:(fun a=>3*(G.st.toNat*bS F.arcs a+bS F.arcs a*G.arcs.length+G.arcs.length))=fun a=>(3*G.st.toNat)*bS F.arcs a+bS F.arcs a*(3*G.arcs.length)+3*G.arcs.length:=by
  funext a
  rw[Nat.mul_add,Nat.mul_add,Nat.mul_assoc,Nat.mul_left_comm (bS F.arcs a) 3]
 rw[e4,Hz]at h3
 have hd:=Kr F.arcs F.st.toNat
 have m1:=Nat.mul_le_mul_left (3*G.st.toNat) hd
 have m2:=Nat.mul_le_mul_right (3*G.arcs.length) hd
 have e5:3*tR F G=F.arcs.length*(3*G.arcs.length)+3*G.st.toNat*F.arcs.length+F.st.toNat*(3*G.arcs.length):=by
  unfold tR
  rw[Nat.mul_add,Nat.mul_add,Nat.mul_left_comm F.arcs.length 3,Nat.mul_assoc 3 G.st.toNat,Nat.mul_comm G.st.toNat,Nat.mul_left_comm F.st.toNat 3,Nat.mul_comm F.st.toNat]
 omega
omit hF hG in
theorem eS.numd (h:eS F G x.1.length x):Pe F G x.1 x.2.1:=by
 have e:x.1.take x.1.length=x.1:=List.take_length
 have hr:=h.raw
 have hc:=h.cl
 rw[e]at hr hc
 refine⟨h.first,h.nd,fun a ha=>?_,fun p hp s hs=>⟨hc p hp s hs,?_⟩⟩
 ·rw[hr]at ha
  obtain⟨p,hp,ha⟩:=List.mem_flatMap.1 ha
  obtain⟨s,hs,rfl⟩:=List.mem_map.1 ha
  exact⟨p,hp,s,hs,hc p hp s hs,rfl⟩
 ·rw[hr]
  exact List.mem_flatMap.2 ⟨p,hp,List.mem_map.2 ⟨s,hs,rfl⟩⟩
end
theorem Uv (a:Arc):Ct Tryz.prog 50 [dK a] [] [] 0 (Is 0 (dK (rX a))):=by
 refine ctW Tryz.tyOk 3 [] Tryz.func50 rfl (by simp) (by simp) (fr:= [(0,dK a)]) rfl ?_
 refine gO ?_
 refine aQ.is ?_
 simp[rX]
theorem My (a:Arc) (side:Int):Ct Tryz.prog 93 [dK a,.c (.ptr 0 0)] [] [(0,.box 3 [.i side])] 1 (fun v s=>v=dK (nT side a)/\s=⟨[],[(0,.box 3 [.i side])],1⟩):=by
 refine ctW Tryz.tyOk 4 [] Tryz.func93 rfl (by simp) (by simp) (fr:= [(0,dK a),(1,.c (.ptr 0 0))]) rfl ?_
 refine gO ?_
 refine⟨fun h=>?_,fun h=>?_⟩
 ·refine⟨[],[(0,.box 3 [.i side])],1,dK (nT side a),⟨by rfl,trivial,by simp⟩,?_,rfl,rfl⟩
  simp[nT,h]
 ·(conv=>whnf)
  refine⟨[],[(0,.box 3 [.i side])],1,dK (nT side a),⟨by rfl,trivial,by simp⟩,?_,rfl,rfl⟩
  simp[nT,h]
def Si (F:TF) (f:Arc->Arc) (hp:List (Nat×SO)) (n:Nat) (v:SV) (s:S):Prop:= ∃zs sp sq,v= .a (.agg [.i F.st,.i F.start,.sl n 1 0 F.fin.length (F.fin.length+sp),.sl (n+1) 5 0 zs.length (zs.length+sq)])/\s=⟨[],hp++[(n,.arr true 3 .int F.fin sp),(n+1,.arr true 55 .arc zs sq)],n+2⟩/\bG (F.arcs.map f) zs
theorem Ul (F:TF) (hF:FOk F):Ct Tryz.prog 49 [fV F,.c (.fn 50 [])] [] (hpF F) 2 (Si F rX [] 2):=by
 have hfl:=hF.finl
 have hal:=hF.arcl
 have hst:=hF.st
 refine ctW Tryz.tyOk 8 [17,18,19] Tryz.func49 rfl (by simp) (by simp) (fr:= [(0,fV F),(1,.c (.fn 50 []))]) rfl ?_
 refine gD ?_
 refine jO (fun sp:Nat=>⟨[(1,.c (.fn 50 [])),(2,.c (.ptr 2 0)),(4,.c (.ptr 3 0)),(5,.c (.ptr 5 0))],
  [(0,.arr false 3 .int F.fin 0),(1,.arr false 55 .arc F.arcs 0),(2,.box 25 (aA F)),(3,.box 25 [.i 0,.i 0,.v (.slice none 0 0),.v (.slice none 0 0)]),(4,.arr true 3 .int F.fin sp),(5,.box 25 [.i F.st,.i F.start,.sl 4 1 0 F.fin.length (F.fin.length+sp),.v (.slice none 0 0)])],6⟩) (fun _=>True) ?_ ?_
 ·refine gO ?_
  refine⟨?_,?_⟩
  all_goals
   (conv=>whnf)
   refine cF (uH F.fin F.capF (by omega)) [0] Tryz.call100 ?_
   rintro _ _ ⟨sp,rfl,rfl⟩
   refine gO ?_
  ·refine⟨sp,[],⟨by rfl,?_,?_⟩,trivial⟩
   ·simp
   ·simp[aA]
  ·refine⟨sp,[(4,some 5),(5,some 4)],⟨by rfl,?_,?_⟩,trivial⟩
   ·simp
   ·simp[aA]
 ·intro sp _
  refine gO ?_
  refine aJ (fun x:Nat×Nat=>⟨[(1,.c (.fn 50 [])),(2,.c (.ptr 2 0)),(4,.c (.ptr 3 0)),(5,.c (.ptr 5 0)),(17,.c (.sl 1 5 0 F.arcs.length F.capA)),(18,.i F.arcs.length),(19,.i x.1)],
   [(0,.arr false 3 .int F.fin 0),(1,.arr false 55 .arc F.arcs 0),(2,.box 25 (aA F)),(3,.box 25 [.i 0,.i 0,.v (.slice none 0 0),.v (.slice none 0 0)]),(4,.arr true 3 .int F.fin sp),(5,.box 25 [.i F.st,.i F.start,.sl 4 1 0 F.fin.length (F.fin.length+sp),.sl 6 5 0 ((F.arcs.take x.1).map rX).length (((F.arcs.take x.1).map rX).length+x.2)]),(6,.arr true 55 .arc ((F.arcs.take x.1).map rX) x.2)],7⟩)
   (fun x=>x.1<=F.arcs.length) (fun x=>F.arcs.length-x.1) (0,0) [(6,none)] ⟨by rfl,?_,?_⟩ (Nat.zero_le _) ?_
  ·simp
  ·simp[aA,cT]
  ·rintro⟨k,sq⟩ hk
   simp only at hk⊢
   have hln:((F.arcs.take k).map rX).length=k:=by rw[List.length_map,List.length_take];omega
   have hsn:k<F.arcs.length->(F.arcs.take (k+1)).map rX=(F.arcs.take k).map rX++[rX (F.arcs.getD k aD)]:=fun h=>by
    rw[aY F.arcs k aD h,List.map_append];rfl
   generalize hpp:(F.arcs.take k).map rX=pl at hsn hln⊢
   have e0:0+(k:Int).toNat=k:=by omega
   refine gO ?_
   refine⟨fun h=>?_,fun h=>?_⟩
   ·refine cF (Uv (F.arcs.getD (0+(k:Int).toNat) EK.arc.dflt)) [] Tryz.call50 ?_
    rintro _ _ ⟨rfl,rfl⟩
    refine gI fun _=>?_
    rename_i q
    replace hsn:=hsn (by omega)
    rw[<-e0]at hsn
    refine⟨(k+1,q),[(6,some 9)],⟨by rfl,?_,?_⟩,by simp only;omega,by simp only;omega⟩
    ·simp
    ·rw[e0]at hsn
     simp[aA,hsn,EK.dflt]
     exact(aV pl _ _ rfl).symm
   ·have e:F.arcs.take k=F.arcs:=List.take_of_length_le (by omega)
    rw[e]at hpp
    subst hpp
    clear hsn
    refine gO ?_
    refine cF (oH (F.arcs.map rX) ((F.arcs.map rX).length+sq) sq (by omega) (by omega)) [6] Tryz.call62 ?_
    rintro _ _ ⟨zs,sq',rfl,rfl,hzl,hso⟩
    refine gO ?_
    rw[hzl]
    exact⟨[(2,some 4),(3,some 6)],[(2,.arr true 3 .int F.fin sp),(3,.arr true 55 .arc zs sq')],4,.a (.agg [.i F.st,.i F.start,.sl 2 1 0 F.fin.length (F.fin.length+sp),.sl 3 5 0 zs.length (zs.length+sq')]),⟨by rfl,trivial,by simp⟩,by simp,zs,sp,sq',rfl,rfl,hso.norm⟩
theorem Uk (F:TF) (hF:FOk F) (side:Int):Ct Tryz.prog 49 [fV F,.c (.fn 93 [(2,0)])] [] ((2,.box 3 [.i side])::hpF F) 3 (Si F (nT side) [(2,.box 3 [.i side])] 3):=by
 have hfl:=hF.finl
 have hal:=hF.arcl
 have hst:=hF.st
 refine ctW Tryz.tyOk 8 [17,18,19] Tryz.func49 rfl (by simp) (by simp) (fr:= [(0,fV F),(1,.c (.fn 93 [(2,0)]))]) rfl ?_
 refine gD ?_
 refine jO (fun sp:Nat=>⟨[(1,.c (.fn 93 [(2,0)])),(2,.c (.ptr 3 0)),(4,.c (.ptr 4 0)),(5,.c (.ptr 6 0))],
  [(0,.arr false 3 .int F.fin 0),(1,.arr false 55 .arc F.arcs 0),(2,.box 3 [.i side]),(3,.box 25 (aA F)),(4,.box 25 [.i 0,.i 0,.v (.slice none 0 0),.v (.slice none 0 0)]),(5,.arr true 3 .int F.fin sp),(6,.box 25 [.i F.st,.i F.start,.sl 5 1 0 F.fin.length (F.fin.length+sp),.v (.slice none 0 0)])],7⟩) (fun _=>True) ?_ ?_
 ·refine gO ?_
  refine⟨?_,?_⟩
  all_goals
   (conv=>whnf)
   refine cF (uH F.fin F.capF (by omega)) [0] Tryz.call100 ?_
   rintro _ _ ⟨sp,rfl,rfl⟩
   refine gO ?_
  ·refine⟨sp,[],⟨by rfl,?_,?_⟩,trivial⟩
   ·simp
   ·simp[aA]
  ·refine⟨sp,[(5,some 6),(6,some 5)],⟨by rfl,?_,?_⟩,trivial⟩
   ·simp
   ·simp[aA]
 ·intro sp _
  refine gO ?_
  refine aJ (fun x:Nat×Nat=>⟨[(1,.c (.fn 93 [(2,0)])),(2,.c (.ptr 3 0)),(4,.c (.ptr 4 0)),(5,.c (.ptr 6 0)),(17,.c (.sl 1 5 0 F.arcs.length F.capA)),(18,.i F.arcs.length),(19,.i x.1)],
   [(0,.arr false 3 .int F.fin 0),(1,.arr false 55 .arc F.arcs 0),(2,.box 3 [.i side]),(3,.box 25 (aA F)),(4,.box 25 [.i 0,.i 0,.v (.slice none 0 0),.v (.slice none 0 0)]),(5,.arr true 3 .int F.fin sp),(6,.box 25 [.i F.st,.i F.start,.sl 5 1 0 F.fin.length (F.fin.length+sp),.sl 7 5 0 ((F.arcs.take x.1).map (nT side)).length (((F.arcs.take x.1).map (nT side)).length+x.2)]),(7,.arr true 55 .arc ((F.arcs.take x.1).map (nT side)) x.2)],8⟩)
   (fun x=>x.1<=F.arcs.length) (fun x=>F.arcs.length-x.1) (0,0) [(7,none)] ⟨by rfl,?_,?_⟩ (Nat.zero_le _) ?_
  ·simp
  ·simp[aA,cT]
  ·rintro⟨k,sq⟩ hk
   simp only at hk⊢
   have hln:((F.arcs.take k).map (nT side)).length=k:=by rw[List.length_map,List.length_take];omega
   have hsn:k<F.arcs.length->(F.arcs.take (k+1)).map (nT side)=(F.arcs.take k).map (nT side)++[(nT side) (F.arcs.getD k aD)]:=fun h=>by
    rw[aY F.arcs k aD h,List.map_append];rfl
   generalize hpp:(F.arcs.take k).map (nT side)=pl at hsn hln⊢
   have e0:0+(k:Int).toNat=k:=by omega
   refine gO ?_
   refine⟨fun h=>?_,fun h=>?_⟩
   ·refine cF (My (F.arcs.getD (0+(k:Int).toNat) EK.arc.dflt) side) [2] Tryz.call93 ?_
    rintro _ _ ⟨rfl,rfl⟩
    refine gI fun _=>?_
    rename_i q
    replace hsn:=hsn (by omega)
    rw[<-e0]at hsn
    refine⟨(k+1,q),[(7,some 10)],⟨by rfl,?_,?_⟩,by simp only;omega,by simp only;omega⟩
    ·simp
    ·rw[e0]at hsn
     simp[aA,hsn,EK.dflt]
     exact(aV pl _ _ rfl).symm
   ·have e:F.arcs.take k=F.arcs:=List.take_of_length_le (by omega)
    rw[e]at hpp
    subst hpp
    clear hsn
    refine gO ?_
    refine cF (oH (F.arcs.map (nT side)) ((F.arcs.map (nT side)).length+sq) sq (by omega) (by omega)) [7] Tryz.call62 ?_
    rintro _ _ ⟨zs,sq',rfl,rfl,hzl,hso⟩
    refine gO ?_
    rw[hzl]
    exact⟨[(3,some 5),(4,some 7)],[(2,.box 3 [.i side]),(3,.arr true 3 .int F.fin sp),(4,.arr true 55 .arc zs sq')],5,.a (.agg [.i F.st,.i F.start,.sl 3 1 0 F.fin.length (F.fin.length+sp),.sl 4 5 0 zs.length (zs.length+sq')]),⟨by rfl,trivial,by simp⟩,by simp,zs,sp,sq',rfl,rfl,hso.norm⟩
def Lr (F:TF) (f:Arc->Arc) (v:SV) (s:S):Prop:= ∃zs sp sq,v= .tup [.agg [.i F.st,.i F.start,.sl 2 1 0 F.fin.length (F.fin.length+sp),.sl 3 5 0 zs.length (zs.length+sq)],.c (.i 0)]/\s=⟨[],[(2,.arr true 3 .int F.fin sp),(3,.arr true 55 .arc zs sq)],4⟩/\bG (F.arcs.map f) zs
abbrev noT (e:Int):SV:= .tup [.agg [.i 0,.i 0,.v (.slice none 0 0),.v (.slice none 0 0)],.c (.i e)]
theorem Ut (F:TF) (hl:F.fin.length<=9223372036854775807) (h:aL F≠0):Ct Tryz.prog 16 [fV F] [] (hpF F) 2 (Is 2 (noT (aL F))):=by
 refine ctW Tryz.tyOk 5 [] Tryz.func16 rfl (by simp) (by simp) (fr:= [(0,fV F)]) rfl ?_
 refine gO ?_
 refine cI (aU F hl) [0,1] Tryz.call35 ?_
 refine gO fun h=>?_
 refine aQ.is ?_
 simp
theorem vU (F:TF) (hl:F.fin.length<=9223372036854775807) (h:aL F=0):Ct Tryz.prog 16 [fV F] [] (hpF F) 2 (Lr F rX):=by
 have hF:=aK h
 refine ctW Tryz.tyOk 5 [] Tryz.func16 rfl (by simp) (by simp) (fr:= [(0,fV F)]) rfl ?_
 refine gO ?_
 refine cI (aU F hl) [0,1] Tryz.call35 ?_
 refine gO fun h=>?_
 refine cF (Ul F hF) [0,1] Tryz.call49 ?_
 rintro _ _ ⟨zs,sp,sq,rfl,rfl,hz⟩
 refine gO ?_
 exact⟨[(2,some 4),(3,some 5)],[(2,.arr true 3 .int F.fin sp),(3,.arr true 55 .arc zs sq)],4,.tup [.agg [.i F.st,.i F.start,.sl 2 1 0 F.fin.length (F.fin.length+sp),.sl 3 5 0 zs.length (zs.length+sq)],.c (.i 0)],⟨by rfl,trivial,by simp⟩,by simp,zs,sp,sq,rfl,rfl,hz⟩
theorem Mx (F:TF) (side:Int) (hl:F.fin.length<=9223372036854775807) (h:aL F=0) (hs:side=1\/side=2):Ct Tryz.prog 38 [fV F,.i side] [] (hpF F) 2 (Lr F (Wl side)):=by
 have hF:=aK h
 rw[St hs]
 refine ctW Tryz.tyOk 7 [] Tryz.func38 rfl (by simp) (by simp) (fr:= [(0,fV F),(1,.i side)]) rfl ?_
 refine gO ?_
 refine cI (aU F hl) [0,1] Tryz.call35 ?_
 refine gO ?_
 refine fun h=>⟨fun h h=>?_,fun h=>?_⟩
 all_goals
  (conv=>whnf)
  refine cF (Uk F hF side) [0,1,3] Tryz.call49 ?_
  rintro _ _ ⟨zs,sp,sq,rfl,rfl,hz⟩
  refine gO ?_
  exact⟨[(2,some 5),(3,some 6)],[(2,.arr true 3 .int F.fin sp),(3,.arr true 55 .arc zs sq)],4,.tup [.agg [.i F.st,.i F.start,.sl 2 1 0 F.fin.length (F.fin.length+sp),.sl 3 5 0 zs.length (zs.length+sq)],.c (.i 0)],⟨by rfl,trivial,by simp⟩,by simp,zs,sp,sq,rfl,rfl,hz⟩
theorem aCA (n:Int):Ct Tryz.prog 54 [.i n] [] [] 0 (Is 0 (.i n)):=by
 refine ctW Tryz.tyOk 3 [] Tryz.func54 rfl (by simp) (by simp) (fr:= [(0,.i n)]) rfl ?_
 refine gO ?_
 refine aQ.is ?_
 simp
theorem aCY (n:Int):Ct Tryz.prog 57 [.i n] [] [] 0 (Is 0 (.i (-1))):=by
 refine ctW Tryz.tyOk 3 [] Tryz.func57 rfl (by simp) (by simp) (fr:= [(0,.i n)]) rfl ?_
 refine gO ?_
 refine aQ.is ?_
 simp
abbrev dJ (st:Int) (i j:Nat) (l:List Int) (ar:List Arc) (sp sq:Nat):List SC:= [.i st,.i 0,.sl i 1 0 l.length (l.length+sp),.sl j 5 0 ar.length (ar.length+sq)]
theorem Hj (last:Int):Ct Tryz.prog 52 [.i last] [] [] 0 (fun v s=>v= .c (.ptr 0 0)/\s=⟨[],[(0,.box 132 (dJ 1 1 2 [last] [] 0 0)),(1,.arr true 3 .int [last] 0),(2,.arr true 55 .arc [] 0)],3⟩):=by
 refine ctW Tryz.tyOk 3 [] Tryz.func52 rfl (by simp) (by simp) (fr:= [(0,.i last)]) rfl ?_
 refine gO ?_
 refine⟨[(0,some 1),(1,some 0),(2,none)],[(0,.box 132 (dJ 1 1 2 [last] [] 0 0)),(1,.arr true 3 .int [last] 0),(2,.arr true 55 .arc [] 0)],3,.c (.ptr 0 0),⟨by rfl,trivial,?_⟩,by simp,rfl,rfl⟩
 simp[cT]
theorem lT (st:Int) (l:List Int) (ar:List Arc) (sp sq:Nat) (f t w:Int) (hl:ar.length<=1000000):Ct Tryz.prog 55 [.c (.ptr 0 0),.i f,.i t,.i w] [] [(0,.box 132 (dJ st 1 2 l ar sp sq)),(1,.arr true 3 .int l sp),(2,.arr true 55 .arc ar sq)] 3
  (fun v s=> ∃q,v= .u/\s=⟨[],[(0,.box 132 (dJ st 1 3 l (ar++[cK f t w]) sp q)),(1,.arr true 3 .int l sp),(3,.arr true 55 .arc (ar++[cK f t w]) q)],4⟩):=by
 refine ctW Tryz.tyOk 8 [] Tryz.func55 rfl (by simp) (by simp) (fr:= [(0,.c (.ptr 0 0)),(1,.i f),(2,.i t),(3,.i w)]) rfl ?_
 refine gI fun _=>?_
 all_goals (conv=>whnf)
 rename_i q
 refine⟨[(3,some 4)],[(0,.box 132 (dJ st 1 3 l (ar++[cK f t w]) sp q)),(1,.arr true 3 .int l sp),(3,.arr true 55 .arc (ar++[cK f t w]) q)],4,.u,⟨by rfl,trivial,?_⟩,by simp,q,rfl,rfl⟩
 simp[aV ar _ _ rfl,cK]
theorem Oe (st:Int) (l:List Int) (ar:List Arc) (sp sq:Nat) (hl:ar.length<=1000000):Ct Tryz.prog 56 [.c (.ptr 0 0)] [] [(0,.box 132 (dJ st 1 2 l ar sp sq)),(1,.arr true 3 .int l sp),(2,.arr true 55 .arc ar sq)] 3
  (fun v s=> ∃zs sq',v= .a (.agg [.i st,.i 0,.sl 1 1 0 l.length (l.length+sp),.sl 2 5 0 zs.length (zs.length+sq')])/\s=⟨[],[(1,.arr true 3 .int l sp),(2,.arr true 55 .arc zs sq')],3⟩/\bG ar zs):=by
 refine ctW Tryz.tyOk 3 [] Tryz.func56 rfl (by simp) (by simp) (fr:= [(0,.c (.ptr 0 0))]) rfl ?_
 refine gO ?_
 refine cF (oH ar (ar.length+sq) sq (by omega) (by omega)) [2] Tryz.call62 ?_
 rintro _ _ ⟨zs,sq',rfl,rfl,hzl,hso⟩
 refine gO ?_
 rw[hzl]
 exact⟨[],[(1,.arr true 3 .int l sp),(2,.arr true 55 .arc zs sq')],3,.a (.agg [.i st,.i 0,.sl 1 1 0 l.length (l.length+sp),.sl 2 5 0 zs.length (zs.length+sq')]),⟨by rfl,trivial,by simp⟩,by simp,zs,sq',rfl,rfl,hso.norm⟩
def sB (d:Int->Int) (l fin:List Int) (k:Nat):List Int:=l++(fin.take k).map d
def sL (st:Int) (ar arcs:List Arc) (k:Nat):List Arc:=ar++(arcs.take k).map (shA st)
theorem Eb (d:Int->Int) (l fin:List Int):sB d l fin 0=l:=by simp[sB]
theorem Et (st:Int) (ar arcs:List Arc):sL st ar arcs 0=ar:=by simp[sL]
theorem Ed (d:Int->Int) (l fin:List Int) (k:Nat) (h:k<fin.length):sB d l fin (k+1)=sB d l fin k++[d (fin.getD k 0)]:=by
 unfold sB;rw[aY fin k 0 h,List.map_append,List.append_assoc];rfl
theorem Eu (st:Int) (ar arcs:List Arc) (k:Nat) (h:k<arcs.length):sL st ar arcs (k+1)=sL st ar arcs k++[shA st (arcs.getD k aD)]:=by
 unfold sL;rw[aY arcs k aD h,List.map_append,List.append_assoc];rfl
theorem Kf (d:Int->Int) (l fin:List Int) (k:Nat) (h:k<=fin.length):(sB d l fin k).length=l.length+k:=by
 unfold sB;rw[List.length_append,List.length_map,List.length_take];omega
theorem Lj (st:Int) (ar arcs:List Arc) (k:Nat) (h:k<=arcs.length):(sL st ar arcs k).length=ar.length+k:=by
 unfold sL;rw[List.length_append,List.length_map,List.length_take];omega
theorem Kg (d:Int->Int) (l fin:List Int) (k:Nat) (h:fin.length<=k):sB d l fin k=l++fin.map d:=by
 unfold sB;rw[List.take_of_length_le h]
theorem Lk (st:Int) (ar arcs:List Arc) (k:Nat) (h:arcs.length<=k):sL st ar arcs k=ar++arcs.map (shA st):=by
 unfold sL;rw[List.take_of_length_le h]
def nL (x:Int):Int:=x
def dL (_:Int):Int:= -1
theorem yF (F:TF) (hF:FOk F) (st:Int) (l:List Int) (ar:List Arc) (sp sq:Nat) (hst:0<=st/\st<=1000) (hl:l.length<=1000000) (hr:ar.length<=1000000):
  Ct Tryz.prog 53 [.c (.ptr 2 0),fV F,.c (.fn 54 [])] [] ((2,.box 132 (dJ st 3 4 l ar sp sq))::(3,.arr true 3 .int l sp)::(4,.arr true 55 .arc ar sq)::hpF F) 5
  (fun v s=> ∃p q,v= .i st/\s=⟨[],[(2,.box 132 (dJ (st+F.st) 5 6 (l++F.fin.map nL) (ar++F.arcs.map (shA st)) p q)),(5,.arr true 3 .int (l++F.fin.map nL) p),(6,.arr true 55 .arc (ar++F.arcs.map (shA st)) q)],7⟩):=by
 have hfl:=hF.finl
 have hal:=hF.arcl
 have hfs:=hF.st
 refine ctW Tryz.tyOk 12 [18,19,20,43,44,45] Tryz.func53 rfl (by simp) (by simp) (fr:= [(0,.c (.ptr 2 0)),(1,fV F),(2,.c (.fn 54 []))]) rfl ?_
 refine gO ?_
 refine aJ (fun x:Nat×Nat=>⟨[(0,.c (.ptr 2 0)),(2,.c (.fn 54 [])),(4,.c (.ptr 5 0)),(6,.i 0),(7,.i st),(18,.c (.sl 0 1 0 F.fin.length F.capF)),(19,.i F.fin.length),(20,.i x.1)],
  [(0,.arr false 3 .int F.fin 0),(1,.arr false 55 .arc F.arcs 0),(2,.box 132 (dJ st 6 4 (sB nL l F.fin x.1) ar x.2 sq)),(4,.arr true 55 .arc ar sq),(5,.box 25 (aA F)),(6,.arr true 3 .int (sB nL l F.fin x.1) x.2)],7⟩)
  (fun x=>x.1<=F.fin.length) (fun x=>F.fin.length-x.1) (0,sp) [(6,some 3)] ⟨by rfl,?_,?_⟩ (Nat.zero_le _) ?_
 ·simp
 ·simp[aA,Eb]
 ·rintro⟨k,p⟩ hk
  simp only at hk⊢
  have hln:=Kf nL l F.fin k hk
  have hsn:=Ed nL l F.fin k
  generalize hpp:sB nL l F.fin k=pl at hsn hln⊢
  have e0:0+(k:Int).toNat=k:=by omega
  refine gI ?_
  refine⟨fun h=>⟨fun h=>?_,fun h _=>?_⟩,fun h=>?_⟩
  ·refine cF (aCA (F.fin.getD (0+(k:Int).toNat) EK.int.dflt)) [] Tryz.call54 ?_
   rintro _ _ ⟨rfl,rfl⟩
   refine gI fun _=>?_
   rename_i q
   replace hsn:=hsn (by omega)
   have hT:nL (F.fin.getD k 0)=F.fin.getD (0+(k:Int).toNat) EK.int.dflt:=by first|rfl|(rw[e0];rfl)
   rw[hT]at hsn
   refine⟨(k+1,q),[(6,some 8)],⟨by rfl,?_,?_⟩,by simp only;omega,by simp only;omega⟩
   ·simp
   ·simp[aA,hsn,aV pl _ _ rfl]
  ·rename_i q
   replace hsn:=hsn (by omega)
   have hT:nL (F.fin.getD k 0)=F.fin.getD (0+(k:Int).toNat) EK.int.dflt:=by first|(rw[e0];rfl)|(rw[h];rfl)
   rw[hT]at hsn
   refine⟨(k+1,q),[(6,some 8)],⟨by rfl,?_,?_⟩,by simp only;omega,by simp only;omega⟩
   ·simp
   ·simp[aA,hsn,aV pl _ _ rfl]
  ·have e:=Kg nL l F.fin k (by omega)
   rw[e]at hpp
   clear hsn
   rw[hpp]
   have hpl:pl.length<=2000000:=by omega
   (conv=>whnf)
   refine aJ (fun x:Nat×Nat=>⟨[(0,.c (.ptr 2 0)),(4,.c (.ptr 5 0)),(6,.i 0),(7,.i st),(43,.c (.sl 1 5 0 F.arcs.length F.capA)),(44,.i F.arcs.length),(45,.i x.1)],
    [(1,.arr false 55 .arc F.arcs 0),(2,.box 132 (dJ st 6 7 pl (sL st ar F.arcs x.1) p x.2)),(5,.box 25 (aA F)),(6,.arr true 3 .int pl p),(7,.arr true 55 .arc (sL st ar F.arcs x.1) x.2)],8⟩)
    (fun x=>x.1<=F.arcs.length) (fun x=>F.arcs.length-x.1) (0,sq) [(7,some 4)] ⟨by rfl,?_,?_⟩ (Nat.zero_le _) ?_
   ·simp
   ·simp[aA,Et]
   ·clear hln
    clear e0 e hk
    rintro⟨k,q⟩ hk
    simp only at hk⊢
    have hln:=Lj st ar F.arcs k hk
    have hsn:=Eu st ar F.arcs k
    generalize hpq:sL st ar F.arcs k=al at hsn hln⊢
    have e0:0+(k:Int).toNat=k:=by omega
    (conv=>whnf)
    refine aG (fun hk2=>?_) (fun hk2=>?_)
    ·have hx:=hF.arc _ (aB F.arcs k EK.arc.dflt (by omega))
     rw[<-e0]at hx
     have f0:=hx.f0
     have f1:=hx.f1
     have t0:=hx.t0
     have t1:=hx.t1
     replace hsn:=hsn (by omega)
     have hT:shA st (F.arcs.getD k aD)=⟨(F.arcs.getD (0+(k:Int).toNat) EK.arc.dflt).f+st,(F.arcs.getD (0+(k:Int).toNat) EK.arc.dflt).i,(F.arcs.getD (0+(k:Int).toNat) EK.arc.dflt).o,(F.arcs.getD (0+(k:Int).toNat) EK.arc.dflt).t+st,(F.arcs.getD (0+(k:Int).toNat) EK.arc.dflt).w⟩:=by rw[e0];rfl
     rw[hT]at hsn
     refine gI fun _=>?_
     rename_i q2
     refine⟨(k+1,q2),[(7,some 10)],⟨by rfl,?_,?_⟩,by simp only;omega,by simp only;omega⟩
     ·simp
     ·simp[aA,hsn,aV al _ _ rfl]
    ·have e:=Lk st ar F.arcs k (by omega)
     rw[e]at hpq
     clear hsn
     refine gI ?_
     rw[hpq]
     exact⟨[(5,some 6),(6,some 7)],[(2,.box 132 (dJ (st+F.st) 5 6 pl al p q)),(5,.arr true 3 .int pl p),(6,.arr true 55 .arc al q)],7,.i st,⟨by rfl,trivial,by simp⟩,by simp,p,q,rfl,rfl⟩
theorem Hw (F:TF) (hF:FOk F) (st:Int) (l:List Int) (ar:List Arc) (sp sq:Nat) (hst:0<=st/\st<=1000) (hl:l.length<=1000000) (hr:ar.length<=1000000):
  Ct Tryz.prog 53 [.c (.ptr 2 0),fV F,.c (.fn 57 [])] [] ((2,.box 132 (dJ st 3 4 l ar sp sq))::(3,.arr true 3 .int l sp)::(4,.arr true 55 .arc ar sq)::hpF F) 5
  (fun v s=> ∃p q,v= .i st/\s=⟨[],[(2,.box 132 (dJ (st+F.st) 5 6 (l++F.fin.map dL) (ar++F.arcs.map (shA st)) p q)),(5,.arr true 3 .int (l++F.fin.map dL) p),(6,.arr true 55 .arc (ar++F.arcs.map (shA st)) q)],7⟩):=by
 have hfl:=hF.finl
 have hal:=hF.arcl
 have hfs:=hF.st
 refine ctW Tryz.tyOk 12 [18,19,20,43,44,45] Tryz.func53 rfl (by simp) (by simp) (fr:= [(0,.c (.ptr 2 0)),(1,fV F),(2,.c (.fn 57 []))]) rfl ?_
 refine gO ?_
 refine aJ (fun x:Nat×Nat=>⟨[(0,.c (.ptr 2 0)),(2,.c (.fn 57 [])),(4,.c (.ptr 5 0)),(6,.i 0),(7,.i st),(18,.c (.sl 0 1 0 F.fin.length F.capF)),(19,.i F.fin.length),(20,.i x.1)],
  [(0,.arr false 3 .int F.fin 0),(1,.arr false 55 .arc F.arcs 0),(2,.box 132 (dJ st 6 4 (sB dL l F.fin x.1) ar x.2 sq)),(4,.arr true 55 .arc ar sq),(5,.box 25 (aA F)),(6,.arr true 3 .int (sB dL l F.fin x.1) x.2)],7⟩)
  (fun x=>x.1<=F.fin.length) (fun x=>F.fin.length-x.1) (0,sp) [(6,some 3)] ⟨by rfl,?_,?_⟩ (Nat.zero_le _) ?_
 ·simp
 ·simp[aA,Eb]
 ·rintro⟨k,p⟩ hk
  simp only at hk⊢
  have hln:=Kf dL l F.fin k hk
  have hsn:=Ed dL l F.fin k
  generalize hpp:sB dL l F.fin k=pl at hsn hln⊢
  have e0:0+(k:Int).toNat=k:=by omega
  refine gI ?_
  refine⟨fun h=>⟨fun h=>?_,fun h _=>?_⟩,fun h=>?_⟩
  ·refine cF (aCY (F.fin.getD (0+(k:Int).toNat) EK.int.dflt)) [] Tryz.call57 ?_
   rintro _ _ ⟨rfl,rfl⟩
   refine gI fun _=>?_
   rename_i q
   replace hsn:=hsn (by omega)
   have hT:dL (F.fin.getD k 0)= -1:=rfl
   rw[hT]at hsn
   refine⟨(k+1,q),[(6,some 8)],⟨by rfl,?_,?_⟩,by simp only;omega,by simp only;omega⟩
   ·simp
   ·simp[aA,hsn,aV pl _ _ rfl]
  ·rename_i q
   replace hsn:=hsn (by omega)
   have hT:dL (F.fin.getD k 0)=F.fin.getD (0+(k:Int).toNat) EK.int.dflt:=by first|(rw[e0];rfl)|(rw[h];rfl)
   rw[hT]at hsn
   refine⟨(k+1,q),[(6,some 8)],⟨by rfl,?_,?_⟩,by simp only;omega,by simp only;omega⟩
   ·simp
   ·simp[aA,hsn,aV pl _ _ rfl]
  ·have e:=Kg dL l F.fin k (by omega)
   rw[e]at hpp
   clear hsn
   rw[hpp]
   have hpl:pl.length<=2000000:=by omega
   (conv=>whnf)
   refine aJ (fun x:Nat×Nat=>⟨[(0,.c (.ptr 2 0)),(4,.c (.ptr 5 0)),(6,.i 0),(7,.i st),(43,.c (.sl 1 5 0 F.arcs.length F.capA)),(44,.i F.arcs.length),(45,.i x.1)],
    [(1,.arr false 55 .arc F.arcs 0),(2,.box 132 (dJ st 6 7 pl (sL st ar F.arcs x.1) p x.2)),(5,.box 25 (aA F)),(6,.arr true 3 .int pl p),(7,.arr true 55 .arc (sL st ar F.arcs x.1) x.2)],8⟩)
    (fun x=>x.1<=F.arcs.length) (fun x=>F.arcs.length-x.1) (0,sq) [(7,some 4)] ⟨by rfl,?_,?_⟩ (Nat.zero_le _) ?_
   ·simp
   ·simp[aA,Et]
   ·clear hln
    clear e0 e hk
    rintro⟨k,q⟩ hk
    simp only at hk⊢
    have hln:=Lj st ar F.arcs k hk
    have hsn:=Eu st ar F.arcs k
    generalize hpq:sL st ar F.arcs k=al at hsn hln⊢
    have e0:0+(k:Int).toNat=k:=by omega
    (conv=>whnf)
    refine aG (fun hk2=>?_) (fun hk2=>?_)
    ·have hx:=hF.arc _ (aB F.arcs k EK.arc.dflt (by omega))
     rw[<-e0]at hx
     have f0:=hx.f0
     have f1:=hx.f1
     have t0:=hx.t0
     have t1:=hx.t1
     replace hsn:=hsn (by omega)
     have hT:shA st (F.arcs.getD k aD)=⟨(F.arcs.getD (0+(k:Int).toNat) EK.arc.dflt).f+st,(F.arcs.getD (0+(k:Int).toNat) EK.arc.dflt).i,(F.arcs.getD (0+(k:Int).toNat) EK.arc.dflt).o,(F.arcs.getD (0+(k:Int).toNat) EK.arc.dflt).t+st,(F.arcs.getD (0+(k:Int).toNat) EK.arc.dflt).w⟩:=by rw[e0];rfl
     rw[hT]at hsn
     refine gI fun _=>?_
     rename_i q2
     refine⟨(k+1,q2),[(7,some 10)],⟨by rfl,?_,?_⟩,by simp only;omega,by simp only;omega⟩
     ·simp
     ·simp[aA,hsn,aV al _ _ rfl]
    ·have e:=Lk st ar F.arcs k (by omega)
     rw[e]at hpq
     clear hsn
     refine gI ?_
     rw[hpq]
     exact⟨[(5,some 6),(6,some 7)],[(2,.box 132 (dJ (st+F.st) 5 6 pl al p q)),(5,.arr true 3 .int pl p),(6,.arr true 55 .arc al q)],7,.i st,⟨by rfl,trivial,by simp⟩,by simp,p,q,rfl,rfl⟩
abbrev hp2 (F G:TF):List (Nat×SO):= [(0,.arr false 3 .int F.fin 0),(1,.arr false 55 .arc F.arcs 0),(2,.arr false 3 .int G.fin 0),(3,.arr false 55 .arc G.arcs 0)]
abbrev two (F G:TF):List SC:= [.i F.st,.i F.start,.sl 0 1 0 F.fin.length F.capF,.sl 1 5 0 F.arcs.length F.capA,.i G.st,.i G.start,.sl 2 1 0 G.fin.length G.capF,.sl 3 5 0 G.arcs.length G.capA]
def mJ (F G:TF):Int:=if aL F=0 then aL G else aL F
theorem Pa (F G:TF) (hF:F.fin.length<=9223372036854775807) (hG:G.fin.length<=9223372036854775807):Ct Tryz.prog 59 [.c (.sl 4 4 0 2 2)] [] ((4,.box 25 (two F G))::hp2 F G) 5
  (fun v s=>v= .i (mJ F G)/\s=⟨[],[(4,.box 25 (two F G))],5⟩):=by
 refine ctW Tryz.tyOk 6 [6,7,8] Tryz.func59 rfl (by simp) (by simp) (fr:= [(0,.c (.sl 4 4 0 2 2))]) rfl ?_
 refine gO ?_
 refine aJ (fun k:Nat=>⟨[(0,.c (.sl 4 4 0 2 2)),(2,.i 0),(6,.c (.sl 4 4 0 2 2)),(7,.i 2),(8,.i k)],(4,.box 25 (two F G))::hp2 F G,5⟩)
  (fun k=>k<=2/\(1<=k->aL F=0)/\(2<=k->aL G=0)) (fun k=>2-k) 0 [] ⟨by rfl,?_,?_⟩ ⟨by omega,by omega,by omega⟩ ?_
 ·simp
 ·simp
 ·rintro k ⟨hk,h1,h2⟩
  rcases(by omega:k=0\/k=1\/k=2)with rfl|rfl|rfl
  ·refine gI ?_
   refine cF (aU F hF) [0,1] Tryz.call35 ?_
   rintro _ _ ⟨rfl,rfl⟩
   refine gI ?_
   refine⟨fun h=>?_,fun h=>?_⟩
   ·refine⟨[],[(4,.box 25 (two F G))],5,.i (mJ F G),⟨by rfl,trivial,by simp⟩,?_,rfl,rfl⟩
    simp[mJ,h]
   ·(conv=>whnf)
    refine⟨1,[],⟨by rfl,?_,?_⟩,⟨by omega,fun _=>h,fun _=>absurd ‹_› (by omega)⟩,by omega⟩
    ·simp
    ·simp
  ·have g1:=h1 (by omega)
   refine gI ?_
   refine cF (aU G hG) [2,3] Tryz.call35 ?_
   rintro _ _ ⟨rfl,rfl⟩
   refine gI ?_
   refine⟨fun h=>?_,fun h=>?_⟩
   ·refine⟨[],[(4,.box 25 (two F G))],5,.i (mJ F G),⟨by rfl,trivial,by simp⟩,?_,rfl,rfl⟩
    simp[mJ,g1,h]
   ·(conv=>whnf)
    refine⟨2,[],⟨by rfl,?_,?_⟩,⟨by omega,fun _=>g1,fun _=>h⟩,by omega⟩
    ·simp
    ·simp
  ·have g1:=h1 (by omega)
   have g2:=h2 (by omega)
   refine gI ?_
   refine⟨[],[(4,.box 25 (two F G))],5,.i (mJ F G),⟨by rfl,trivial,by simp⟩,?_,rfl,rfl⟩
   simp[mJ,g1,g2]
theorem aDi (F:TF) (hF:F.fin.length<=9223372036854775807):Ct Tryz.prog 59 [.c (.sl 2 4 0 1 1)] [] ((2,.box 25 (onF F))::hpF F) 3
  (fun v s=>v= .i (aL F)/\s=⟨[],[(2,.box 25 (onF F))],3⟩):=by
 refine ctW Tryz.tyOk 6 [6,7,8] Tryz.func59 rfl (by simp) (by simp) (fr:= [(0,.c (.sl 2 4 0 1 1))]) rfl ?_
 refine gO ?_
 refine aJ (fun k:Nat=>⟨[(0,.c (.sl 2 4 0 1 1)),(2,.i 0),(6,.c (.sl 2 4 0 1 1)),(7,.i 1),(8,.i k)],(2,.box 25 (onF F))::hpF F,3⟩)
  (fun k=>k<=1/\(1<=k->aL F=0)) (fun k=>1-k) 0 [] ⟨by rfl,?_,?_⟩ ⟨by omega,by omega⟩ ?_
 ·simp
 ·simp
 ·rintro k ⟨hk,h1⟩
  rcases(by omega:k=0\/k=1)with rfl|rfl
  ·refine gI ?_
   refine cF (aU F hF) [0,1] Tryz.call35 ?_
   rintro _ _ ⟨rfl,rfl⟩
   refine gI ?_
   refine⟨fun h=>?_,fun h=>?_⟩
   ·refine⟨[],[(2,.box 25 (onF F))],3,.i (aL F),⟨by rfl,trivial,by simp⟩,?_,rfl,rfl⟩
    simp[mJ,h]
   ·(conv=>whnf)
    refine⟨1,[],⟨by rfl,?_,?_⟩,⟨by omega,fun _=>h⟩,by omega⟩
    ·simp
    ·simp
  ·have g1:=h1 (by omega)
   refine gI ?_
   refine⟨[],[(2,.box 25 (onF F))],3,.i (aL F),⟨by rfl,trivial,by simp⟩,?_,rfl,rfl⟩
   simp[mJ,g1]
def gS (e st ar:Int):Int:=if e≠0 then e else if 198<st\/2500<ar then 2 else 0
theorem nE {F G:TF} (h:mJ F G=0):aL F=0/\aL G=0:=by
 unfold mJ at h
 split at h
 ·exact⟨by assumption,h⟩
 ·exact absurd h (by assumption)
theorem tE (F G:TF) (hF:F.fin.length<=9223372036854775807) (hG:G.fin.length<=9223372036854775807):Ct Tryz.prog 51 [.c (.sl 4 4 0 2 2)] [] ((4,.box 25 (two F G))::hp2 F G) 5 (Is 5 (.i (gS (mJ F G) (F.st+G.st) ((F.arcs.length:Int)+(G.arcs.length:Int))))):=by
 refine ctW Tryz.tyOk 8 [13,14,15] Tryz.func51 rfl (by simp) (by simp) (fr:= [(0,.c (.sl 4 4 0 2 2))]) rfl ?_
 refine gO ?_
 refine cF (Pa F G hF hG) [0,1,2,3,4] Tryz.call59 ?_
 rintro _ _ ⟨rfl,rfl⟩
 refine gI ?_
 refine⟨fun h=>?_,fun h=>?_⟩
 ·refine aQ.is ?_
  simp[gS,h]
 ·obtain⟨hF0,hG0⟩:=nE h
  have Fst:=(aK hF0).st
  have Fal:=(aK hF0).arcl
  have Gst:=(aK hG0).st
  have Gal:=(aK hG0).arcl
  (conv=>whnf)
  refine aJ (fun x:Nat×Int×Int=>⟨[(0,.c (.sl 4 4 0 2 2)),(2,.i 0),(4,.i x.2.1),(5,.i x.2.2),(13,.c (.sl 4 4 0 2 2)),(14,.i 2),(15,.i x.1)],(4,.box 25 (two F G))::hp2 F G,5⟩)
   (fun x=>x.1<=2/\(x.1=0->x.2.1=0/\x.2.2=0)/\(x.1=1->x.2.1=F.st/\x.2.2=(F.arcs.length:Int))/\(x.1=2->x.2.1=F.st+G.st/\x.2.2=(F.arcs.length:Int)+(G.arcs.length:Int))) (fun x=>2-x.1) (0,0,0) [] ⟨by rfl,?_,?_⟩ (by simp) ?_
  ·simp
  ·simp
  ·rintro⟨k,u,w⟩ ⟨hk,h0,h1,h2⟩
   simp only at hk h0 h1 h2⊢
   rcases(by omega:k=0\/k=1\/k=2)with rfl|rfl|rfl
   ·obtain⟨rfl,rfl⟩:=h0 rfl
    refine gI ?_
    refine⟨(1,F.st,(F.arcs.length:Int)),[],⟨by rfl,?_,?_⟩,by simp,by simp⟩
    ·simp
    ·simp
   ·obtain⟨rfl,rfl⟩:=h1 rfl
    refine gI ?_
    refine⟨(2,F.st+G.st,(F.arcs.length:Int)+(G.arcs.length:Int)),[],⟨by rfl,?_,?_⟩,by simp,by simp⟩
    ·simp
    ·simp
   ·obtain⟨rfl,rfl⟩:=h2 rfl
    refine gI ?_
    refine⟨fun h=>?_,fun h=>⟨fun h=>?_,fun h=>?_⟩⟩
    all_goals
     (conv=>whnf)
     refine aQ.is ?_
     simp[gS]
     omega
theorem Ir (F:TF) (hF:F.fin.length<=9223372036854775807):Ct Tryz.prog 51 [.c (.sl 2 4 0 1 1)] [] ((2,.box 25 (onF F))::hpF F) 3 (Is 3 (.i (gS (aL F) (F.st) ((F.arcs.length:Int))))):=by
 refine ctW Tryz.tyOk 8 [13,14,15] Tryz.func51 rfl (by simp) (by simp) (fr:= [(0,.c (.sl 2 4 0 1 1))]) rfl ?_
 refine gO ?_
 refine cF (aDi F hF) [0,1,2] Tryz.call59 ?_
 rintro _ _ ⟨rfl,rfl⟩
 refine gI ?_
 refine⟨fun h=>?_,fun h=>?_⟩
 ·refine aQ.is ?_
  simp[gS,h]
 ·have hF0:=h
  have Fst:=(aK hF0).st
  have Fal:=(aK hF0).arcl
  (conv=>whnf)
  refine aJ (fun x:Nat×Int×Int=>⟨[(0,.c (.sl 2 4 0 1 1)),(2,.i 0),(4,.i x.2.1),(5,.i x.2.2),(13,.c (.sl 2 4 0 1 1)),(14,.i 1),(15,.i x.1)],(2,.box 25 (onF F))::hpF F,3⟩)
   (fun x=>x.1<=1/\(x.1=0->x.2.1=0/\x.2.2=0)/\(x.1=1->x.2.1=F.st/\x.2.2=(F.arcs.length:Int))) (fun x=>1-x.1) (0,0,0) [] ⟨by rfl,?_,?_⟩ (by simp) ?_
  ·simp
  ·simp
  ·rintro⟨k,u,w⟩ ⟨hk,h0,h1⟩
   simp only at hk h0 h1⊢
   rcases(by omega:k=0\/k=1)with rfl|rfl
   ·obtain⟨rfl,rfl⟩:=h0 rfl
    refine gI ?_
    refine⟨(1,F.st,(F.arcs.length:Int)),[],⟨by rfl,?_,?_⟩,by simp,by simp⟩
    ·simp
    ·simp
   ·obtain⟨rfl,rfl⟩:=h1 rfl
    refine gI ?_
    refine⟨fun h=>?_,fun h=>⟨fun h=>?_,fun h=>?_⟩⟩
    all_goals
     (conv=>whnf)
     refine aQ.is ?_
     simp[gS]
     omega
abbrev fF (F G:TF):Int:=gS (mJ F G) (F.st+G.st) ((F.arcs.length:Int)+(G.arcs.length:Int))
theorem jS {e st ar:Int} (h:gS e st ar=0):e=0/\st<=198/\ar<=2500:=by
 unfold gS at h
 split at h
 ·exact absurd h (by assumption)
 ·split at h
  ·cases h
  ·omega
theorem zM (l:List Int):l.map nL=l:=by
 have:nL=id:=rfl
 rw[this,List.map_id]
def pT (st:Int) (fin:List Int) (raw:List Arc) (n:Nat) (v:SV) (s:S):Prop:= ∃zs sp sq,v= .tup [.agg [.i st,.i 0,.sl n 1 0 fin.length (fin.length+sp),.sl (n+1) 5 0 zs.length (zs.length+sq)],.c (.i 0)]/\s=⟨[],[(n,.arr true 3 .int fin sp),(n+1,.arr true 55 .arc zs sq)],n+2⟩/\bG raw zs
theorem Vf (F G:TF) (hF:F.fin.length<=9223372036854775807) (hG:G.fin.length<=9223372036854775807) (h:fF F G≠0):Ct Tryz.prog 17 [fV F,gV G] [] (hpG F G) 4 (Is 4 (noT (fF F G))):=by
 refine ctW Tryz.tyOk 11 [22,23,24] Tryz.func17 rfl (by simp[gV]) (by simp) (fr:= [(0,fV F),(1,gV G)]) rfl ?_
 refine gO ?_
 refine aO (tE F G hF hG) [0,1,2,3,7] Tryz.call51 rfl (by simp[gV,two]) (by simp[gV,two]) (by simp) ?_
 rintro _ _ ⟨rfl,rfl⟩
 refine gO fun h=>?_
 refine aQ.is ?_
 simp
theorem qJ (F G:TF) (hF:F.fin.length<=9223372036854775807) (hG:G.fin.length<=9223372036854775807) (h:fF F G=0):Ct Tryz.prog 17 [fV F,gV G] [] (hpG F G) 4 (pT (1+F.st+G.st) (-1::(F.fin++G.fin)) (bR F G) 4):=by
 have hr:=jS h
 have hFG:=nE hr.1
 have oF:=aK hFG.1
 have oG:=aK hFG.2
 have f1:=oF.st
 have f2:=oF.finl
 have f3:=oF.start
 have f4:=oF.arcl
 have g1:=oG.st
 have g2:=oG.finl
 have g3:=oG.start
 have g4:=oG.arcl
 refine ctW Tryz.tyOk 11 [22,23,24] Tryz.func17 rfl (by simp[gV]) (by simp) (fr:= [(0,fV F),(1,gV G)]) rfl ?_
 refine gO ?_
 refine aO (tE F G hF hG) [0,1,2,3,7] Tryz.call51 rfl (by simp[gV,two]) (by simp[gV,two]) (by simp) ?_
 rintro _ _ ⟨rfl,rfl⟩
 rw[show gS (mJ F G) (F.st+G.st) ((F.arcs.length:Int)+(G.arcs.length:Int))=0 from h]
 refine gO ?_
 refine cF (Hj (-1)) [] Tryz.call52 ?_
 rintro _ _ ⟨rfl,rfl⟩
 refine gO ?_
 refine aJ (fun x:Nat×Int×List Int×List Arc×Nat×Nat=>⟨[(4,.c (.ptr 6 0)),(5,.i 0),(7,.c (.ptr 8 0)),(22,.c (.sl 11 4 0 2 2)),(23,.i 2),(24,.i x.1)],
   [(0,.arr false 3 .int F.fin 0),(1,.arr false 55 .arc F.arcs 0),(2,.arr false 3 .int G.fin 0),(3,.arr false 55 .arc G.arcs 0),(6,.box 25 [.i 0,.i 0,.v (.slice none 0 0),.v (.slice none 0 0)]),(8,.box 132 (dJ x.2.1 9 10 x.2.2.1 x.2.2.2.1 x.2.2.2.2.1 x.2.2.2.2.2)),(9,.arr true 3 .int x.2.2.1 x.2.2.2.2.1),(10,.arr true 55 .arc x.2.2.2.1 x.2.2.2.2.2),(11,.box 25 (two F G))],12⟩)
  (fun x=>x.1<=2/\(x.1=0->x.2.1=1/\x.2.2.1=[-1]/\x.2.2.2.1=[])/\(x.1=1->x.2.1=1+F.st/\x.2.2.1= -1::F.fin/\x.2.2.2.1=F.arcs.map (shA 1)++[cK 0 (1+F.start) 0])/\(x.1=2->x.2.1=1+F.st+G.st/\x.2.2.1= -1::(F.fin++G.fin)/\x.2.2.2.1=bR F G))
  (fun x=>2-x.1) (0,1,[-1],[],0,0) [] ⟨by rfl,?_,?_⟩ ⟨by simp,by simp,by simp,by simp⟩ ?_
 ·simp
 ·simp[two,gV]
 ·rintro⟨k,st,l,ar,sp,sq⟩ ⟨hk,h0,h1,h2⟩
  simp only at hk h0 h1 h2⊢
  rcases(by omega:k=0\/k=1\/k=2)with rfl|rfl|rfl
  ·obtain⟨rfl,rfl,rfl⟩:=h0 rfl
   refine gI ?_
   refine cF (yF F oF 1 [-1] [] sp sq (by omega) (by simp) (by simp)) [0,1,8,9,10] Tryz.call53 ?_
   rintro _ _ ⟨p,q,rfl,rfl⟩
   rw[zM]
   refine gI ?_
   have z1:(([]:List Arc)++F.arcs.map (shA 1)).length<=1000000:=by simp;omega
   refine cF (lT (1+F.st) ([-1]++F.fin) ([]++F.arcs.map (shA 1)) p q 0 (1+F.start) 0 z1) [8,13,14] Tryz.call55 ?_
   rintro _ _ ⟨q2,rfl,rfl⟩
   refine gI ?_
   refine⟨(1,1+F.st,-1::F.fin,F.arcs.map (shA 1)++[cK 0 (1+F.start) 0],p,q2),[(9,some 13),(10,some 15)],⟨by rfl,?_,?_⟩,⟨by simp,by simp,by simp,by simp⟩,by simp⟩
   ·simp
   ·simp
  ·obtain⟨rfl,rfl,rfl⟩:=h1 rfl
   refine gI ?_
   have z1:(-1::F.fin).length<=1000000:=by simp;omega
   have z2:(F.arcs.map (shA 1)++[cK 0 (1+F.start) 0]).length<=1000000:=by simp;omega
   refine cF (yF G oG (1+F.st) (-1::F.fin) (F.arcs.map (shA 1)++[cK 0 (1+F.start) 0]) sp sq (by omega) z1 z2) [2,3,8,9,10] Tryz.call53 ?_
   rintro _ _ ⟨p,q,rfl,rfl⟩
   rw[zM]
   refine gI ?_
   have z3:(F.arcs.map (shA 1)++[cK 0 (1+F.start) 0]++G.arcs.map (shA (1+F.st))).length<=1000000:=by simp;omega
   refine cF (lT (1+F.st+G.st) ((-1::F.fin)++G.fin) (F.arcs.map (shA 1)++[cK 0 (1+F.start) 0]++G.arcs.map (shA (1+F.st))) p q 0 (1+F.st+G.start) 0 z3) [8,13,14] Tryz.call55 ?_
   rintro _ _ ⟨q2,rfl,rfl⟩
   refine gI ?_
   refine⟨(2,1+F.st+G.st,-1::(F.fin++G.fin),bR F G,p,q2),[(9,some 13),(10,some 15)],⟨by rfl,?_,?_⟩,⟨by simp,by simp,by simp,by simp⟩,by simp⟩
   ·simp
   ·simp[bR]
  ·obtain⟨rfl,rfl,rfl⟩:=h2 rfl
   refine gI ?_
   have z1:(bR F G).length<=1000000:=by simp[bR];omega
   refine cF (Oe (1+F.st+G.st) (-1::(F.fin++G.fin)) (bR F G) sp sq z1) [8,9,10] Tryz.call56 ?_
   rintro _ _ ⟨zs,sq',rfl,rfl,hz⟩
   refine gI ?_
   refine⟨[(4,some 9),(5,some 10)],[(4,.arr true 3 .int (-1::(F.fin++G.fin)) sp),(5,.arr true 55 .arc zs sq')],6,.tup [.agg [.i (1+F.st+G.st),.i 0,.sl 4 1 0 (-1::(F.fin++G.fin)).length ((-1::(F.fin++G.fin)).length+sp),.sl 5 5 0 zs.length (zs.length+sq')],.c (.i 0)],⟨by rfl,trivial,by simp⟩,by simp,zs,sp,sq',rfl,rfl,hz⟩
end Go.Fw
