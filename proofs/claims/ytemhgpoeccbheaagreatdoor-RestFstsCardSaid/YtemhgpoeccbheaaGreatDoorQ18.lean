/-
  What is composed: when it may be too great, and what it costs.
-/
import Derived.Test.YtemhgpoeccbheaaGreatDoorQ08
import Derived.Test.YtemhgpoeccbheaaGreatDoorQ17
import Derived.Test.YtemhgpoeccbheaaGreatDoorQ05
import Derived.Test.YtemhgpoeccbheaaGreatDoorQ07
import Derived.Test.YtemhgpoeccbheaaGreatDoorQ13
import Derived.Test.YtemhgpoeccbheaaGreatDoorQ14
import Derived.Test.YtemhgpoeccbheaaGreatDoorQ16
import Derived.Test.YtemhgpoeccbheaaGreatDoorQ15
import Derived.Test.YtemhgpoeccbheaaGreatDoorQ09
import Derived.Test.YtemhgpoeccbheaaGreatDoorQ12
import Derived.Lib.ItoaLen
set_option linter.unusedSimpArgs false
set_option linter.unusedVariables false
set_option maxRecDepth 100000
set_option maxHeartbeats 16000000
namespace Go.Fw
open Go Go.Proofs
theorem aAj (F:TF):Ct Tryz.prog 58 [fV F] [] (hpF F) 2 (fun v s=>v= .c (.fn 101 [(2,0)])/\s=⟨[],[(2,.box 25 (onF F))],3⟩):=by
 refine ctW Tryz.tyOk 3 [] Tryz.func58 rfl (by simp) (by simp) (fr:= [(0,fV F)]) rfl ?_
 refine gO ?_
 refine⟨[],[(2,.box 25 (onF F))],3,.c (.fn 101 [(2,0)]),⟨by rfl,trivial,by simp⟩,by simp,rfl,rfl⟩
theorem Vr (F G:TF) (hF:F.fin.length<=9223372036854775807) (hG:G.fin.length<=9223372036854775807) (h:fF F G≠0):Ct Tryz.prog 18 [fV F,gV G] [] (hpG F G) 4 (Is 4 (noT (fF F G))):=by
 refine ctW Tryz.tyOk 12 [35,36] Tryz.func18 rfl (by simp[gV]) (by simp) (fr:= [(0,fV F),(1,gV G)]) rfl ?_
 refine gO ?_
 refine aO (tE F G hF hG) [0,1,2,3,7] Tryz.call51 rfl (by simp[gV,two]) (by simp[gV,two]) (by simp) ?_
 rintro _ _ ⟨rfl,rfl⟩
 refine gO fun h=>?_
 refine aQ.is ?_
 simp
def eV (F G:TF):List Arc:=F.arcs.map (shA 1)++G.arcs.map (shA (1+F.st))++[cK 0 (1+F.start) 0]
def dA (F G:TF):List Int:= -1::(F.fin.map dL++G.fin)
theorem qN (F G:TF) (hF:F.fin.length<=9223372036854775807) (hG:G.fin.length<=9223372036854775807) (h:fF F G=0):Ct Tryz.prog 18 [fV F,gV G] [] (hpG F G) 4 (pT (1+F.st+G.st) (dA F G) (dP F G) 4):=by
 have hr:=jS h
 have hFG:=nE hr.1
 have oF:=aK hFG.1
 have oG:=aK hFG.2
 have f1:=oF.st
 have f2:=oF.finl
 have f3:=oF.start
 have f4:=oF.arcl
 have g1:=oG.st
 have g2:=oG.finl
 have g3:=oG.start
 have g4:=oG.arcl
 have hBl:(eV F G).length<=10000:=by simp[eV];omega
 refine aDR Tryz.tyOk Tryz.func18 rfl (by simp[gV]) (by simp) (fr:= [(0,fV F),(1,gV G)]) rfl 12 [34] 6
  (fun x:Nat×Nat=>⟨[(3,.c (.ptr 5 0)),(4,.c (.ptr 6 0)),(7,.c (.ptr 10 0)),(8,.c (.ptr 11 0)),(9,.c (.ptr 12 0)),(34,.c (.fn 101 [(4,0)]))],
   [(0,.arr false 3 .int F.fin 0),(1,.arr false 55 .arc F.arcs 0),(2,.arr false 3 .int G.fin 0),(3,.arr false 55 .arc G.arcs 0),(4,.box 25 (onF F)),(5,.box 25 [.i G.st,.i G.start,.sl 2 1 0 G.fin.length G.capF,.sl 3 5 0 G.arcs.length G.capA]),(6,.box 25 [.i 0,.i 0,.v (.slice none 0 0),.v (.slice none 0 0)]),
     (7,.box 132 (dJ (1+F.st+G.st) 8 9 (dA F G) (eV F G) x.1 x.2)),(8,.arr true 3 .int (dA F G) x.1),(9,.arr true 55 .arc (eV F G) x.2),(10,.box 66 [.ptr 7 0]),(11,.box 3 [.i 1]),(12,.box 3 [.i (1+F.st)])],13⟩)
  (fun _=>True) rfl Tryz.func101 rfl Tryz.call101 (fun _=>rfl) (by decide) (by simp) 5 [6,7,8] ?_ ?_
 ·refine gO ?_
  refine aO (tE F G hF hG) [0,1,2,3,7] Tryz.call51 rfl (by simp[gV,two]) (by simp[gV,two]) (by simp) ?_
  rintro _ _ ⟨rfl,rfl⟩
  rw[show gS (mJ F G) (F.st+G.st) ((F.arcs.length:Int)+(G.arcs.length:Int))=0 from h]
  refine gI ?_
  refine cF (Hj (-1)) [] Tryz.call52 ?_
  rintro _ _ ⟨rfl,rfl⟩
  refine gI ?_
  refine cF (Hw F oF 1 [-1] [] 0 0 (by omega) (by simp) (by simp)) [0,1,8,9,10] Tryz.call53 ?_
  rintro _ _ ⟨p,q,rfl,rfl⟩
  have z1:([-1]++F.fin.map dL).length<=1000000:=by simp;omega
  have z2:(([]:List Arc)++F.arcs.map (shA 1)).length<=1000000:=by simp;omega
  refine gI ?_
  refine aO (yF G oG (1+F.st) ([-1]++F.fin.map dL) ([]++F.arcs.map (shA 1)) p q (by omega) z1 z2) [2,3,8,12,13] Tryz.call53 rfl (by simp[gV]) (by simp[gV]) (by simp) ?_
  rintro _ _ ⟨p2,q2,rfl,rfl⟩
  rw[zM]
  have z3:(([]:List Arc)++F.arcs.map (shA 1)++G.arcs.map (shA (1+F.st))).length<=1000000:=by simp;omega
  refine gI ?_
  refine cF (lT (1+F.st+G.st) ([-1]++F.fin.map dL++G.fin) ([]++F.arcs.map (shA 1)++G.arcs.map (shA (1+F.st))) p2 q2 0 (1+F.start) 0 z3) [8,15,16] Tryz.call55 ?_
  rintro _ _ ⟨q3,rfl,rfl⟩
  refine gI ?_
  refine cF (aAj F) [0,1] Tryz.call58 ?_
  rintro _ _ ⟨rfl,rfl⟩
  refine gI ?_
  refine⟨(p2,q3),[(4,some 19),(7,some 8),(8,some 15),(9,some 18),(10,some 11),(11,some 14),(12,some 17)],⟨by rfl,?_,?_⟩,trivial⟩
  ·simp
  ·simp[gV,dA,eV]
 ·rintro⟨sp,sq⟩ _ l D r β1 hrec
  dsimp only at hrec⊢
  refine gI ?_
  refine aJ (fun y:Nat×Nat=>⟨[(0,.c (.v (.func (.yield l) #[] #[]))),(1,.c (.ptr 4 0)),(6,.c (.sl 0 1 0 F.fin.length F.capF)),(7,.i F.fin.length),(8,.i y.1)],
   [(0,.arr false 3 .int F.fin 0),(1,.arr false 55 .arc F.arcs 0),(2,.arr false 3 .int G.fin 0),(3,.arr false 55 .arc G.arcs 0),(4,.box 25 (onF F)),(5,.box 25 [.i G.st,.i G.start,.sl 2 1 0 G.fin.length G.capF,.sl 3 5 0 G.arcs.length G.capA]),(6,.box 25 [.i 0,.i 0,.v (.slice none 0 0),.v (.slice none 0 0)]),
     (7,.box 132 (dJ (1+F.st+G.st) 8 15 (dA F G) (eV F G++cM 1 (1+F.st+G.start) F.fin y.1) sp y.2)),(8,.arr true 3 .int (dA F G) sp),(15,.arr true 55 .arc (eV F G++cM 1 (1+F.st+G.start) F.fin y.1) y.2),(10,.box 66 [.ptr 7 0]),(11,.box 3 [.i 1]),(12,.box 3 [.i (1+F.st)]),(14,cU l r),(13,jF D)],16⟩)
   (fun y=>y.1<=F.fin.length) (fun y=>F.fin.length-y.1) (0,sq) [(15,some 9)] ⟨by rfl,?_,?_⟩ (Nat.zero_le _) ?_
  ·simp
  ·simp[cM,cU,jF]
  ·rintro⟨k,q⟩ hk
   simp only at hk⊢
   have hel:=gY 1 (1+F.st+G.start) F.fin k
   have hes:cM 1 (1+F.st+G.start) F.fin (k+1)=cM 1 (1+F.st+G.start) F.fin k++(if F.fin.getD k 0= -1 then []else [cK (1+k) (1+F.st+G.start) (F.fin.getD k 0)]):=rfl
   have hel2:(eV F G++cM 1 (1+F.st+G.start) F.fin k).length<=20000:=by simp;omega
   have e0:0+(k:Int).toNat=k:=by omega
   refine gI ?_
   refine⟨fun h=>⟨fun h=>?_,fun h=>?_⟩,fun h=>?_⟩
   ·refine We (id:=14) Tryz.tyOk hrec rfl rfl rfl rfl rfl rfl rfl rfl ?_
    refine gI ?_
    refine⟨?_,?_⟩
    ·exact⟨rfl,rfl⟩
    (conv=>whnf)
    refine cF (lT (1+F.st+G.st) (dA F G) (eV F G++cM 1 (1+F.st+G.start) F.fin k) sp q (1+k) (1+F.st+G.start) (F.fin.getD (0+(k:Int).toNat) EK.int.dflt) (by omega)) [7,8,15] Tryz.call55 ?_
    rintro _ _ ⟨q2,rfl,rfl⟩
    refine gI ?_
    refine⟨(k+1,q2),[(15,some 16)],⟨by rfl,?_,?_⟩,by simp only;omega,by simp only;omega⟩
    ·simp
    ·have hes2:eV F G++cM 1 (1+F.st+G.start) F.fin (k+1)=eV F G++cM 1 (1+F.st+G.start) F.fin k++[cK (1+k) (1+F.st+G.start) (F.fin.getD (0+(k:Int).toNat) EK.int.dflt)]:=by
      rw[hes,if_neg (by rw[<-e0];exact ‹¬F.fin.getD (0+(k:Int).toNat) EK.int.dflt= -1›),List.append_assoc,e0]
      rfl
     simp[hes2,cU,jF]
   ·refine⟨(k+1,q),[],⟨by rfl,?_,?_⟩,by simp only;omega,by simp only;omega⟩
    ·simp
    ·have hes2:cM 1 (1+F.st+G.start) F.fin (k+1)=cM 1 (1+F.st+G.start) F.fin k:=by
      rw[hes,if_pos (by rw[<-e0];exact ‹_›),List.append_nil]
     simp[hes2,cU,jF]
   ·have e:k=F.fin.length:=by omega
    subst e
    have z1:(eV F G++cM 1 (1+F.st+G.start) F.fin F.fin.length).length<=1000000:=by omega
    (conv=>whnf)
    refine cF (Oe (1+F.st+G.st) (dA F G) (eV F G++cM 1 (1+F.st+G.start) F.fin F.fin.length) sp q z1) [7,8,15] Tryz.call56 ?_
    rintro _ _ ⟨zs,sq',rfl,rfl,hz⟩
    refine gI ?_
    refine⟨[(4,some 8),(5,some 15)],[(4,.arr true 3 .int (dA F G) sp),(5,.arr true 55 .arc zs sq')],6,.tup [.agg [.i (1+F.st+G.st),.i 0,.sl 4 1 0 (dA F G).length ((dA F G).length+sp),.sl 5 5 0 zs.length (zs.length+sq')],.c (.i 0)],⟨by rfl,trivial,by simp⟩,by simp,zs,sp,sq',rfl,rfl,hz⟩
abbrev tG (F:TF):Int:=gS (aL F) F.st (F.arcs.length:Int)
theorem aAB (F:TF) (hF:F.fin.length<=9223372036854775807) (h:tG F≠0):Ct Tryz.prog 19 [fV F] [] (hpF F) 2 (Is 2 (noT (tG F))):=by
 refine ctW Tryz.tyOk 9 [28,29] Tryz.func19 rfl (by simp) (by simp) (fr:= [(0,fV F)]) rfl ?_
 refine gO ?_
 refine aO (Ir F hF) [0,1,4] Tryz.call51 rfl (by simp) (by simp) (by simp) ?_
 rintro _ _ ⟨rfl,rfl⟩
 refine gO fun h=>?_
 refine aQ.is ?_
 simp
def iA (F:TF):List Arc:=F.arcs.map (shA 1)++[cK 0 (1+F.start) 0]
def gE (F:TF):List Int:=0::F.fin.map dL
theorem Lq (F:TF) (hF:F.fin.length<=9223372036854775807) (h:tG F=0):Ct Tryz.prog 19 [fV F] [] (hpF F) 2 (pT (1+F.st) (gE F) (hJ F) 2):=by
 have hr:=jS h
 have oF:=aK hr.1
 have f1:=oF.st
 have f2:=oF.finl
 have f3:=oF.start
 have f4:=oF.arcl
 have hBl:(iA F).length<=10000:=by simp[iA];omega
 refine aDR Tryz.tyOk Tryz.func19 rfl (by simp) (by simp) (fr:= [(0,fV F)]) rfl 9 [27] 5
  (fun x:Nat×Nat=>⟨[(2,.c (.ptr 3 0)),(5,.c (.ptr 7 0)),(6,.c (.ptr 8 0)),(27,.c (.fn 101 [(2,0)]))],
   [(0,.arr false 3 .int F.fin 0),(1,.arr false 55 .arc F.arcs 0),(2,.box 25 (onF F)),(3,.box 25 [.i 0,.i 0,.v (.slice none 0 0),.v (.slice none 0 0)]),
     (4,.box 132 (dJ (1+F.st) 5 6 (gE F) (iA F) x.1 x.2)),(5,.arr true 3 .int (gE F) x.1),(6,.arr true 55 .arc (iA F) x.2),(7,.box 66 [.ptr 4 0]),(8,.box 3 [.i 1])],9⟩)
  (fun _=>True) rfl Tryz.func101 rfl Tryz.call101 (fun _=>rfl) (by decide) (by simp) 5 [6,7,8] ?_ ?_
 ·refine gO ?_
  refine aO (Ir F hF) [0,1,4] Tryz.call51 rfl (by simp) (by simp) (by simp) ?_
  rintro _ _ ⟨rfl,rfl⟩
  rw[show gS (aL F) F.st (F.arcs.length:Int)=0 from h]
  refine gI ?_
  refine cF (Hj 0) [] Tryz.call52 ?_
  rintro _ _ ⟨rfl,rfl⟩
  refine gI ?_
  refine cF (Hw F oF 1 [0] [] 0 0 (by omega) (by simp) (by simp)) [0,1,5,6,7] Tryz.call53 ?_
  rintro _ _ ⟨p,q,rfl,rfl⟩
  have z3:(([]:List Arc)++F.arcs.map (shA 1)).length<=1000000:=by simp;omega
  refine gI ?_
  refine cF (lT (1+F.st) ([0]++F.fin.map dL) ([]++F.arcs.map (shA 1)) p q 0 (1+F.start) 0 z3) [5,9,10] Tryz.call55 ?_
  rintro _ _ ⟨q3,rfl,rfl⟩
  refine gI ?_
  refine cF (aAj F) [0,1] Tryz.call58 ?_
  rintro _ _ ⟨rfl,rfl⟩
  refine gI ?_
  refine⟨(p,q3),[(2,some 13),(4,some 5),(5,some 9),(6,some 12),(7,some 8),(8,some 11)],⟨by rfl,?_,?_⟩,trivial⟩
  ·simp
  ·simp[gE,iA]
 ·rintro⟨sp,sq⟩ _ l D r β1 hrec
  dsimp only at hrec⊢
  refine gI ?_
  refine aJ (fun y:Nat×Nat=>⟨[(0,.c (.v (.func (.yield l) #[] #[]))),(1,.c (.ptr 2 0)),(6,.c (.sl 0 1 0 F.fin.length F.capF)),(7,.i F.fin.length),(8,.i y.1)],
   [(0,.arr false 3 .int F.fin 0),(1,.arr false 55 .arc F.arcs 0),(2,.box 25 (onF F)),(3,.box 25 [.i 0,.i 0,.v (.slice none 0 0),.v (.slice none 0 0)]),
     (4,.box 132 (dJ (1+F.st) 5 11 (gE F) (iA F++cM 1 0 F.fin y.1) sp y.2)),(5,.arr true 3 .int (gE F) sp),(11,.arr true 55 .arc (iA F++cM 1 0 F.fin y.1) y.2),(7,.box 66 [.ptr 4 0]),(8,.box 3 [.i 1]),(10,cU l r),(9,jF D)],12⟩)
   (fun y=>y.1<=F.fin.length) (fun y=>F.fin.length-y.1) (0,sq) [(11,some 6)] ⟨by rfl,?_,?_⟩ (Nat.zero_le _) ?_
  ·simp
  ·simp[cM,cU,jF]
  ·rintro⟨k,q⟩ hk
   simp only at hk⊢
   have hel:=gY 1 0 F.fin k
   have hes:cM 1 0 F.fin (k+1)=cM 1 0 F.fin k++(if F.fin.getD k 0= -1 then []else [cK (1+k) 0 (F.fin.getD k 0)]):=rfl
   have hel2:(iA F++cM 1 0 F.fin k).length<=20000:=by simp;omega
   have e0:0+(k:Int).toNat=k:=by omega
   refine gI ?_
   refine⟨fun h=>⟨fun h=>?_,fun h=>?_⟩,fun h=>?_⟩
   ·refine We (id:=10) Tryz.tyOk hrec rfl rfl rfl rfl rfl rfl rfl rfl ?_
    refine gI ?_
    refine⟨?_,?_⟩
    ·exact⟨rfl,rfl⟩
    (conv=>whnf)
    refine cF (lT (1+F.st) (gE F) (iA F++cM 1 0 F.fin k) sp q (1+k) 0 (F.fin.getD (0+(k:Int).toNat) EK.int.dflt) (by omega)) [4,5,11] Tryz.call55 ?_
    rintro _ _ ⟨q2,rfl,rfl⟩
    refine gI ?_
    refine⟨(k+1,q2),[(11,some 12)],⟨by rfl,?_,?_⟩,by simp only;omega,by simp only;omega⟩
    ·simp
    ·have hes2:iA F++cM 1 0 F.fin (k+1)=iA F++cM 1 0 F.fin k++[cK (1+k) 0 (F.fin.getD (0+(k:Int).toNat) EK.int.dflt)]:=by
      rw[hes,if_neg (by rw[<-e0];exact ‹¬F.fin.getD (0+(k:Int).toNat) EK.int.dflt= -1›),List.append_assoc,e0]
      rfl
     simp[hes2,cU,jF]
   ·refine⟨(k+1,q),[],⟨by rfl,?_,?_⟩,by simp only;omega,by simp only;omega⟩
    ·simp
    ·have hes2:cM 1 0 F.fin (k+1)=cM 1 0 F.fin k:=by
      rw[hes,if_pos (by rw[<-e0];exact ‹_›),List.append_nil]
     simp[hes2,cU,jF]
   ·have e:k=F.fin.length:=by omega
    subst e
    have z1:(iA F++cM 1 0 F.fin F.fin.length).length<=1000000:=by omega
    (conv=>whnf)
    refine cF (Oe (1+F.st) (gE F) (iA F++cM 1 0 F.fin F.fin.length) sp q z1) [4,5,11] Tryz.call56 ?_
    rintro _ _ ⟨zs,sq',rfl,rfl,hz⟩
    refine gI ?_
    refine⟨[(2,some 5),(3,some 11)],[(2,.arr true 3 .int (gE F) sp),(3,.arr true 55 .arc zs sq')],4,.tup [.agg [.i (1+F.st),.i 0,.sl 2 1 0 (gE F).length ((gE F).length+sp),.sl 3 5 0 zs.length (zs.length+sq')],.c (.i 0)],⟨by rfl,trivial,by simp⟩,by simp,zs,sp,sq',rfl,rfl,hz⟩
def gC (F G:TF):Int:=if mJ F G≠0 then mJ F G else if 12<F.st\/100<(F.arcs.length:Int)\/12<G.st\/100<(G.arcs.length:Int)then 2 else 0
abbrev aC8 (F:TF):List SC:= [.i F.st,.i F.start,.sl 0 1 0 F.fin.length F.capF,.sl 1 5 0 F.arcs.length F.capA]
abbrev aC7 (F:TF):List SC:= [.i F.st,.i F.start,.sl 2 1 0 F.fin.length F.capF,.sl 3 5 0 F.arcs.length F.capA]
theorem Og (F G:TF) (hF:F.fin.length<=9223372036854775807) (hG:G.fin.length<=9223372036854775807) (h:gC F G≠0):Ct Tryz.prog 20 [fV F,gV G] [] (hpG F G) 4 (Is 4 (noT (gC F G))):=by
 refine ctW Tryz.tyOk 12 [22,23,24] Tryz.func20 rfl (by simp[gV]) (by simp) (fr:= [(0,fV F),(1,gV G)]) rfl ?_
 refine gO ?_
 refine aO (Pa F G hF hG) [0,1,2,3,7] Tryz.call59 rfl (by simp[gV,two]) (by simp[gV,two]) (by simp) ?_
 rintro _ _ ⟨rfl,rfl⟩
 unfold gC at h⊢
 by_cases ha:mJ F G=0
 ·rw[if_neg (fun c=>c ha)]at h⊢
  rw[ha]
  have hh:12<F.st\/100<(F.arcs.length:Int)\/12<G.st\/100<(G.arcs.length:Int):=by
   by_cases q:12<F.st\/100<(F.arcs.length:Int)\/12<G.st\/100<(G.arcs.length:Int)
   ·exact q
   ·rw[if_neg q]at h;exact absurd rfl h
  rw[if_pos hh]
  refine gO ?_
  refine aJ (fun k:Nat=>⟨[(2,.c (.ptr 4 0)),(3,.c (.ptr 5 0)),(4,.c (.ptr 6 0)),(22,.c (.sl 8 4 0 2 2)),(23,.i 2),(24,.i k)],hpG F G++[(6,.box 25 aW),(8,.box 25 (two F G))],9⟩)
   (fun k=>k<=2/\(1<=k-> ¬12<F.st/\ ¬100<(F.arcs.length:Int))/\(2<=k-> ¬12<G.st/\ ¬100<(G.arcs.length:Int))) (fun k=>2-k) 0 [] ⟨by rfl,?_,?_⟩ ⟨by omega,by omega,by omega⟩ ?_
  ·simp
  ·simp[two]
  ·rintro k ⟨hk,h1,h2⟩
   rcases(by omega:k=0\/k=1\/k=2)with rfl|rfl|rfl
   ·refine gO ?_
    refine⟨fun h=>?_,fun h=>⟨fun h=>?_,fun h=>?_⟩⟩
    all_goals (conv=>whnf)
    all_goals first
     |(refine aQ.is ?_
       simp;done)
     |(refine⟨1,[],⟨by rfl,?_,?_⟩,⟨by omega,fun _=>⟨by omega,by omega⟩,fun _=>absurd ‹_› (by omega)⟩,by omega⟩
       ·simp
       ·simp)
   ·have g1:=h1 (by omega)
    refine gO ?_
    refine⟨fun h=>?_,fun h h=>?_⟩
    all_goals (conv=>whnf)
    all_goals first
     |(refine aQ.is ?_
       simp;done)
     |(refine⟨2,[],⟨by rfl,?_,?_⟩,⟨by omega,fun _=>g1,fun _=>⟨by omega,by omega⟩⟩,by omega⟩
       ·simp
       ·simp)
   ·have g1:=h1 (by omega)
    have g2:=h2 (by omega)
    omega
 ·rw[if_pos ha]
  refine gO fun h=>?_
  refine aQ.is ?_
  simp
abbrev cD (F G:TF) (im il lo nl cl jf nf cf ir nr cr:Nat) (g:Bool):List SC:= [.i F.st,.i F.start,.sl 0 1 0 F.fin.length F.capF,.sl 1 5 0 F.arcs.length F.capA,.i G.st,.i G.start,.sl 2 1 0 G.fin.length G.capF,.sl 3 5 0 G.arcs.length G.capA,.mp im,.sl il 3 lo nl cl,.i 0,.i 0,.sl jf 1 0 nf cf,.sl ir 5 0 nr cr,.b g]
def F0 (F G:TF) (ps:List Trip) (zs:List Arc):TF:=⟨(ps.length:Nat),0,ps.map (bK F G),zs,0,0⟩
def Sn (F G:TF) (n:Nat) (v:SV) (s:S):Prop:= ∃(x:CS) (zs:List Arc),eS F G x.1.length x/\bG x.2.1 zs/\
 ((v=noT 2/\s=⟨[],[],n⟩/\(x.2.2=true\/ ∃p,nH (F0 F G x.1 zs) p/\(200<(kT (F0 F G x.1 zs) p).st\/3000<(kT (F0 F G x.1 zs) p).arcs.length)))\/
 (x.2.2=false/\ ∃p,nH (F0 F G x.1 zs) p/\(kT (F0 F G x.1 zs) p).st<=200/\(kT (F0 F G x.1 zs) p).arcs.length<=3000/\ ∃sp sq,v= .tup [.agg [.i (kT (F0 F G x.1 zs) p).st,.i (kT (F0 F G x.1 zs) p).start,.sl n 1 0 (kT (F0 F G x.1 zs) p).fin.length ((kT (F0 F G x.1 zs) p).fin.length+sp),.sl (n+1) 5 0 (kT (F0 F G x.1 zs) p).arcs.length ((kT (F0 F G x.1 zs) p).arcs.length+sq)],.c (.i 0)]/\
  s=⟨[],[(n,.arr true 3 .int (kT (F0 F G x.1 zs) p).fin sp),(n+1,.arr true 55 .arc (kT (F0 F G x.1 zs) p).arcs sq)],n+2⟩))
theorem bU.head {L:List Trip} {lo cl sp:Nat} {ls l:List Trip} {p d:Trip} (h:bU L lo cl sp ls) (hd:ls=p::l):L.getD (lo+0) d=p:=by
 have h1:=h.is
 have h2:=h.le
 subst hd
 have h3:(sub L lo (p::l).length)[0]?=some p:=by rw[h1];rfl
 unfold sub at h3
 rw[List.getElem?_take_of_lt (by simp),List.getElem?_drop]at h3
 rw[Nat.add_zero]at h3
 simp[List.getD,h3]
theorem bU.tail {L:List Trip} {lo cl sp:Nat} {ls l:List Trip} {p:Trip} (h:bU L lo cl sp ls) (hd:ls=p::l):bU L (lo+1) (cl-1) sp l:=by
 have h1:=h.is
 have h2:=h.le
 have h3:=h.cp
 have h4:=h.ca
 subst hd
 simp only[List.length_cons]at h2 h3
 refine⟨?_,by omega,by omega,by omega⟩
 unfold sub at h1⊢
 rw[List.drop_eq_getElem_cons (show lo<L.length by omega),List.length_cons,List.take_succ_cons]at h1
 exact(List.cons.inj h1).2
theorem bU.gone {L:List Trip} {lo cl sp:Nat} {ls:List Trip} (h:bU L lo cl sp ls) (n:Nat) (hn:n<=cl):bU L lo n sp []:=by
 have h1:=h.le
 have h4:=h.ca
 exact⟨by simp[sub],by simp;omega,by simp,by omega⟩
theorem yI {F G:TF} (hF:FOk F) (hG:FOk G) (l2:(F.arcs.length:Int)<=100) (l4:(G.arcs.length:Int)<=100) {p:Trip} (hp:iR F G p):(eF F G p).length<=10200:=by
 have h:=Ci F G p hp.a0 hp.b0
 have hd: ∀(l:List Arc) (n:Nat),bS l n<=l.length:=fun l n=>by
  unfold bS
  induction l with
  |nil=>exact Nat.le_refl _
  |cons x l ih=>simp only[dQ,List.length_cons];split<;>omega
 have h1:=hd F.arcs p.a.toNat
 have h2:=hd G.arcs p.b.toNat
 have h3:=Nat.mul_le_mul (show bS F.arcs p.a.toNat<=100 by omega) (show bS G.arcs p.b.toNat<=100 by omega)
 omega
theorem eS.frng {F G:TF} {ps:List Trip} {raw zs:List Arc} {g:Bool} (h:eS F G ps.length (ps,raw,g)) (hn:bG raw zs) (h1:ps.length<=100000) (h2:zs.length<=100000) (cf ca:Nat):FRng ⟨(ps.length:Nat),0,ps.map (bK F G),zs,cf,ca⟩:=by
 refine⟨⟨by simp only;omega,by simp only;omega⟩,by simp,h2,fun a ha=>?_⟩
 have hr:=h.raw
 have hc:=h.cl
 simp only[List.take_length]at hr hc
 have ha:=hn.sub a ha
 rw[hr]at ha
 obtain⟨p,hp,ha⟩:=List.mem_flatMap.1 ha
 obtain⟨s,hs,rfl⟩:=List.mem_map.1 ha
 have q1:=List.idxOf_lt_length_iff.2 hp
 have q2:=List.idxOf_lt_length_iff.2 (hc p hp s hs)
 simp only
 omega
theorem sF (F G:TF) (hF:F.fin.length<=9223372036854775807) (hG:G.fin.length<=9223372036854775807) (h:gC F G=0):Ct Tryz.prog 20 [fV F,gV G] [] (hpG F G) 4 (Sn F G 4):=by
 have ha:mJ F G=0:=by
  unfold gC at h
  by_cases q:mJ F G=0
  ·exact q
  ·rw[if_pos q]at h;exact h
 have hlim:F.st<=12/\(F.arcs.length:Int)<=100/\G.st<=12/\(G.arcs.length:Int)<=100:=by
  unfold gC at h
  rw[if_neg (fun c=>c ha)]at h
  by_cases q:12<F.st\/100<(F.arcs.length:Int)\/12<G.st\/100<(G.arcs.length:Int)
  ·rw[if_pos q]at h;cases h
  ·omega
 obtain⟨l1,l2,l3,l4⟩:=hlim
 have oF:=aK (nE ha).1
 have oG:=aK (nE ha).2
 refine ctC Tryz.tyOk Tryz.func20 rfl (by simp[gV]) (by simp) (fr:= [(0,fV F),(1,gV G)]) rfl ?_
 refine gH.cut Tryz.tyOk 12 [22,23,24] (fun _:Unit=>⟨[(2,.c (.ptr 4 0)),(3,.c (.ptr 5 0)),(4,.c (.ptr 6 0)),(9,.c (.ptr 8 0))],
  hpG F G++[(4,.box 25 (aC8 F)),(5,.box 25 (aC7 G)),(6,.box 25 aW),(8,.box 77 (cD F G 9 10 0 0 0 11 0 0 12 0 0 false)),(9,.map .trip .int [] 0),(10,.arr true 80 .trip [] 0),(11,.arr true 3 .int [] 0),(12,.arr true 55 .arc [] 0)],13⟩) (fun _=>True) 4 _ _ ?_ ?_
 ·refine gO ?_
  refine aO (Pa F G hF hG) [0,1,2,3,7] Tryz.call59 rfl (by simp[gV,two]) (by simp[gV,two]) (by simp) ?_
  rintro _ _ ⟨rfl,rfl⟩
  rw[ha]
  refine gO ?_
  refine aJ (fun k:Nat=>⟨[(2,.c (.ptr 4 0)),(3,.c (.ptr 5 0)),(4,.c (.ptr 6 0)),(22,.c (.sl 8 4 0 2 2)),(23,.i 2),(24,.i k)],hpG F G++[(4,.box 25 (aC8 F)),(5,.box 25 (aC7 G)),(6,.box 25 aW),(8,.box 25 (two F G))],9⟩)
   (fun k=>k<=2) (fun k=>2-k) 0 [] ⟨by rfl,?_,?_⟩ (by omega) ?_
  ·simp
  ·simp[two]
  ·rintro k hk
   rcases(by omega:k=0\/k=1\/k=2)with rfl|rfl|rfl
   ·refine gO ?_
    intro h h
    refine⟨1,[],⟨by rfl,?_,?_⟩,by omega,by omega⟩
    ·simp
    ·simp
   ·refine gO ?_
    intro h h
    refine⟨2,[],⟨by rfl,?_,?_⟩,by omega,by omega⟩
    ·simp
    ·simp
   ·refine gO ?_
    exact⟨(),[(8,some 10),(10,none),(11,none),(12,none)],⟨by rfl,by simp,by simp[cT]⟩,trivial⟩
 ·intro _ _
  refine gH.of Tryz.tyOk 12 [22,23,24] ?_
  have oO:aCr F G:=⟨Nat.le_trans oF.arcl (by decide),Nat.le_trans oG.arcl (by decide),oF.fin,oG.fin,fun a ha=>⟨⟨(oF.arc a ha).t0,by have:=(oF.arc a ha).t1;have:=oF.finl;omega⟩,(oF.arc a ha).w0,(oF.arc a ha).w1⟩,fun a ha=>⟨⟨(oG.arc a ha).t0,by have:=(oG.arc a ha).t1;have:=oG.finl;omega⟩,(oG.arc a ha).w0,(oG.arc a ha).w1⟩⟩
  have c0:=eS.start oF oG
  have hst:iR F G ⟨F.start,G.start,0⟩:=(c0.rng _ (show(⟨F.start,G.start,0⟩:Trip)∈eD [] ⟨F.start,G.start,0⟩from tP.2 (.inr rfl))).1
  refine gO ?_
  refine cF (Jb F G [] 0 [] [] 0 0 0 0 0 0 0 false ⟨F.start,G.start,0⟩ oF.fin oG.fin hst ⟨rfl,fun _=>rfl⟩ (Nat.zero_le _) (bU.all [] 0) (Nat.le_refl _)) [0,1,2,3,8,9,10,11,12] Tryz.call60 ?_
  rintro _ _ ⟨es',clk',L',lo',cl',sl',sf',hm',rfl,hp',rfl⟩
  generalize eD [] (⟨F.start,G.start,0⟩:Trip)=ps1 at hm' c0 hp'⊢
  generalize kO F G [] false ⟨F.start,G.start,0⟩=g1 at c0⊢
  refine gO ?_
  refine aJ (fun z:Nat×List Trip×List Arc×Bool×List (Trip×Int×Nat)×Nat×List Trip×Nat×Nat×Nat×Nat×Nat=>⟨[(2,.c (.ptr 4 0)),(3,.c (.ptr 5 0)),(4,.c (.ptr 6 0)),(9,.c (.ptr 8 0))],
    hpG F G++[(4,.box 25 (aC8 F)),(5,.box 25 (aC7 G)),(6,.box 25 aW),(8,.box 77 (cD F G 9 10 z.2.2.2.2.2.2.2.1 (z.2.1.drop z.1).length z.2.2.2.2.2.2.2.2.1 11 (z.2.1.map (bK F G)).length ((z.2.1.map (bK F G)).length+z.2.2.2.2.2.2.2.2.2.2.1) 12 z.2.2.1.length (z.2.2.1.length+z.2.2.2.2.2.2.2.2.2.2.2) z.2.2.2.1)),(9,.map .trip .int z.2.2.2.2.1 z.2.2.2.2.2.1),(10,.arr true 80 .trip z.2.2.2.2.2.2.1 z.2.2.2.2.2.2.2.2.2.1),(11,.arr true 3 .int (z.2.1.map (bK F G)) z.2.2.2.2.2.2.2.2.2.2.1),(12,.arr true 55 .arc z.2.2.1 z.2.2.2.2.2.2.2.2.2.2.2)],13⟩)
   (fun z=>eS F G z.1 (z.2.1,z.2.2.1,z.2.2.2.1)/\uN z.2.2.2.2.1 z.2.1/\bU z.2.2.2.2.2.2.1 z.2.2.2.2.2.2.2.1 z.2.2.2.2.2.2.2.2.1 z.2.2.2.2.2.2.2.2.2.1 (z.2.1.drop z.1)) (fun z=>3*F.st.toNat*G.st.toNat-z.1) (0,ps1,[],g1,es',clk',L',lo',cl',sl',sf',0) [(10,some 13),(11,some 14)] ⟨by rfl,?_,?_⟩ ⟨c0,hm',hp'⟩ ?_
  ·simp
  ·simp
  ·clear c0 hm' hp'
   rintro⟨k,ps,raw,g,es,clk,L,lo,cl,sl,sf,sr⟩ ⟨hC,hm,hL⟩
   simp only at hC hm hL⊢
   have hpsl:=hC.psl oF oG
   have hrl:=hC.rawl oF oG
   have hkl:=hC.kl
   simp only at hpsl hrl hkl
   have hmul:3*F.st.toNat*G.st.toNat<=432:=by
    have:=Nat.mul_le_mul (show 3*F.st.toNat<=36 by omega) (show G.st.toNat<=12 by omega)
    omega
   have hmo:tR F G<=12400:=by
    have h1:=Nat.mul_le_mul (show F.arcs.length<=100 by omega) (show G.arcs.length<=100 by omega)
    have h2:=Nat.mul_le_mul (show F.arcs.length<=100 by omega) (show G.st.toNat<=12 by omega)
    have h3:=Nat.mul_le_mul (show G.arcs.length<=100 by omega) (show F.st.toNat<=12 by omega)
    unfold tR
    omega
   have hdl:(ps.drop k).length=ps.length-k:=List.length_drop
   have hdl2:(ps.drop (k+1)).length=ps.length-(k+1):=List.length_drop
   have q1:=hL.le
   have q2:=hL.cp
   have q3:=hL.ca
   by_cases hk:k<ps.length
   ·have hpm:=aB ps k ⟨0,0,0⟩ hk
    have hd:=eO ps k ⟨0,0,0⟩ hk
    have hCs:=hC.step oF oG hk
    have hrg:=(hC.rng _ hpm).1
    generalize hpe:ps.getD k ⟨0,0,0⟩=p at hpm hd hCs hrg
    have hgp:L.getD (lo+Int.toNat 0) EK.trip.dflt=p:=hL.head hd
    have hd2:(((ps.drop k).length:Int)-1).toNat=(ps.drop (k+1)).length:=by omega
    have hI: ∀ {lo' cl'},bU L lo' cl' sl (ps.drop (k+1))->rF F G (ps.idxOf p:Nat) (k+1) ((eF F G p).foldl (Bv F G (ps.idxOf p:Nat)) (ps,raw,g)) ps raw g es L lo' cl' sl (eF F G p):=fun hl=>⟨rfl,hm,hl,by omega,by have:=yI oF oG l2 l4 hrg;omega,by have:=yI oF oG l2 l4 hrg;omega⟩
    generalize (eF F G p).foldl (Bv F G (ps.idxOf p:Nat)) (ps,raw,g)=y at hCs hI
    refine gO ?_
    refine fun h=>⟨fun h=>?_,fun h=>?_⟩
    ·simp only[hgp,hd2]
     refine aO (Ps F G oO p hrg ps hpm raw g (k+1) es clk L (lo+Int.toNat 1) (cl-Int.toNat 1) sl sf sr y (hI (hL.tail hd))) [0,1,2,3,8,9,10,11,12] Tryz.call61 rfl (by simp[gV]) (by simp[gV]) (by simp) ?_
     rintro _ _ ⟨es',clk',L',lo',cl',sl',sf',sr',hm',rfl,hp',rfl⟩
     refine gO ?_
     refine⟨(k+1,y.1,y.2.1,y.2.2,es',clk',L',lo',cl',sl',sf',sr'),[(10,some 14),(11,some 15),(12,some 16)],⟨by rfl,?_,?_⟩,⟨hCs,hm',hp'⟩,by simp only;omega⟩
     ·simp
     ·simp
    ·have hgone:ps.drop (k+1)=[]:=by
      have:(ps.drop (k+1)).length=0:=by omega
      exact List.eq_nil_of_length_eq_zero this
     (conv=>whnf)
     simp only[hgp,hd2]
     refine aO (Ps F G oO p hrg ps hpm raw g (k+1) es clk L (lo) (cl-Int.toNat 1) sl sf sr y (hI (hgone▸hL.gone _ (Nat.sub_le _ _)))) [0,1,2,3,8,9,10,11,12] Tryz.call61 rfl (by simp[gV]) (by simp[gV]) (by simp) ?_
     rintro _ _ ⟨es',clk',L',lo',cl',sl',sf',sr',hm',rfl,hp',rfl⟩
     refine gO ?_
     refine⟨(k+1,y.1,y.2.1,y.2.2,es',clk',L',lo',cl',sl',sf',sr'),[(10,some 14),(11,some 15),(12,some 16)],⟨by rfl,?_,?_⟩,⟨hCs,hm',hp'⟩,by simp only;omega⟩
     ·simp
     ·simp
   ·have hke:k=ps.length:=by omega
    subst hke
    have hel:=hm.len
    refine gO fun h=>?_
    refine cF (oH raw (raw.length+sr) sr (by omega) (by omega)) [12] Tryz.call62 ?_
    rintro _ _ ⟨zs,sq',rfl,rfl,hzl,hso⟩
    have hno:=hso.norm
    have hzr:=hno.len
    cases g with
    |true=>
     refine gO ?_
     refine⟨[],[],4,noT 2,⟨by rfl,trivial,trivial⟩,by simp,(ps,raw,true),zs,hC,hno,.inl ⟨rfl,rfl,.inl rfl⟩⟩
    |false=>
     have hfr:=hC.frng hno (by omega) (by omega) ((ps.map (bK F G)).length+sf) (raw.length+sr)
     have hp0:0<ps.length:=by
      have:=hC.first
      cases hps:ps with
      |nil=>rw[hps]at this;cases this
      |cons a l=>simp
     have hs00:(0:Int)<=0/\(0:Int)<(ps.length:Nat):=by omega
     refine gO ?_
     rw[hel]
     refine cF (nZ ⟨(ps.length:Nat),0,ps.map (bK F G),zs,(ps.map (bK F G)).length+sf,raw.length+sr⟩ hfr hs00) [11,12] Tryz.call48 ?_
     rintro v s ⟨p,hus,hv⟩
     have hus0:nH (F0 F G ps zs) p:=⟨hus.iff⟩
     have hkT:kT (F0 F G ps zs) p=kT ⟨(ps.length:Nat),0,ps.map (bK F G),zs,(ps.map (bK F G)).length+sf,raw.length+sr⟩ p:=rfl
     generalize kT ⟨(ps.length:Nat),0,ps.map (bK F G),zs,(ps.map (bK F G)).length+sf,raw.length+sr⟩ p=T at hv hkT
     have hT0:0<=T.st/\T.arcs.length<=zs.length:=by
      rw[<-hkT]
      unfold kT
      split
      ·exact⟨by simp only;omega,iN _ _ _⟩
      ·exact⟨by simp only;omega,Nat.zero_le _⟩
     obtain⟨tst,tstart,tfin,tarcs,tc1,tc2⟩:=T
     obtain⟨sp3,sq3,rfl,rfl⟩:=hv
     simp only at hT0⊢
     refine gO ?_
     refine⟨fun h=>?_,fun h=>⟨fun h=>?_,fun h=>?_⟩⟩
     ·refine⟨[],[],4,noT 2,⟨by rfl,trivial,trivial⟩,by simp,(ps,raw,false),zs,hC,hno,.inl ⟨rfl,rfl,.inr ⟨p,hus0,?_⟩⟩⟩
      rw[hkT]
      simp only
      omega
     ·refine⟨[],[],4,noT 2,⟨by rfl,trivial,trivial⟩,by simp,(ps,raw,false),zs,hC,hno,.inl ⟨rfl,rfl,.inr ⟨p,hus0,?_⟩⟩⟩
      rw[hkT]
      simp only
      omega
     ·(conv=>whnf)
      refine⟨[(4,some 13),(5,some 14)],[(4,.arr true 3 .int tfin sp3),(5,.arr true 55 .arc tarcs sq3)],6,.tup [.agg [.i tst,.i tstart,.sl 4 1 0 tfin.length (tfin.length+sp3),.sl 5 5 0 tarcs.length (tarcs.length+sq3)],.c (.i 0)],⟨by rfl,trivial,by simp⟩,by simp,(ps,raw,false),zs,hC,hno,.inr ⟨rfl,p,hus0,?_⟩⟩
      rw[hkT]
      simp only
      exact⟨by omega,by omega,sp3,sq3,rfl,rfl⟩
theorem Jh {F:TF} (hF:FOk F):0<=lI F/\lI F<=1000000000:=by
 refine⟨?_,zI _ _ (zI _ _ (by omega) fun x hx=>?_) fun x hx=>(hF.fin x hx).2⟩
 ·have h1:=(lY (F.arcs.map (·.w)) 0).1
  have h2:=(lY F.fin (oX (F.arcs.map (·.w)) 0)).1
  unfold lI
  omega
 ·obtain⟨a,ha,rfl⟩:=List.mem_map.1 hx
  exact(hF.arc a ha).w1
section
variable {F G:TF} (hF:FOk F) (hG:FOk G)
include hF hG
theorem Rq {q:Trip} (hq:iR F G q): -1<=bK F G q/\(bK F G q<=lI F+lI G):=by
 have hf:=hF.finl
 have hg:=hG.finl
 have h1:=Jh hF
 have h2:=Jh hG
 have a0:=hq.a0
 have a1:=hq.a1
 have b0:=hq.b0
 have b1:=hq.b1
 have m1:=aB F.fin q.a.toNat 0 (by omega)
 have m2:=aB G.fin q.b.toNat 0 (by omega)
 have k1:=Dm m1
 have k2:=Dm m2
 have l1:=hF.fin _ m1
 have l2:=hG.fin _ m2
 unfold bK
 split<;>omega
theorem Ww {p:Trip} {s:Stp} (hs:s∈eF F G p):1000000000<s.w->1000000000<lI F+lI G:=by
 rcases fM.1 hs with⟨a,ha,e1,e2,_,rfl⟩|⟨a,ha,b,hb,e1,e2,e3,e4,rfl⟩|⟨b,hb,e1,e2,rfl⟩
 ·intro h
  have h:1000000000<a.w:=h
  have:=(hF.arc a ha).w1
  omega
 ·intro h
  have h:1000000000<a.w+b.w:=h
  have:=Dn ha
  have:=Dn hb
  omega
 ·intro h
  have h:1000000000<b.w:=h
  have:=(hG.arc b hb).w1
  omega
theorem aAn {x:CS} {zs:List Arc} (h:eS F G x.1.length x) (hn:bG x.2.1 zs) (hb:x.2.2=true\/ ∃p,nH (F0 F G x.1 zs) p/\(200<(kT (F0 F G x.1 zs) p).st\/3000<(kT (F0 F G x.1 zs) p).arcs.length)):
  200<3*F.st*G.st\/3000<3*((F.arcs.length:Int)*(G.arcs.length:Int)+(F.arcs.length:Int)*G.st+(G.arcs.length:Int)*F.st)\/1000000000<lI F+lI G:=by
 have f1:=hF.st
 have g1:=hG.st
 rcases hb with hb|⟨p,_,hb⟩
 ·refine .inr (.inr ?_)
  rcases h.g hb with⟨q,hq,hw⟩|⟨q,hq,s,hs,hw⟩
  ·have:=(Rq hF hG (h.rng q hq).1).2
   omega
  ·exact Ww hF hG hs hw
 ·by_cases q:p 0=true
  ·have e:kT (F0 F G x.1 zs) p=⟨(rkB p x.1.length:Nat),(rkB p 0:Nat),bY p (F0 F G x.1 zs).fin x.1.length,bW p zs zs.length,0,0⟩:=by
    unfold kT
    have e1:(F0 F G x.1 zs).start.toNat=0:=rfl
    have e2:(F0 F G x.1 zs).st.toNat=x.1.length:=Int.toNat_natCast _
    rw[e1,e2,if_pos q]
    rfl
   rw[e]at hb
   simp only at hb
   rcases hb with hb|hb
   ·have h1:=uZ p x.1.length
    have h2:=eS.psl hF hG h
    have e3:((3*F.st.toNat*G.st.toNat:Nat):Int)=3*F.st*G.st:=by
     rw[Int.natCast_mul,Int.natCast_mul,Int.toNat_of_nonneg (by omega),Int.toNat_of_nonneg (by omega)]
     rfl
    refine .inl ?_
    rw[<-e3]
    omega
   ·have h1:=iN p zs zs.length
    have h2:=eS.rawl hF hG h
    have h3:=hn.len
    have e3:((tR F G:Nat):Int)=(F.arcs.length:Int)*(G.arcs.length:Int)+(F.arcs.length:Int)*G.st+(G.arcs.length:Int)*F.st:=by
     unfold tR
     rw[Int.natCast_add,Int.natCast_add,Int.natCast_mul,Int.natCast_mul,Int.natCast_mul,Int.toNat_of_nonneg (by omega),Int.toNat_of_nonneg (by omega)]
    refine .inr (.inl ?_)
    rw[<-e3]
    omega
  ·have e:kT (F0 F G x.1 zs) p=⟨1,0,[-1],[],0,0⟩:=by
    unfold kT
    have e1:(F0 F G x.1 zs).start.toNat=0:=rfl
    rw[e1,if_neg q]
   rw[e]at hb
   simp only[List.length_nil]at hb
   omega
theorem Vk {x:CS} {zs:List Arc} (l1:F.st<=12) (l2:(F.arcs.length:Int)<=100) (l3:G.st<=12) (l4:(G.arcs.length:Int)<=100) (h:eS F G x.1.length x) (hn:bG x.2.1 zs) (hg:x.2.2=false) {p:Nat->Bool} (hp:nH (F0 F G x.1 zs) p)
  (h1:(kT (F0 F G x.1 zs) p).st<=200) (h2:(kT (F0 F G x.1 zs) p).arcs.length<=3000):
  aL (kT (F0 F G x.1 zs) p)=0/\ ∀u v n,cB (Wt (kT (F0 F G x.1 zs) p) u v) n->cB (aDp (Wt F) (Wt G) u v) n:=by
 have f1:=hF.st
 have g1:=hG.st
 have hps:=eS.psl hF hG h
 have hraw:=eS.rawl hF hG h
 have hzl:=hn.len
 have hnd:=h.numd
 obtain⟨gq,gs⟩:=h.g2 hg
 have b1:3*F.st.toNat*G.st.toNat<=3*12*12:=Nat.mul_le_mul (Nat.mul_le_mul_left 3 (by omega)) (by omega)
 have b2:tR F G<=100*100+100*12+100*12:=by
  unfold tR
  have:=Nat.mul_le_mul (show F.arcs.length<=100 by omega) (show G.arcs.length<=100 by omega)
  have:=Nat.mul_le_mul (show F.arcs.length<=100 by omega) (show G.st.toNat<=12 by omega)
  have:=Nat.mul_le_mul (show G.arcs.length<=100 by omega) (show F.st.toNat<=12 by omega)
  omega
 have hfr:FRng (F0 F G x.1 zs):=eS.frng (ps:=x.1) (raw:=x.2.1) (g:=x.2.2) h hn (by omega) (by omega) 0 0
 have hx:x.1≠ []:=fun e=>by have:=h.first;rw[e]at this;cases this
 have hxl:0<x.1.length:=List.length_pos_iff.2 hx
 have hs:0<=(F0 F G x.1 zs).start/\(F0 F G x.1 zs).start<(F0 F G x.1 zs).st:=⟨Int.le_refl _,by show(0:Int)<((x.1.length:Nat):Int);omega⟩
 refine⟨Mc hfr hs hn.srt (fun a ha=>?_) (fun n hn=>?_) h1 h2,fun u v n hm=>?_⟩
 ·have ha:=hn.sub a ha
  obtain⟨q,hq,s,hs,_,rfl⟩:=hnd.snd a ha
  obtain⟨k1,k2,k3⟩:=Wv hF hG hs
  exact⟨k1,k2,k3,gs q (by rw[List.take_length];exact hq) s hs⟩
 ·obtain⟨q,hq,rfl⟩:=List.mem_map.1 hn
  exact⟨(Rq hF hG (h.rng q hq).1).1,gq q hq⟩
 ·have m1:cB (Wt (F0 F G x.1 zs) u v) n:=hm.cong fun c=>Cf hfr hs hp
  have m2:=bG.min (X:=F0 F G x.1 zs) hn m1
  refine m2.cong fun c=>?_
  rw[<-aBd]
  refine hnd.wt (fun q hq=>?_) (fun x hx=>(hF.fin x hx).1) (fun x hx=>(hG.fin x hx).1)
  have:=Ns hq
  show(List.map (bK F G) x.1).getD _ 0=bK F G q
  rw[List.getD,List.getElem?_map,this]
  rfl
end
theorem Yz {P:Int->Prop} {n k:Int} (h:cB P n) (hp: ∀c,P c <-> c=k):n=k:=by
 rcases h with⟨_,h⟩|⟨_,h,_⟩
 ·exact absurd ((hp k).2 rfl) (h k)
 ·exact(hp n).1 h
theorem iF {X F:TF} (u v:List Int) (h:aL X=0) (h2:aL F=0):cG X u v=cG F u v:=by unfold cG;rw[h,h2]
def dO (sp sq:Nat):TF:=⟨2,0,[-1,1],[⟨0,2,1,1,5⟩],2+sp,1+sq⟩
def iH (sp sq:Nat):TF:=⟨2,0,[-1,1],[⟨0,2,2,1,5⟩],2+sp,1+sq⟩
theorem xX (sp sq:Nat):aL (dO sp sq)=0:=by
 show aL (dO 0 0)=0
 decide
theorem Fr (sp sq:Nat):aL (iH sp sq)=0:=by
 show aL (iH 0 0)=0
 decide
theorem jX (l:List Int): ∀i,i<(l.map dL).length->(l.map dL).getD i 0= -1:=by
 intro i hi
 simp only[List.length_map]at hi
 simp[List.getD,hi,dL]
theorem vG {u v:List Int} {raw:List Arc} {X:TF} {n k:Int} (hX:aL X=0) (h:bG raw X.arcs) (hs:X.start=0) (hp:sO X u v n) (hsc:cG aN u v=0) (hw: ∀c,WtL raw 0 X.fin u v c <-> c=k):n=k:=by
 have h1:=(hp.1 ((iF u v hX bX).trans hsc)).1
 have h2:=h.min h1
 rw[hs]at h2
 exact Yz h2 hw
theorem Oc {sp sq:Nat} {n:Int} {zs:List Arc} {cf ca:Nat} (h:bG (bR aN (iH sp sq)) zs) (hp:sO ⟨1+2+2,0,-1::([-1,1]++[-1,1]),zs,cf,ca⟩ [2] [2] n):n=6:=by
 refine vG (Ak (aK bX) (aK (Fr sp sq)) (show(2:Int)+2<=198 by decide) (show((1:Nat):Int)+((1:Nat):Int)<=2500 by decide) h cf ca) h rfl hp (by decide) fun c=>?_
 refine(Ve (F:=aN) (G:=iH sp sq) (aK bX) (aK (Fr sp sq))).trans ?_
 unfold aN iH
 rw[iX,iX]
 simp[lab]
theorem Ov {sp sq:Nat} {n:Int} {zs:List Arc} {cf ca:Nat} (h:bG (dP aN (dO sp sq)) zs) (hp:sO ⟨1+2+2,0,-1::([-1,1].map dL++[-1,1]),zs,cf,ca⟩ [1,2] [2,1] n):n=12:=by
 refine vG (Bi (aK bX) (aK (xX sp sq)) (show(2:Int)+2<=198 by decide) (show((1:Nat):Int)+((1:Nat):Int)<=2500 by decide) h (by simp[aN]) (jX _) cf ca) h rfl hp (by decide) fun c=>?_
 refine(Vq (F:=aN) (G:=dO sp sq) (aK bX) (aK (xX sp sq)) (by simp[aN]) (jX _)).trans ?_
 constructor
 ·rintro⟨u1,u2,v1,v2,c1,c2,_,_,h1,h2,rfl⟩
  unfold aN at h1
  unfold dO at h2
  rw[iX]at h1 h2
  omega
 ·rintro rfl
  refine⟨[1],[2],[2],[1],6,6,rfl,rfl,?_,?_,rfl⟩
  ·unfold aN;rw[iX];simp[lab]
  ·unfold dO;rw[iX];simp[lab]
theorem Wa {n:Int} {zs:List Arc} {cf ca:Nat} (h:bG (hJ aN) zs) (hp:sO ⟨1+2,0,0::[-1,1].map dL,zs,cf,ca⟩ [1,1] [2,2] n):n=12:=by
 refine vG (Ew (aK bX) (by decide) (by decide) h (by simp[aN]) (jX _) cf ca) h rfl hp (by decide) fun c=>?_
 refine(aAA (F:=aN) (aK bX) (by simp[aN]) (jX _)).trans ?_
 have key: ∀u v c,Lu (Wt aN) u v c->c=6*u.length:=by
  intro u v c h
  induction h with
  |nil=>rfl
  |cons h1 h2 ih=>
   unfold aN at h1
   rw[iX]at h1
   obtain⟨rfl,rfl,rfl⟩:=h1
   rw[ih,List.length_append]
   simp[lab]
   omega
 constructor
 ·intro h
  have:=key _ _ _ h
  simpa using this
 ·rintro rfl
  have w:Wt aN [1] [2] 6:=by unfold aN;rw[iX];simp[lab]
  exact .cons w (.cons w .nil)
theorem Bu:Ct Tryz.prog 6 [] [] [] 0 (Is 0 (.b true)):=by
 refine ctW Tryz.tyOk 17 [] Tryz.func6 rfl (by simp) (by simp) (fr:= []) rfl ?_
 refine gO ?_
 refine cF (eK) [] Tryz.call33 ?_
 rintro _ _ ⟨rfl,rfl⟩
 refine gO ?_
 refine aO (vU aN (by decide) bX) [0,1] Tryz.call16 rfl (by simp[aN,cO]) (by simp[aN,cO]) (by simp) ?_
 rintro _ _ ⟨zs,sp1,sq1,rfl,rfl,hz⟩
 obtain rfl:=zH (a:=⟨0,2,1,1,5⟩) hz
 refine gO ?_
 refine cF (eK) [] Tryz.call33 ?_
 rintro _ _ ⟨rfl,rfl⟩
 refine gO ?_
 refine aO (Mx aN 2 (by decide) bX (.inr rfl)) [5,6] Tryz.call38 rfl (by simp[aN,cO]) (by simp[aN,cO]) (by simp) ?_
 rintro _ _ ⟨zs,sp2,sq2,rfl,rfl,hz2⟩
 obtain rfl:=zH (a:=⟨0,2,2,1,5⟩) hz2
 have hpl:(iH sp2 sq2).fin.length<=9223372036854775807:=by simp[iH]
 have hrd:fF aN (iH sp2 sq2)=0:=by show fF aN (iH 0 0)=0;decide
 repeat' (first|exact rfl|((conv=>whnf);first|(refine qX (fun h=>?_) fun h=>?_<;>try exact absurd h (by omega))|refine oN ?_|refine oM ?_ ?_|refine bM ?_ ?_))
 (conv=>whnf)
 refine jO (fun y:List Arc×Nat×Nat=>⟨[(0,.b false),(1,.c (.ptr 0 0)),(2,.i 0),(4,.i 0),(5,.c (.ptr 3 0)),(6,.i 0)],
  [(0,.box 25 [.i 2,.i 0,.sl 1 1 0 2 (2+sp1),.sl 2 5 0 1 (1+sq1)]),(1,.arr true 3 .int [-1,1] sp1),(2,.arr true 55 .arc [⟨0,2,1,1,5⟩] sq1),
   (3,.box 25 [.i 5,.i 0,.sl 4 1 0 5 (5+y.2.1),.sl 5 5 0 y.1.length (y.1.length+y.2.2)]),(4,.arr true 3 .int [-1,-1,1,-1,1] y.2.1),(5,.arr true 55 .arc y.1 y.2.2)],6⟩) (fun y=>bG (bR aN (iH sp2 sq2)) y.1) ?_ ?_
 ·refine gO ?_
  refine⟨?_,?_⟩
  ·refine cF (eK) [] Tryz.call33 ?_
   rintro _ _ ⟨rfl,rfl⟩
   refine gO ?_
   refine⟨?_,?_⟩
   ·refine aO (qJ aN (iH sp2 sq2) (by decide) hpl hrd) [10,11,7,8] Tryz.call17 rfl (by simp[aN,iH,gV,cO]) (by simp[aN,iH,gV,cO]) (by simp) ?_
    rintro _ _ ⟨zx,sp3,sq3,rfl,rfl,hzx⟩
    refine gO ?_
    refine⟨(zx,sp3,sq3),[(0,some 4),(1,some 2),(2,some 3),(3,some 14),(4,some 12),(5,some 13)],⟨by rfl,?_,?_⟩,hzx⟩
    ·simp[aN,iH]
    ·simp[aN,iH]
   ·(conv=>whnf)
    refine aO (qJ aN (iH sp2 sq2) (by decide) hpl hrd) [10,11,7,8] Tryz.call17 rfl (by simp[aN,iH,gV,cO]) (by simp[aN,iH,gV,cO]) (by simp) ?_
    rintro _ _ ⟨zx,sp3,sq3,rfl,rfl,hzx⟩
    refine gO ?_
    refine⟨(zx,sp3,sq3),[(0,some 4),(1,some 2),(2,some 3),(3,some 12),(4,some 13),(5,some 14)],⟨by rfl,?_,?_⟩,hzx⟩
    ·simp[aN,iH]
    ·simp[aN,iH]
  ·(conv=>whnf)
   refine cF (eK) [] Tryz.call33 ?_
   rintro _ _ ⟨rfl,rfl⟩
   refine gO ?_
   refine aO (qJ aN (iH sp2 sq2) (by decide) hpl hrd) [11,12,7,8] Tryz.call17 rfl (by simp[aN,iH,gV,cO]) (by simp[aN,iH,gV,cO]) (by simp) ?_
   rintro _ _ ⟨zx,sp3,sq3,rfl,rfl,hzx⟩
   refine gO ?_
   refine⟨(zx,sp3,sq3),[(0,some 4),(1,some 2),(2,some 3),(3,some 10),(4,some 13),(5,some 14)],⟨by rfl,?_,?_⟩,hzx⟩
   ·simp[aN,iH]
   ·simp[aN,iH]
 ·rintro⟨zx,sp3,sq3⟩ hzx
  have hpl2:(dO sp1 sq1).fin.length<=9223372036854775807:=by simp[dO]
  have hrd2:fF aN (dO sp1 sq1)=0:=by show fF aN (dO 0 0)=0;decide
  repeat' (first|exact rfl|((conv=>whnf);first|(refine qX (fun h=>?_) fun h=>?_<;>try exact absurd h (by omega))|refine oN ?_|refine oM ?_ ?_|refine bM ?_ ?_))
  (conv=>whnf)
  refine jO (fun y:List Arc×Nat×Nat=>⟨[(0,.b false),(2,.i 0),(4,.i 0),(5,.c (.ptr 3 0)),(6,.i 0),(7,.c (.ptr 6 0)),(8,.i 0)],
   [(3,.box 25 [.i 5,.i 0,.sl 4 1 0 5 (5+sp3),.sl 5 5 0 zx.length (zx.length+sq3)]),(4,.arr true 3 .int [-1,-1,1,-1,1] sp3),(5,.arr true 55 .arc zx sq3),
    (6,.box 25 [.i 5,.i 0,.sl 7 1 0 5 (5+y.2.1),.sl 8 5 0 y.1.length (y.1.length+y.2.2)]),(7,.arr true 3 .int (-1::([-1,1].map dL++[-1,1])) y.2.1),(8,.arr true 55 .arc y.1 y.2.2)],9⟩) (fun y=>bG (dP aN (dO sp1 sq1)) y.1) ?_ ?_
  ·refine gO ?_
   refine⟨?_,?_⟩
   ·refine cF (eK) [] Tryz.call33 ?_
    rintro _ _ ⟨rfl,rfl⟩
    refine gO ?_
    refine⟨?_,?_⟩
    ·refine aO (qN aN (dO sp1 sq1) (by decide) hpl2 hrd2) [6,7,1,2] Tryz.call18 rfl (by simp[aN,dO,gV,cO]) (by simp[aN,dO,gV,cO]) (by simp) ?_
     rintro _ _ ⟨zy,sp4,sq4,rfl,rfl,hzy⟩
     refine gO ?_
     refine⟨(zy,sp4,sq4),[(6,some 10),(7,some 8),(8,some 9)],⟨by rfl,?_,?_⟩,hzy⟩
     ·simp[aN,dO,dA]
     ·simp[aN,dO,dA]
    ·(conv=>whnf)
     refine aO (qN aN (dO sp1 sq1) (by decide) hpl2 hrd2) [6,7,1,2] Tryz.call18 rfl (by simp[aN,dO,gV,cO]) (by simp[aN,dO,gV,cO]) (by simp) ?_
     rintro _ _ ⟨zy,sp4,sq4,rfl,rfl,hzy⟩
     refine gO ?_
     refine⟨(zy,sp4,sq4),[(6,some 8),(7,some 9),(8,some 10)],⟨by rfl,?_,?_⟩,hzy⟩
     ·simp[aN,dO,dA]
     ·simp[aN,dO,dA]
   ·(conv=>whnf)
    refine cF (eK) [] Tryz.call33 ?_
    rintro _ _ ⟨rfl,rfl⟩
    refine gO ?_
    refine aO (qN aN (dO sp1 sq1) (by decide) hpl2 hrd2) [7,8,1,2] Tryz.call18 rfl (by simp[aN,dO,gV,cO]) (by simp[aN,dO,gV,cO]) (by simp) ?_
    rintro _ _ ⟨zy,sp4,sq4,rfl,rfl,hzy⟩
    refine gO ?_
    refine⟨(zy,sp4,sq4),[(6,some 6),(7,some 9),(8,some 10)],⟨by rfl,?_,?_⟩,hzy⟩
    ·simp[aN,dO,dA]
    ·simp[aN,dO,dA]
  ·rintro⟨zy,sp4,sq4⟩ hzy
   simp only at hzx hzy⊢
   have hrd3:tG aN=0:=by decide
   refine gO ?_
   refine cF (eK) [] Tryz.call33 ?_
   rintro _ _ ⟨rfl,rfl⟩
   refine gO ?_
   refine aO (Lq aN (by decide) hrd3) [9,10] Tryz.call19 rfl (by simp[aN,cO]) (by simp[aN,cO]) (by simp) ?_
   rintro _ _ ⟨zz,sp5,sq5,rfl,rfl,hzz⟩
   refine gO ?_
   have e1:aL ⟨1+2+2,0,-1::([-1,1]++[-1,1]),zx,5+sp3,zx.length+sq3⟩=0:=Ak (F:=aN) (G:=iH sp2 sq2) (aK bX) (aK (Fr sp2 sq2)) (show(2:Int)+2<=198 by decide) (show((1:Nat):Int)+((1:Nat):Int)<=2500 by decide) hzx _ _
   have e2:aL ⟨1+2+2,0,-1::([-1,1].map dL++[-1,1]),zy,5+sp4,zy.length+sq4⟩=0:=Bi (F:=aN) (G:=dO sp1 sq1) (aK bX) (aK (xX sp1 sq1)) (show(2:Int)+2<=198 by decide) (show((1:Nat):Int)+((1:Nat):Int)<=2500 by decide) hzy (by simp[aN]) (jX _) _ _
   have e3:aL ⟨1+2,0,0::[-1,1].map dL,zz,3+sp5,zz.length+sq5⟩=0:=Ew (F:=aN) (aK bX) (by decide) (by decide) hzz (by simp[aN]) (jX _) _ _
   have c1:cG ⟨1+2+2,0,-1::([-1,1]++[-1,1]),zx,5+sp3,zx.length+sq3⟩ [2] [2]=0:=(iF _ _ e1 bX).trans (by decide)
   have c2:cG ⟨1+2+2,0,-1::([-1,1].map dL++[-1,1]),zy,5+sp4,zy.length+sq4⟩ [1,2] [2,1]=0:=(iF _ _ e2 bX).trans (by decide)
   have c3:cG ⟨1+2,0,0::[-1,1].map dL,zz,3+sp5,zz.length+sq5⟩ [1,1] [2,2]=0:=(iF _ _ e3 bX).trans (by decide)
   refine cF (pZ ⟨1+2+2,0,-1::([-1,1]++[-1,1]),zx,5+sp3,zx.length+sq3⟩ [2] [2] 1 1 (by simp) c1) [4,5,14,15] Tryz.call36 ?_
   rintro _ _ ⟨n1,hn1,rfl,rfl⟩
   obtain rfl:=Oc hzx hn1
   refine gO ?_
   refine cF (pZ ⟨1+2+2,0,-1::([-1,1].map dL++[-1,1]),zy,5+sp4,zy.length+sq4⟩ [1,2] [2,1] 2 2 (by simp) c2) [7,8,16,17] Tryz.call36 ?_
   rintro _ _ ⟨n2,hn2,rfl,rfl⟩
   obtain rfl:=Ov hzy hn2
   refine gO ?_
   refine aO (pZ ⟨1+2,0,0::[-1,1].map dL,zz,3+sp5,zz.length+sq5⟩ [1,1] [2,2] 2 2 (by simp) c3) [11,12,18,19] Tryz.call36 rfl (by simp[aN,gE]) (by simp[aN,gE]) (by simp) ?_
   rintro _ _ ⟨n3,hn3,rfl,rfl⟩
   obtain rfl:=Wa hzz hn3
   refine gO ?_
   refine aQ.is ?_
   simp
section
variable (U:TF) (W vs:List (List Int))
end
section
variable {U:TF} {W vs:List (List Int)}
end
section
variable {F U:TF} {st:DS} (h:fE F U st) (h12:F.st<=12) (hn: ∃w c,CW U U.start w c) {W vs:List (List Int)} {par sym:List Int} (hw:WSt U W vs par sym W.length 1)
variable {c1 c2:Nat} {cls:List Int} (hc:rG (phT (mkD U st 0 0) c1 c2) cls)
include hc
end
section
variable {F U:TF} {st:DS} (h:fE F U st) (h12:F.st<=12) {W vs:List (List Int)} {par sym:List Int} (hw:WSt U W vs par sym W.length 1)
include h h12
end
section
variable {U:TF} {W vs:List (List Int)}
end
theorem aAg (a b:List Int) (ca cb:Nat) (ha:a.length<=9223372036854775807) (hl:b.length<=9223372036854775807):
  Ct Tryz.prog 136 [.c (.sl 0 1 0 a.length ca),.c (.sl 1 1 0 b.length cb)] [] [(0,.arr false 3 .int a 0),(1,.arr false 3 .int b 0)] 2 (fun v s=>v= .b (decide (a=b))/\s=⟨[],[],2⟩):=by
 refine ctW Tryz.tyOk 6 [12,13] Tryz.func136 rfl (by simp) (by simp) (fr:= [(0,.c (.sl 0 1 0 a.length ca)),(1,.c (.sl 1 1 0 b.length cb))]) rfl ?_
 refine gO ?_
 refine⟨fun h=>?_,fun h=>?_⟩
 ·have:a≠b:=fun e=>by rw[e]at h;omega
  (conv=>whnf)
  exact⟨[],[],2,.b (decide (a=b)),⟨by rfl,trivial,trivial⟩,by simp[this],rfl,rfl⟩
 have hab:a.length=b.length:=by omega
 clear h
 (conv=>whnf)
 refine aJ (fun k:Nat=>⟨[(0,.c (.sl 0 1 0 a.length ca)),(1,.c (.sl 1 1 0 b.length cb)),(12,.i a.length),(13,.i k)],[(0,.arr false 3 .int a 0),(1,.arr false 3 .int b 0)],2⟩) (fun k=>k<=a.length/\ ∀j,j<k->a.getD j 0=b.getD j 0) (fun k=>a.length-k) 0 [] ⟨by rfl,?_,?_⟩ ⟨Nat.zero_le _,fun j h=>absurd h (Nat.not_lt_zero _)⟩ ?_
 ·simp
 ·simp
 ·intro k ⟨hk1,hk2⟩
  (conv=>whnf)
  refine aG (fun hk=>?_) (fun hk=>?_)
  ·have e0:0+(k:Int).toNat=k:=by omega
   refine gO ?_
   refine⟨fun h=>?_,fun h=>?_⟩
   ·simp only[Nat.zero_add,Int.toNat_natCast,EK.dflt]at h
    have:a≠b:=fun e=>h (by rw[e])
    (conv=>whnf)
    exact⟨[],[],2,.b (decide (a=b)),⟨by rfl,trivial,trivial⟩,by simp[this],rfl,rfl⟩
   ·simp only[Nat.zero_add,Int.toNat_natCast,EK.dflt]at h
    (conv=>whnf)
    refine⟨k+1,[],⟨by rfl,?_,?_⟩,⟨by omega,fun j hj=>?_⟩,by omega⟩
    ·simp
    ·simp
    ·exact if e:j=k then e▸(by omega)else hk2 j (by omega)
  ·have:a=b:=Ij a b hab fun j hj=>hk2 j (by omega)
   refine gO ?_
   exact⟨[],[],2,.b (decide (a=b)),⟨by rfl,trivial,trivial⟩,by simp[this],rfl,rfl⟩
theorem aAh (a b:List Arc) (ca cb:Nat) (ha:a.length<=9223372036854775807) (hl:b.length<=9223372036854775807):
  Ct Tryz.prog 137 [.c (.sl 0 5 0 a.length ca),.c (.sl 1 5 0 b.length cb)] [] [(0,.arr false 55 .arc a 0),(1,.arr false 55 .arc b 0)] 2 (fun v s=>v= .b (decide (a=b))/\s=⟨[],[],2⟩):=by
 refine ctW Tryz.tyOk 6 [12,13] Tryz.func137 rfl (by simp) (by simp) (fr:= [(0,.c (.sl 0 5 0 a.length ca)),(1,.c (.sl 1 5 0 b.length cb))]) rfl ?_
 refine gO ?_
 refine⟨fun h=>?_,fun h=>?_⟩
 ·have:a≠b:=fun e=>by rw[e]at h;omega
  (conv=>whnf)
  exact⟨[],[],2,.b (decide (a=b)),⟨by rfl,trivial,trivial⟩,by simp[this],rfl,rfl⟩
 have hab:a.length=b.length:=by omega
 clear h
 (conv=>whnf)
 refine aJ (fun k:Nat=>⟨[(0,.c (.sl 0 5 0 a.length ca)),(1,.c (.sl 1 5 0 b.length cb)),(12,.i a.length),(13,.i k)],[(0,.arr false 55 .arc a 0),(1,.arr false 55 .arc b 0)],2⟩) (fun k=>k<=a.length/\ ∀j,j<k->a.getD j EK.arc.dflt=b.getD j EK.arc.dflt) (fun k=>a.length-k) 0 [] ⟨by rfl,?_,?_⟩ ⟨Nat.zero_le _,fun j h=>absurd h (Nat.not_lt_zero _)⟩ ?_
 ·simp
 ·simp
 ·intro k ⟨hk1,hk2⟩
  (conv=>whnf)
  refine aG (fun hk=>?_) (fun hk=>?_)
  ·have e0:0+(k:Int).toNat=k:=by omega
   refine gO ?_
   refine⟨fun h=>?_,fun h=>?_⟩
   ·rw[Sd]at h
    simp only[Nat.zero_add,Int.toNat_natCast,Bool.not_eq_true',decide_eq_false_iff_not]at h
    have:a≠b:=fun e=>h (by rw[e])
    (conv=>whnf)
    exact⟨[],[],2,.b (decide (a=b)),⟨by rfl,trivial,trivial⟩,by simp[this],rfl,rfl⟩
   ·rw[Sd]at h
    simp only[Nat.zero_add,Int.toNat_natCast,Bool.not_eq_false',decide_eq_true_eq,Bool.not_eq_true',Bool.not_eq_false,decide_eq_false_iff_not,Decidable.not_not]at h
    (conv=>whnf)
    refine⟨k+1,[],⟨by rfl,?_,?_⟩,⟨by omega,fun j hj=>?_⟩,by omega⟩
    ·simp
    ·simp
    ·exact if e:j=k then e▸h else hk2 j (by omega)
  ·have:a=b:=Cu a b hab fun j hj=>hk2 j (by omega)
   refine gO ?_
   exact⟨[],[],2,.b (decide (a=b)),⟨by rfl,trivial,trivial⟩,by simp[this],rfl,rfl⟩
theorem aA1 (F G:TF) (h1:F.fin.length<=9223372036854775807) (h2:G.fin.length<=9223372036854775807) (h3:F.arcs.length<=9223372036854775807) (h4:G.arcs.length<=9223372036854775807):
  Ct Tryz.prog 96 [fV F,gV G] [] (hpG F G) 4 (fun v s=>v= .b (eW F G)/\s=⟨[],[],4⟩):=by
 have hs:eW F G=(decide (F.st=G.st)&&(decide (F.start=G.start)&&(decide (F.fin=G.fin)&&decide (F.arcs=G.arcs)))):=by
  unfold eW
  simp only[Bool.decide_and]
 have cI:=aAg F.fin G.fin F.capF G.capF h1 h2
 have cA:=aAh F.arcs G.arcs F.capA G.capA h3 h4
 generalize decide (F.fin=G.fin)=bf at*
 generalize decide (F.arcs=G.arcs)=ba at*
 refine ctC Tryz.tyOk Tryz.func96 rfl (by simp[gV]) (by simp) (fr:= [(0,fV F),(1,gV G)]) rfl ?_
 refine gH.of Tryz.tyOk 5 [] ?_
 by_cases e1:F.st=G.st
 ·by_cases e2:F.start=G.start
  ·rw[decide_eq_true e1,decide_eq_true e2,Bool.true_and,Bool.true_and]at hs
   refine gO ?_
   intro h h
   all_goals try(exfalso;omega)
   all_goals (conv=>whnf)
   refine cF (cI) [0,2] Tryz.call136 ?_
   rintro _ _ ⟨rfl,rfl⟩
   cases bf with
   |false=>
    refine gI ?_
    exact⟨[],[],4,.b (eW F G),⟨by rfl,trivial,by simp⟩,by simp[hs],rfl,rfl⟩
   |true=>
    refine gI ?_
    refine cF (cA) [1,3] Tryz.call137 ?_
    rintro _ _ ⟨rfl,rfl⟩
    refine gI ?_
    exact⟨[],[],4,.b (eW F G),⟨by rfl,trivial,by simp⟩,by simp[hs],rfl,rfl⟩
  ·rw[decide_eq_true e1,decide_eq_false e2,Bool.true_and,Bool.false_and]at hs
   refine gO ?_
   intro h h
   all_goals try(exfalso;omega)
   all_goals
    (conv=>whnf)
    exact⟨[],[],4,.b (eW F G),⟨by rfl,trivial,by simp⟩,by simp[hs,e1,e2],rfl,rfl⟩
 ·rw[decide_eq_false e1,Bool.false_and]at hs
  refine gO fun h=>?_
  all_goals try(exfalso;omega)
  all_goals
   (conv=>whnf)
   exact⟨[],[],4,.b (eW F G),⟨by rfl,trivial,by simp⟩,by simp[hs,e1],rfl,rfl⟩
theorem Sk (F:TF) (hl:F.fin.length<=9223372036854775807) (x:Glo) (hx:gJ x):Ct Tryz.prog 27 [fV F] [] (hpF F++[(2,aF x)]) 3 (mK F x):=by
 refine ctW Tryz.tyOk 4 [] Tryz.func27 rfl (by simp) (by simp) (fr:= [(0,fV F)]) rfl ?_
 refine gO ?_
 refine cF (Gj F hl x hx) [0,1,2] Tryz.call77 ?_
 rintro v s (⟨h1,rfl,rfl⟩|⟨h1,U,hus,⟨h2,rfl,rfl⟩|⟨h2,st,hmd,n,ff,oo,hls,⟨hg,rfl,rfl⟩|⟨hg,sp,sq,rfl,rfl⟩⟩⟩)
 ·refine gI ?_
  exact⟨[],[(2,aF x)],3,.tup [.agg aW,.c (.i (cV F))],⟨by rfl,trivial,by simp⟩,by simp,.inl ⟨h1,rfl,rfl⟩⟩
 ·refine gI ?_
  exact⟨[],[(2,aF x)],3,.tup [.agg aW,.c (.i 2)],⟨by rfl,trivial,by simp⟩,by simp,.inr ⟨h1,U,hus,.inl ⟨h2,rfl,rfl⟩⟩⟩
 ·refine gI ?_
  exact⟨[],[(2,aF x)],3,.tup [.agg aW,.c (.i 2)],⟨by rfl,trivial,by simp⟩,by simp,.inr ⟨h1,U,hus,.inr ⟨h2,st,hmd,n,ff,oo,hls,.inl ⟨hg,rfl,rfl⟩⟩⟩⟩
 ·refine gM ?_
  exact⟨[(3,some 5),(4,some 6)],[(2,aF x),(3,.arr true 3 .int ff sp),(4,.arr true 55 .arc oo sq)],5,.tup [.agg [.i (n:Nat),.i 0,.sl 3 1 0 ff.length (ff.length+sp),.sl 4 5 0 oo.length (oo.length+sq)],.c (.i 0)],⟨by rfl,trivial,by simp⟩,by simp,.inr ⟨h1,U,hus,.inr ⟨h2,st,hmd,n,ff,oo,hls,.inr ⟨hg,sp,sq,rfl,rfl⟩⟩⟩⟩
def Cd (F:TF) (e:Int) (n:Nat) (ff:List Int) (oo:List Arc):Prop:=
 (cV F≠0/\e=cV F)\/
 (cV F=0/\ ∃U,lC F U/\((200<iO U 201 200 [⟨U.start,0⟩]/\e=2)\/
  (iO U 201 200 [⟨U.start,0⟩]<=200/\ ∃st:DS,jI U st/\aAF U st n ff oo/\(eM oo ff=true/\e=2\/eM oo ff=false/\e=0))))
def aD9 (x:Glo) (e:Int) (n:Nat) (ff:List Int) (oo:List Arc) (v:SV) (s:S):Prop:=
 (e≠0/\v= .tup [.agg aW,.c (.i e)]/\s=⟨[],[(2,aF x)],3⟩)\/
 (e=0/\ ∃sp sq,v= .tup [.agg [.i (n:Nat),.i 0,.sl 3 1 0 ff.length (ff.length+sp),.sl 4 5 0 oo.length (oo.length+sq)],.c (.i 0)]/\
  s=⟨[],[(2,aF x),(3,.arr true 3 .int ff sp),(4,.arr true 55 .arc oo sq)],5⟩)
theorem mK.split {F:TF} {x:Glo} {v:SV} {s:S} (h:mK F x v s): ∃e n ff oo,Cd F e n ff oo/\aD9 x e n ff oo v s:=by
 rcases h with⟨h1,h2,h3⟩|⟨h1,U,hus,⟨h2,h3,h4⟩|⟨h2,st,hmd,n,ff,oo,hls,⟨hg,h3,h4⟩|⟨hg,sp,sq,h3,h4⟩⟩⟩
 ·exact⟨cV F,0,[],[],.inl ⟨h1,rfl⟩,.inl ⟨h1,h2,h3⟩⟩
 ·exact⟨2,0,[],[],.inr ⟨h1,U,hus,.inl ⟨h2,rfl⟩⟩,.inl ⟨by decide,h3,h4⟩⟩
 ·exact⟨2,n,ff,oo,.inr ⟨h1,U,hus,.inr ⟨h2,st,hmd,hls,.inl ⟨hg,rfl⟩⟩⟩,.inl ⟨by decide,h3,h4⟩⟩
 ·exact⟨0,n,ff,oo,.inr ⟨h1,U,hus,.inr ⟨h2,st,hmd,hls,.inr ⟨hg,rfl⟩⟩⟩,.inr ⟨rfl,sp,sq,h3,h4⟩⟩
theorem Cd.len {F:TF} {n:Nat} {ff:List Int} {oo:List Arc} (h:Cd F 0 n ff oo) (hF:FOk F) (h12:F.st<=12) (hf:lK F=true):ff.length=n/\n<=200/\oo.length<=9223372036854775807:=by
 rcases h with⟨h1,h2⟩|⟨_,U,hus,⟨_,h2⟩|⟨h2,st,hmd,hls,_⟩⟩
 ·exact absurd h2.symm h1
 ·cases h2
 ·have hD:fE F U st:=⟨hF,hf,hus,h2,hmd⟩
  rcases hls with⟨_,rfl,rfl,rfl⟩|⟨hn,c1,c2,cls,left,outs,hc,m1,m2,m3,rfl,rfl,rfl⟩
  ·simp
  ·have hB:=(hD.fokB h12 0 0).1
   have hX:=Qr hB (c1:=c1) (c2:=c2) fun q hq=>by
    have hq:q<((st.1.length:Nat):Int).toNat:=hq
    have:=Od hD h12 hn (q:=q) (by omega)
    unfold dsD at this
    omega
   have hs:=hD.small.2.1
   have e:(phT (mkD U st 0 0) c1 c2).st=((st.1.length:Nat):Int):=rfl
   have e2:(adF (dsD U st 0) (left.map (fiA (phT (mkD U st 0 0) c1 c2)))).length=left.length:=by unfold adF;split<;>simp
   have hl:=m3.le hX.st.1 hc.bd
   simp only at hl
   have hk: ∀k,(bP (phT (mkD U st 0 0) c1 c2) cls k).2.length<=k*(phT (mkD U st 0 0) c1 c2).arcs.length:=fun k=>by
    induction k with
    |zero=>simp[bP]
    |succ k ih=>
     have:=(xQ (D:=phT (mkD U st 0 0) c1 c2) (cls:=cls) (i:=k) (s:=(bP (phT (mkD U st 0 0) c1 c2) cls k).1.getD k 0) (st:=bP (phT (mkD U st 0 0) c1 c2) cls k) (phT (mkD U st 0 0) c1 c2).arcs.length).1
     show(mgP _ _ _ _ _ _).2.length<=_
     rw[Nat.succ_mul]
     omega
   have h2:=hk left.length
   rw[m1]at h2
   have h4:left.length*(phT (mkD U st 0 0) c1 c2).arcs.length<=200*(phT (mkD U st 0 0) c1 c2).arcs.length:=Nat.mul_le_mul_right _ (by omega)
   have h5:=hX.arc1
   refine⟨e2,by omega,?_⟩
   rw[List.length_map]
   simp only at h2
   omega
theorem Cd.len2 {F:TF} {n:Nat} {ff:List Int} {oo:List Arc} (h:Cd F 0 n ff oo):ff.length=n/\n<=200/\oo.length<=9223372036854775807:=by
 by_cases h0:aL F=0
 ·by_cases h12:F.st<=12
  ·by_cases hf:lK F=true
   ·exact h.len (aK h0) h12 hf
   ·exfalso
    have hd:cV F=4:=by unfold cV;rw[if_neg (fun c=>c h0),if_neg (by omega),if_neg hf]
    rcases h with⟨h1,h2⟩|⟨h1,_⟩<;>omega
  ·exfalso
   have hd:cV F=2:=by unfold cV;rw[if_neg (fun c=>c h0),if_pos (by omega)]
   rcases h with⟨h1,h2⟩|⟨h1,_⟩<;>omega
 ·exfalso
  have hd:cV F=aL F:=by unfold cV;rw[if_pos h0]
  rcases h with⟨h1,h2⟩|⟨h1,_⟩<;>omega
def Lv (F G:TF) (x:Glo) (v:SV) (s:S):Prop:= ∃e n ff oo,Cd F e n ff oo/\
 ((e≠0/\v= .tup [.c (.b false),.c (.i e)])\/
  (e=0/\ ∃e' n' ff' oo',Cd G e' n' ff' oo'/\((e'≠0/\v= .tup [.c (.b false),.c (.i e')])\/(e'=0/\v= .tup [.c (.b (decide (n=n'/\ff=ff'/\oo=oo'))),.c (.i 0)]))))/\
 s=⟨[],[(4,aF x)],5⟩
theorem aDm (F G:TF) (h1:F.fin.length<=9223372036854775807) (h2:G.fin.length<=9223372036854775807) (x:Glo) (hx:gJ x):Ct Tryz.prog 45 [fV F,gV G] [] (hpG F G++[(4,aF x)]) 5 (Lv F G x):=by
 refine ctC Tryz.tyOk Tryz.func45 rfl (by simp[gV]) (by simp) (fr:= [(0,fV F),(1,gV G)]) rfl ?_
 refine gH.of Tryz.tyOk 9 [] ?_
 refine gO ?_
 refine cF (Gj F h1 x hx) [0,1,4] Tryz.call77 ?_
 rintro v s hp
 obtain⟨e,n,ff,oo,hA,hO⟩:=hp.split
 clear hp
 rcases hO with⟨h0,rfl,rfl⟩|⟨rfl,sp,sq,rfl,rfl⟩
 ·refine gI fun h=>?_
  all_goals try(exfalso;omega)
  (conv=>whnf)
  try simp only[Nat.reduceAdd,Nat.reduceSub]
  exact⟨[],[(4,aF x)],5,.tup [.c (.b false),.c (.i e)],⟨by rfl,trivial,by simp⟩,by simp,e,n,ff,oo,hA,.inl ⟨h0,rfl⟩,rfl⟩
 ·have hlen:=hA.len2
  refine gM ?_
  refine aO (Gj G h2 x hx) [2,3,4] Tryz.call77 rfl (by simp[gV]) (by simp[gV]) (by simp) ?_
  rintro v s hp
  obtain⟨e',n',ff',oo',hA',hO⟩:=hp.split
  clear hp
  rcases hO with⟨h0,rfl,rfl⟩|⟨rfl,sp',sq',rfl,rfl⟩
  ·refine gI fun h=>?_
   all_goals try(exfalso;omega)
   (conv=>whnf)
   try simp only[Nat.reduceAdd,Nat.reduceSub]
   exact⟨[],[(4,aF x)],5,.tup [.c (.b false),.c (.i e')],⟨by rfl,trivial,by simp⟩,by simp,0,n,ff,oo,hA,.inr ⟨rfl,e',n',ff',oo',hA',.inl ⟨h0,rfl⟩⟩,rfl⟩
  ·have hlen':=hA'.len2
   refine gM ?_
   have cS:=aA1 ⟨(n:Nat),0,ff,oo,ff.length+sp,oo.length+sq⟩ ⟨(n':Nat),0,ff',oo',ff'.length+sp',oo'.length+sq'⟩ (by simp only;omega) (by simp only;omega) hlen.2.2 hlen'.2.2
   have hse:eW ⟨(n:Nat),0,ff,oo,ff.length+sp,oo.length+sq⟩ ⟨(n':Nat),0,ff',oo',ff'.length+sp',oo'.length+sq'⟩=decide (n=n'/\ff=ff'/\oo=oo'):=by
    unfold eW
    refine decide_eq_decide.2 ⟨fun⟨a,_,b,c⟩=>⟨by simp only at a;omega,b,c⟩,fun⟨a,b,c⟩=>⟨by rw[a],rfl,b,c⟩⟩
   rw[hse]at cS
   have hpo:Lv F G x (.tup [.c (.b (decide (n=n'/\ff=ff'/\oo=oo'))),.c (.i 0)]) ⟨[],[(4,aF x)],5⟩:=⟨0,n,ff,oo,hA,.inr ⟨rfl,0,n',ff',oo',hA',.inr ⟨rfl,rfl⟩⟩,rfl⟩
   generalize decide (n=n'/\ff=ff'/\oo=oo')=r at*
   clear hA hA' hse
   refine aO (cS) [7,8,10,11] Tryz.call96 rfl (by simp[gV]) (by simp[gV]) (by simp) ?_
   rintro _ _ ⟨rfl,rfl⟩
   refine gI ?_
   exact⟨[],[(4,aF x)],5,.tup [.c (.b r),.c (.i 0)],⟨by rfl,trivial,by simp⟩,by simp,hpo⟩
theorem aDu {F:TF} {a b:Int} (hb:b≠ -1) (c d:Nat) (hF:F=⟨2,0,[-1,b],[⟨0,1,1,1,a⟩],c,d⟩) {p:Nat->Bool} (h:nH F p):p 0=true/\p 1=true:=by
 subst hF
 have ha:(⟨0,1,1,1,a⟩:Arc)∈([⟨0,1,1,1,a⟩]:List Arc):=by simp
 have r0:Rch ([⟨0,1,1,1,a⟩]:List Arc) false [0] 0:= .here (by simp)
 have r1:Rch ([⟨0,1,1,1,a⟩]:List Arc) false [0] 1:=Rch.on r0 ha rfl
 have b1:Rch ([⟨0,1,1,1,a⟩]:List Arc) true [((1:Nat):Int)] 1:= .here (by simp)
 have b0:Rch ([⟨0,1,1,1,a⟩]:List Arc) true [((1:Nat):Int)] 0:=Rch.on b1 ha rfl
 exact⟨(h.iff 0 (by simp)).2 ⟨r0,1,by simp,by simpa using hb,b0⟩,(h.iff 1 (by simp)).2 ⟨r1,1,by simp,by simpa using hb,b1⟩⟩
theorem Xc {F U:TF} {a b:Int} (hb:b≠ -1) {c d:Nat} (hF:F=⟨2,0,[-1,b],[⟨0,1,1,1,a⟩],c,d⟩) (h:lC F U):U=⟨2,0,[-1,b],[⟨0,1,1,1,a⟩],U.capF,U.capA⟩:=by
 obtain⟨p,hp,h1,h2,h3,h4⟩:=h
 obtain⟨p0,p1⟩:=aDu hb c d hF hp
 have hk:kT F p=⟨2,0,[-1,b],[⟨0,1,1,1,a⟩],0,0⟩:=by
  rw[hF]
  simp[kT,rkB,bY,bW,kOk,jN,p0,p1,List.getD,aD]
 rw[hk]at h1 h2 h3 h4
 obtain⟨a,b,c,d,e,f⟩:=U
 simp only at h1 h2 h3 h4⊢
 rw[h1,h2,h3,h4]
theorem Xd {F:TF} {a b:Int} (hb:0<=b) {c d:Nat} (hF:F=⟨2,0,[-1,b],[⟨0,1,1,1,a⟩],c,d⟩) (h0:cV F=0)
  (h1: ∀c d,iO ⟨2,0,[-1,b],[⟨0,1,1,1,a⟩],c,d⟩ 201 200 [⟨0,0⟩]=2) (h2: ∀c d,bN ⟨2,0,[-1,b],[⟨0,1,1,1,a⟩],c,d⟩ 2=([[⟨0,0⟩],[⟨1,0⟩]],[⟨0,1,1,1,a⟩]))
  (h3: ∀c d,([[⟨0,0⟩],[⟨1,0⟩]]:List (List Duo)).map (bQ ⟨2,0,[-1,b],[⟨0,1,1,1,a⟩],c,d⟩)=[-1,b]) (h4:(onS ⟨2,0,[-1,b],[⟨0,1,1,1,a⟩],0,0⟩).1=[a+b,b])
  (h5:a+b=6) (ha:a≠ -1)
  {e:Int} {n:Nat} {ff:List Int} {oo:List Arc} (h:Cd F e n ff oo):e=0/\n=2/\ff=[-1,0]/\oo=[⟨0,1,1,1,6⟩]:=by
 rcases h with⟨h,_⟩|⟨_,U,hus,⟨h,_⟩|⟨h,st,hmd,hls,hg⟩⟩
 ·exact absurd h0 h
 ·have hU:=Xc (by omega) hF hus
  rw[hU]at h
  have:=h1 U.capF U.capA
  simp only at h
  omega
 ·have hU:=Xc (by omega) hF hus
  generalize U.capF=cu at hU
  generalize U.capA=du at hU
  subst hU
  have hst:=hmd.uniq ⟨2,h2 cu du,rfl⟩
  subst hst
  have hD:mkD ⟨2,0,[-1,b],[⟨0,1,1,1,a⟩],cu,du⟩ ([[⟨0,0⟩],[⟨1,0⟩]],[⟨0,1,1,1,a⟩]) 0 0=⟨2,0,[-1,b],[⟨0,1,1,1,a⟩],0,0⟩:=by
   unfold mkD
   simp only[h3]
   rfl
  have hX: ∀c1 c2,phT ⟨2,0,[-1,b],[⟨0,1,1,1,a⟩],0,0⟩ c1 c2=⟨2,0,[-1,0],[⟨0,1,1,1,0⟩],c1,c2⟩:=fun c1 c2=>by
   unfold phT
   simp only[h4]
   have hbn: ¬b= -1:=by omega
   have hb6: ¬a+b= -1:=by omega
   simp[eC,yY,dD,tH,hbn,hb6,List.range_succ]
   omega
  rcases hls with⟨hn,_⟩|⟨_,c1,c2,cls,left,outs,hc,m1,m2,m3,rfl,rfl,rfl⟩
  ·exfalso
   refine hn ⟨[1],a+b,1,a,?_,?_,?_⟩
   ·have:=RdW.cons (L:= [⟨0,1,1,1,a⟩]) (a:=⟨0,1,1,1,a⟩) (by simp) (.nil _)
    simpa using this
   ·simp;omega
   ·simp
  ·have hds:dsD ⟨2,0,[-1,b],[⟨0,1,1,1,a⟩],cu,du⟩ ([[⟨0,0⟩],[⟨1,0⟩]],[⟨0,1,1,1,a⟩]) 0=6:=by
    unfold dsD
    rw[hD,h4]
    simpa using h5
   rw[hD,hX]at hc m1 m2 m3
   rw[hds,hD,hX]
   have hne:cls.getD 0 0≠cls.getD 1 0:=fun he=>by
    have hDF:Hs ⟨2,0,[-1,0],[⟨0,1,1,1,0⟩],c1,c2⟩:=⟨⟨by simp,by simp,by simp,by simp⟩,by simp,by simp,by simp,by simp,by simp⟩
    have:=((hc.iff hDF (i:=0) (j:=1) (by simp) (by simp)).1 he).1
    simp at this
   have k1:clA cls 1≠clA cls 0:=fun he=>hne he.symm
   have g1:bP ⟨2,0,[-1,0],[⟨0,1,1,1,0⟩],c1,c2⟩ cls 1=([0,1],[⟨0,1,1,1,0⟩]):=by
    simp[bP,mgP,mU,mgL,mgN,k1,List.getD,List.idxOf_cons,show(clA cls 0==clA cls 1)=false by simpa using fun h=>k1 h.symm]
   have g2:bP ⟨2,0,[-1,0],[⟨0,1,1,1,0⟩],c1,c2⟩ cls 2=([0,1],[⟨0,1,1,1,0⟩]):=by
    show mgP _ cls 1 ((bP _ cls 1).1.getD 1 0) (bP _ cls 1) 1=_
    rw[g1]
    simp[mgP,mU,List.getD]
   have hL:left.length=2:=by
    rcases Nat.lt_trichotomy left.length 2 with g|g|g
    ·exfalso
     rcases(show left.length=0\/left.length=1 by omega)with e|e
     ·rw[e]at m1
      have:(bP ⟨2,0,[-1,0],[⟨0,1,1,1,0⟩],c1,c2⟩ cls 0).1.length=1:=rfl
      rw[m1]at this
      simp only at this
      omega
     ·rw[e,g1]at m1
      have:=congrArg (fun p:List Int×List Arc=>p.1.length) m1
      simp only[List.length_cons,List.length_nil]at this
      omega
    ·exact g
    ·exfalso
     have:=m2 2 g
     rw[g2]at this
     simp at this
   rw[hL,g2]at m1
   simp only[Prod.mk.injEq]at m1
   obtain⟨rfl,rfl⟩:=m1
   have hff:adF 6 (([0,1]:List Int).map (fiA ⟨2,0,[-1,0],[⟨0,1,1,1,0⟩],c1,c2⟩))=[-1,0]:=by simp[adF,fiA,List.getD]
   have hoo:([⟨0,1,1,1,0⟩]:List Arc).map (adA 6)=[⟨0,1,1,1,6⟩]:=by simp[adA]
   rw[hds,hD,hX]at hg
   rw[hff,hoo]at hg
   refine⟨?_,hL,hff,hoo⟩
   rcases hg with⟨hg,_⟩|⟨_,hg⟩
   ·exact absurd hg (by decide)
   ·exact hg
theorem Xp {e:Int} {n:Nat} {ff:List Int} {oo:List Arc} (h:Cd oJ e n ff oo):e=0/\n=2/\ff=[-1,0]/\oo=[⟨0,1,1,1,6⟩]:=
 Xd (a:=5) (b:=1) (by omega) rfl (by decide) (fun c d=>by kernel_rfl) (fun c d=>by kernel_rfl) (fun c d=>by kernel_rfl) (by kernel_rfl) (by omega) (by omega) h
theorem aA2 {c d:Nat} {e:Int} {n:Nat} {ff:List Int} {oo:List Arc} (h:Cd ⟨2,0,[-1,0],[⟨0,1,1,1,6⟩],c,d⟩ e n ff oo):e=0/\n=2/\ff=[-1,0]/\oo=[⟨0,1,1,1,6⟩]:=
 Xd (a:=6) (b:=0) (by omega) rfl (by kernel_rfl) (fun c d=>by kernel_rfl) (fun c d=>by kernel_rfl) (fun c d=>by kernel_rfl) (by kernel_rfl) (by omega) (by omega) h
theorem Gk (x:Glo) (hx:gJ x):Ct Tryz.prog 11 [] [] [(0,aF x)] 1 (fun v s=>v= .b true/\s=⟨[],[(0,aF x)],1⟩):=by
 refine ctW Tryz.tyOk 5 [] Tryz.func11 rfl (by simp) (by simp) (fr:= []) rfl ?_
 refine gO ?_
 refine cF (yO) [] Tryz.call39 ?_
 rintro _ _ ⟨rfl,rfl⟩
 refine gM ?_
 refine cF (Sk oJ (by decide) x hx) [1,2,0] Tryz.call27 ?_
 rintro v s hp
 obtain⟨e,n,ff,oo,hA,hO⟩:=hp.split
 obtain⟨rfl,rfl,rfl,rfl⟩:=Xp hA
 clear hp hA
 rcases hO with⟨h0,_⟩|⟨_,sp,sq,rfl,rfl⟩
 ·exact absurd rfl h0
 refine gM ?_
 refine cF (yO) [] Tryz.call39 ?_
 rintro _ _ ⟨rfl,rfl⟩
 refine gM ?_
 refine aO (aDm oJ ⟨2,0,[-1,0],[⟨0,1,1,1,6⟩],2+sp,1+sq⟩ (by decide) (by simp) x hx) [6,7,3,4,0] Tryz.call45 rfl (by simp[gV]) (by simp[gV]) (by simp) ?_
 rintro v s ⟨e,n,ff,oo,hA,hR,rfl⟩
 obtain⟨rfl,rfl,rfl,rfl⟩:=Xp hA
 rcases hR with⟨h0,_⟩|⟨_,e',n',ff',oo',hA',hR'⟩
 ·exact absurd rfl h0
 obtain⟨rfl,rfl,rfl,rfl⟩:=aA2 hA'
 rcases hR' with⟨h0,_⟩|⟨_,rfl⟩
 ·exact absurd rfl h0
 rw[decide_eq_true (show 2=2/\([-1,0]:List Int)=[-1,0]/\([⟨0,1,1,1,6⟩]:List Arc)=[⟨0,1,1,1,6⟩]from⟨rfl,rfl,rfl⟩)]
 clear hA hA'
 refine gM ?_
 refine cF (mP [-1,0] [-1,0] (2+sp) 2 (by decide) (by decide)) [3,8] Tryz.call42 ?_
 rintro _ _ ⟨rfl,rfl⟩
 refine gI ?_
 all_goals
  (conv=>whnf)
  exact⟨[],[(0,aF x)],1,.b true,⟨by rfl,trivial,by simp⟩,by simp,rfl,rfl⟩
theorem Yn {sp sq:Nat} {c:Int}:aDp (Wt aN) (Wt (dO sp sq)) [1] [1] c <-> c=12:=by
 unfold aN dO
 constructor
 ·rintro⟨w,a,b,h1,h2,rfl⟩
  rw[iX]at h1 h2
  omega
 ·rintro rfl
  refine⟨[2],6,6,?_,?_,rfl⟩
  ·rw[iX];simp[lab]
  ·rw[iX];simp[lab]
theorem Bj {sp1 sq1:Nat} {v:SV} {s:S} (h:Sn aN (dO sp1 sq1) 4 v s): ∃(T:TF) (sp sq:Nat),aL T=0/\(∀n,cB (Wt T [1] [1]) n->n=12)/\v= .tup [.agg [.i T.st,.i T.start,.sl 4 1 0 T.fin.length (T.fin.length+sp),.sl 5 5 0 T.arcs.length (T.arcs.length+sq)],.c (.i 0)]/\s=⟨[],[(4,.arr true 3 .int T.fin sp),(5,.arr true 55 .arc T.arcs sq)],6⟩:=by
 have oF:=aK bX
 have oG:=aK (xX sp1 sq1)
 obtain⟨x,zs,hd,hn,⟨_,_,hb⟩|⟨hg,p,hp,h1,h2,sp,sq,rfl,rfl⟩⟩:=h
 ·have e1:lI aN=5:=rfl
  have e2:lI (dO sp1 sq1)=5:=rfl
  have:=aAn oF oG hd hn hb
  rw[e1,e2]at this
  simp[aN,dO]at this
 ·obtain⟨k1,k2⟩:=Vk oF oG (by decide) (by decide) (show(2:Int)<=12 by decide) (show((1:Nat):Int)<=100 by decide) hd hn hg hp h1 h2
  refine⟨_,sp,sq,k1,fun n hm=>?_,rfl,rfl⟩
  exact Yz (k2 _ _ _ hm) fun c=>Yn
theorem As:Ct Tryz.prog 7 [] [] [] 0 (Is 0 (.b true)):=by
 refine ctW Tryz.tyOk 8 [] Tryz.func7 rfl (by simp) (by simp) (fr:= []) rfl ?_
 refine gO ?_
 refine cF (eK) [] Tryz.call33 ?_
 rintro _ _ ⟨rfl,rfl⟩
 refine gO ?_
 refine aO (vU aN (by decide) bX) [0,1] Tryz.call16 rfl (by simp[aN,cO]) (by simp[aN,cO]) (by simp) ?_
 rintro _ _ ⟨zs,sp1,sq1,rfl,rfl,hz⟩
 obtain rfl:=zH (a:=⟨0,2,1,1,5⟩) hz
 have hpl:(dO sp1 sq1).fin.length<=9223372036854775807:=by simp[dO]
 have hce:gC aN (dO sp1 sq1)=0:=by show gC aN (dO 0 0)=0;decide
 repeat' (first|exact rfl|((conv=>whnf);first|(refine qX (fun h=>?_) fun h=>?_<;>try exact absurd h (by omega))|refine oN ?_|refine oM ?_ ?_|refine bM ?_ ?_))
 (conv=>whnf)
 refine jO (fun y:TF×Nat×Nat=>⟨[(0,.b false),(2,.i 0),(3,.c (.ptr 0 0)),(4,.i 0)],
  [(0,.box 25 [.i y.1.st,.i y.1.start,.sl 1 1 0 y.1.fin.length (y.1.fin.length+y.2.1),.sl 2 5 0 y.1.arcs.length (y.1.arcs.length+y.2.2)]),(1,.arr true 3 .int y.1.fin y.2.1),(2,.arr true 55 .arc y.1.arcs y.2.2)],3⟩) (fun y=>aL y.1=0/\ ∀n,cB (Wt y.1 [1] [1]) n->n=12) ?_ ?_
 ·refine gO ?_
  refine⟨?_,?_⟩
  ·refine cF (eK) [] Tryz.call33 ?_
   rintro _ _ ⟨rfl,rfl⟩
   refine gO ?_
   refine⟨?_,?_⟩
   all_goals
    (conv=>whnf)
    simp only[Nat.reduceAdd,Nat.reduceSub]
    refine aO (sF aN (dO sp1 sq1) (by decide) hpl hce) [5,6,2,3] Tryz.call20 rfl (by simp[aN,dO,gV,cO]) (by simp[aN,dO,gV,cO]) (by simp) ?_
    rintro _ _ hv
    obtain⟨T,sp,sq,h1,h2,rfl,rfl⟩:=Bj hv
    refine gN ?_
    first
     |(refine⟨(T,sp,sq),[(0,some 9),(1,some 7),(2,some 8)],⟨by rfl,?_,?_⟩,h1,h2⟩;(focus (simp;done));(focus (simp;done)))
     |(refine⟨(T,sp,sq),[(0,some 7),(1,some 8),(2,some 9)],⟨by rfl,?_,?_⟩,h1,h2⟩;(focus (simp;done));(focus (simp;done)))
  ·(conv=>whnf)
   refine cF (eK) [] Tryz.call33 ?_
   rintro _ _ ⟨rfl,rfl⟩
   refine gN ?_
   refine aO (sF aN (dO sp1 sq1) (by decide) hpl hce) [6,7,2,3] Tryz.call20 rfl (by simp[aN,dO,gV,cO]) (by simp[aN,dO,gV,cO]) (by simp) ?_
   rintro _ _ hv
   obtain⟨T,sp,sq,h1,h2,rfl,rfl⟩:=Bj hv
   refine gN ?_
   refine⟨(T,sp,sq),[(0,some 5),(1,some 8),(2,some 9)],⟨by rfl,?_,?_⟩,h1,h2⟩
   ·simp
   ·simp
 ·rintro⟨T,sp,sq⟩ ⟨h1,h2⟩
  simp only at h1 h2⊢
  have hsc:cG ⟨T.st,T.start,T.fin,T.arcs,T.fin.length+sp,T.arcs.length+sq⟩ [1] [1]=0:=(iF (X:=⟨T.st,T.start,T.fin,T.arcs,T.fin.length+sp,T.arcs.length+sq⟩) _ _ h1 bX).trans (by decide)
  have hTl:T.fin.length<=9223372036854775807:=by
   have:=(aK h1).finl
   have:=(aK h1).st
   omega
  refine gO ?_
  refine cF (pZ ⟨T.st,T.start,T.fin,T.arcs,T.fin.length+sp,T.arcs.length+sq⟩ [1] [1] 1 1 hTl hsc) [1,2,3,4] Tryz.call36 ?_
  rintro _ _ ⟨n1,hn1,rfl,rfl⟩
  obtain rfl:=h2 n1 (hn1.1 hsc).1
  refine gO ?_
  refine aQ.is ?_
  simp
attribute [simp] Value.oneCell' oY
theorem gU {n:Int} (h0:0<=n) (h1:n<=9223372036854775807):(Lib.itoa n).length<=21:=Lib.itoa_length_le n (by omega) h1
def vW (word:List UInt8) (k:Nat):List UInt8:=if 0<k\/word≠ []then [32]else []
def lnK (word:List UInt8) (ns:List Int):Nat->List UInt8
 |0=>word
 |k+1=>lnK word ns k++vW word k++Lib.itoa (ns.getD k 0)
def lnF (word:List UInt8) (ns:List Int):List UInt8:=lnK word ns ns.length++[10]
theorem Zy (word:List UInt8) (k:Nat):(vW word k).length<=1:=by
 unfold vW
 split<;>simp
theorem Gh {word:List UInt8} {ns:List Int} (hn: ∀n∈ns,0<=n/\n<=9223372036854775807): ∀k:Nat,k<=ns.length->(lnK word ns k).length<=word.length+22*k
 |0,_=>by simp[lnK]
 |k+1,hk=>by
  have h1:=Gh hn (word:=word) k (by omega)
  have h2:=hn _ (aB ns k 0 (by omega))
  have h3:=gU h2.1 h2.2
  have h4:=Zy word k
  simp only[lnK,List.length_append]
  omega
theorem Zh (g:Glo) (hg:gJ g) (word:List UInt8) (ns:List Int) (cap:Nat) (hw:word.length<=100) (hl:ns.length<=100) (hn: ∀n∈ns,0<=n/\n<=9223372036854775807):
  Ct Tryz.prog 80 [stV word,.c (.sl 0 1 0 ns.length cap)] [] [(0,.arr false 3 .int ns 0),(1,aF g)] 2 (fun v s=>v=stV (lnF word ns)/\s=⟨[],[(1,aF g)],2⟩):=by
 refine ctW Tryz.tyOk 8 [9,10,11] Tryz.func80 rfl (by simp) (by simp) (fr:= [(0,stV word),(1,.c (.sl 0 1 0 ns.length cap))]) rfl ?_
 refine gO ?_
 refine aJ (fun k:Nat=>⟨[(0,stV word),(5,stV (lnK word ns k)),(9,.c (.sl 0 1 0 ns.length cap)),(10,.i ns.length),(11,.i k)],[(0,.arr false 3 .int ns 0),(1,aF g)],2⟩)
  (fun k=>k<=ns.length) (fun k=>ns.length-k) 0 [] ⟨by rfl,?_,?_⟩ (Nat.zero_le _) ?_
 ·simp[lnK]
 ·simp[aF]
 ·intro k hk
  have hkl:=Gh hn (word:=word) k hk
  (conv=>whnf)
  refine aG (fun hk2=>?_) (fun hk2=>?_)
  ·have hr:=hn _ (aB ns k 0 (by omega))
   have e0:0+(k:Int).toNat=k:=by omega
   have hi:=gU hr.1 hr.2
   have hs:lnK word ns (k+1)=lnK word ns k++vW word k++Lib.itoa (ns.getD k 0):=rfl
   generalize hx:lnK word ns k=x at*
   have hv:ns.getD (0+(k:Int).toNat) EK.int.dflt=ns.getD k 0:=by rw[e0];rfl
   have hend: ∀gp:List UInt8,vW word k=gp->bs (lnK word ns (k+1))=bs x++bs gp++bs (Lib.itoa (ns.getD k 0)):=fun gp h=>by rw[hs,h,cX,cX]
   clear hs
   refine gO ?_
   refine⟨fun h=>?_,fun h=>⟨fun h=>?_,fun h=>?_⟩⟩
   ·rw[hv]
    refine cF (iY g hg (ns.getD k 0) (by omega) (by omega)) [1] Tryz.call79 ?_
    rintro _ _ ⟨rfl,rfl⟩
    refine gO ?_
    refine⟨k+1,[],⟨by rfl,?_,?_⟩,by omega,by omega⟩
    ·have:=hend [32] (by unfold vW;rw[if_pos (.inl (by omega))])
     simp[this,oY]
    ·simp[aF]
   ·rw[bE]at h
    (conv=>whnf)
    rw[hv]
    refine cF (iY g hg (ns.getD k 0) (by omega) (by omega)) [1] Tryz.call79 ?_
    rintro _ _ ⟨rfl,rfl⟩
    refine gO ?_
    refine⟨k+1,[],⟨by rfl,?_,?_⟩,by omega,by omega⟩
    ·have:=hend [32] (by unfold vW;rw[if_pos (.inr h)])
     simp[this,oY]
    ·simp[aF]
   ·rw[bE]at h
    (conv=>whnf)
    rw[hv]
    refine cF (iY g hg (ns.getD k 0) (by omega) (by omega)) [1] Tryz.call79 ?_
    rintro _ _ ⟨rfl,rfl⟩
    refine gO ?_
    refine⟨k+1,[],⟨by rfl,?_,?_⟩,by omega,by omega⟩
    ·have:=hend [] (by unfold vW;rw[if_neg (by rintro(h1|h1)<;>first|omega|exact h1 h)])
     rw[show bs x++bs []=bs x by rw[cX,List.append_nil]]at this
     simp[this,oY]
    ·simp[aF]
  ·have e:k=ns.length:=by omega
   subst e
   refine gO ?_
   exact⟨[],[(1,aF g)],2,stV (lnF word ns),⟨by rfl,trivial,by simp[aF]⟩,by simp[lnF,oY,cX],rfl,rfl⟩
end Go.Fw
