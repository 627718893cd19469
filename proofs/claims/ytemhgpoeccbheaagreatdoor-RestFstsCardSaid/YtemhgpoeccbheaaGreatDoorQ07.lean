/-
  Joined: either of two, one behind the other, again and again: the ways of what is joined.
-/
import Derived.Test.YtemhgpoeccbheaaGreatDoorQ06
import Derived.Test.YtemhgpoeccbheaaGreatDoorQ04
set_option linter.unusedSimpArgs false
set_option linter.unusedVariables false
set_option maxRecDepth 100000
set_option maxHeartbeats 16000000
namespace Go.Fw
open Go
def shA (k:Int) (a:Arc):Arc:=⟨a.f+k,a.i,a.o,a.t+k,a.w⟩
def cK (f t w:Int):Arc:=⟨f,0,0,t,w⟩
def cM (far to:Int) (fin:List Int):Nat->List Arc
 |0=> []
 |k+1=>cM far to fin k++(if fin.getD k 0= -1 then []else [cK (far+k) to (fin.getD k 0)])
theorem wC {far to:Int} {fin:List Int} {a:Arc}: ∀(k:Nat),a∈cM far to fin k <-> ∃n,n<k/\fin.getD n 0≠ -1/\a=cK (far+n) to (fin.getD n 0)
 |0=>by simp[cM]
 |k+1=>by
  rw[cM,List.mem_append,wC k]
  constructor
  ·rintro(⟨n,h1,h2,h3⟩|h)
   ·exact⟨n,by omega,h2,h3⟩
   ·split at h
    ·cases h
    ·rw[List.mem_singleton]at h
     exact⟨k,by omega,by assumption,h⟩
  ·rintro⟨n,h1,h2,h3⟩
   by_cases e:n=k
   ·subst e
    right
    rw[if_neg h2,h3]
    simp
   ·exact .inl ⟨n,by omega,h2,h3⟩
theorem gY (far to:Int) (fin:List Int): ∀k,(cM far to fin k).length<=k
 |0=>Nat.le_refl _
 |k+1=>by
  have:=gY far to fin k
  rw[cM,List.length_append]
  split<;>simp<;>omega
theorem Way.sil {L:List Arc} {f t w:Int} (h:cK f t w∈L) {u v:List Int} {r c:Int} (h2:Way L t u v r c):Way L f u v r (w+c):=by
 have:=Way.cons h h2
 simpa[cK,lab]using this
theorem Way.sh {L M:List Arc} {k:Int} (hL: ∀a∈L,shA k a∈M) {s t:Int} {u v:List Int} {c:Int} (h:Way L s u v t c):Way M (s+k) u v (t+k) c:=by
 induction h with
 |nil s=>exact .nil _
 |cons ha h ih=>exact .cons (hL _ ha) ih
theorem bG.way {xs zs:List Arc} (h:bG xs zs) {s t:Int} {u v:List Int} {c:Int} (hw:Way xs s u v t c): ∃d,d<=c/\Way zs s u v t d:=by
 induction hw with
 |nil s=>exact⟨0,Int.le_refl _,.nil s⟩
 | @cons a u v t c ha h2 ih=>
   obtain⟨d,hd,hw⟩:=ih
   obtain⟨z,hz,⟨k1,k2,k3,k4⟩,hwz⟩:=h.cov a ha
   refine⟨z.w+d,by omega,?_⟩
   rw[<-k1,<-k2,<-k3]
   rw[<-k4]at hw
   exact .cons hz hw
def WtL (L:List Arc) (start:Int) (fin:List Int) (u v:List Int) (c:Int):Prop:= ∃t d,Way L start u v t d/\fin.getD t.toNat 0≠ -1/\c=d+fin.getD t.toNat 0
theorem bG.min {xs:List Arc} {X:TF} (h:bG xs X.arcs) {u v:List Int} {n:Int} (hn:cB (Wt X u v) n):cB (WtL xs X.start X.fin u v) n:=by
 have hup: ∀c,WtL xs X.start X.fin u v c-> ∃d,d<=c/\Wt X u v d:=by
  rintro c ⟨t,d,h1,h2,rfl⟩
  obtain⟨e,he,hw⟩:=h.way h1
  exact⟨e+X.fin.getD t.toNat 0,by omega,t,e,hw,h2,rfl⟩
 have hdn: ∀c,Wt X u v c->WtL xs X.start X.fin u v c:=by
  rintro c ⟨t,d,h1,h2,rfl⟩
  exact⟨t,d,h1.mono h.sub,h2,rfl⟩
 rcases hn with⟨rfl,h1⟩|⟨h0,h1,h2⟩
 ·refine .inl ⟨rfl,fun c hc=>?_⟩
  obtain⟨d,_,hd⟩:=hup c hc
  exact h1 d hd
 ·refine .inr ⟨h0,hdn n h1,fun c hc=>?_⟩
  obtain⟨d,hd,hw⟩:=hup c hc
  have:=h2 d hw
  omega
theorem cB.cong {P Q:Int->Prop} {n:Int} (h:cB P n) (hpq: ∀c,P c <-> Q c):cB Q n:=by
 rcases h with⟨rfl,h1⟩|⟨h0,h1,h2⟩
 ·exact .inl ⟨rfl,fun c hc=>h1 c ((hpq c).2 hc)⟩
 ·exact .inr ⟨h0,(hpq n).1 h1,fun c hc=>h2 c ((hpq c).2 hc)⟩
def bR (F G:TF):List Arc:=F.arcs.map (shA 1)++[cK 0 (1+F.start) 0]++G.arcs.map (shA (1+F.st))++[cK 0 (1+F.st+G.start) 0]
theorem eN {F G:TF} {a:Arc}:a∈bR F G <-> (∃b∈F.arcs,a=shA 1 b)\/a=cK 0 (1+F.start) 0\/(∃b∈G.arcs,a=shA (1+F.st) b)\/a=cK 0 (1+F.st+G.start) 0:=by
 simp only[bR,List.mem_append,List.mem_map,List.mem_singleton]
 constructor
 ·rintro(((⟨b,hb,rfl⟩|rfl)|⟨b,hb,rfl⟩)|rfl)
  ·exact .inl ⟨b,hb,rfl⟩
  ·exact .inr (.inl rfl)
  ·exact .inr (.inr (.inl ⟨b,hb,rfl⟩))
  ·exact .inr (.inr (.inr rfl))
 ·rintro(⟨b,hb,rfl⟩|rfl|⟨b,hb,rfl⟩|rfl)
  ·exact .inl (.inl (.inl ⟨b,hb,rfl⟩))
  ·exact .inl (.inl (.inr rfl))
  ·exact .inl (.inr ⟨b,hb,rfl⟩)
  ·exact .inr rfl
theorem Gw {l m:List Int} {x:Int} {y k:Int} (hk:k=1+(l.length:Int)) (h0:0<=y):(x::(l++m)).getD (y+k).toNat 0=m.getD y.toNat 0:=by
 have e:(y+k).toNat=(l.length+y.toNat)+1:=by omega
 rw[e,List.getD_cons_succ]
 simp[List.getD,List.getElem?_append_right]
theorem Gv {l m:List Int} {x:Int} {y:Int} (h0:0<=y) (h:y<l.length):(x::(l++m)).getD (y+1).toNat 0=l.getD y.toNat 0:=by
 have e:(y+1).toNat=y.toNat+1:=by omega
 rw[e,List.getD_cons_succ]
 have:y.toNat<l.length:=by omega
 simp[List.getD,List.getElem?_append_left this]
theorem Kp {F G:TF} (hF:FOk F) (hG:FOk G) {s t:Int} {u v:List Int} {c:Int} (h:Way (bR F G) s u v t c):(∀x,s=x+1->0<=x->x<F.st-> ∃y,t=y+1/\Way F.arcs x u v y c)/\(∀x,s=x+(1+F.st)->0<=x-> ∃y,t=y+(1+F.st)/\Way G.arcs x u v y c):=by
 induction h with
 |nil s=>exact⟨fun x hx _ _=>⟨x,hx,.nil x⟩,fun x hx _=>⟨x,hx,.nil x⟩⟩
 | @cons a u v t c ha h ih=>
   rcases eN.1 ha with⟨b,hb,rfl⟩|rfl|⟨b,hb,rfl⟩|rfl
   ·have hbo:=hF.arc b hb
    have:=hbo.f1
    have:=hbo.t0
    have:=hbo.t1
    refine⟨fun x hx h0 h1=>?_,fun x hx h0=>?_⟩
    ·obtain⟨y,e,hw⟩:=ih.1 b.t rfl (by omega) (by omega)
     have ex:b.f=x:=by unfold shA at hx;simp only at hx;omega
     subst ex
     exact⟨y,e,.cons hb hw⟩
    ·unfold shA at hx
     simp only at hx
     omega
   ·refine⟨fun x hx h0 h1=>?_,fun x hx h0=>?_⟩
    ·unfold cK at hx;simp only at hx;omega
    ·unfold cK at hx;simp only at hx;have:=hF.st;omega
   ·have hbo:=hG.arc b hb
    have:=hbo.f0
    have:=hbo.t0
    refine⟨fun x hx h0 h1=>?_,fun x hx h0=>?_⟩
    ·unfold shA at hx
     simp only at hx
     omega
    ·obtain⟨y,e,hw⟩:=ih.2 b.t rfl (by omega)
     have ex:b.f=x:=by unfold shA at hx;simp only at hx;omega
     subst ex
     exact⟨y,e,.cons hb hw⟩
   ·refine⟨fun x hx h0 h1=>?_,fun x hx h0=>?_⟩
    ·unfold cK at hx;simp only at hx;omega
    ·unfold cK at hx;simp only at hx;have:=hF.st;omega
theorem Ve {F G:TF} (hF:FOk F) (hG:FOk G) {u v:List Int} {c:Int}:WtL (bR F G) 0 (-1::(F.fin++G.fin)) u v c <-> Wt F u v c\/Wt G u v c:=by
 have hfl:=hF.finl
 have hgl:=hG.finl
 have hfs:=hF.start
 have hgs:=hG.start
 constructor
 ·rintro⟨t,d,hw,hf,rfl⟩
  have key: ∀s,s=0->Way (bR F G) s u v t d->t=0\/Way (bR F G) (1+F.start) u v t d\/Way (bR F G) (1+F.st+G.start) u v t d:=by
   intro s hs h
   cases h with
   |nil=>exact .inl hs
   | @cons a u v t c ha h=>
     rcases eN.1 ha with⟨b,hb,rfl⟩|rfl|⟨b,hb,rfl⟩|rfl
     ·have:=(hF.arc b hb).f0
      unfold shA at hs;simp only at hs;omega
     ·right;left;simpa[cK,lab]using h
     ·have:=(hG.arc b hb).f0
      have:=hF.st
      unfold shA at hs;simp only at hs;omega
     ·right;right;simpa[cK,lab]using h
  rcases key 0 rfl hw with rfl|h|h
  ·exact absurd rfl hf
  ·obtain⟨y,rfl,hy⟩:=(Kp hF hG h).1 F.start (by omega) hfs.1 hfs.2
   have hr:=hy.rng hF.arc hfs
   rw[Gv hr.1 (by omega)]at hf⊢
   exact .inl ⟨y,d,hy,hf,rfl⟩
  ·obtain⟨y,rfl,hy⟩:=(Kp hF hG h).2 G.start (by omega) hgs.1
   have hr:=hy.rng hG.arc hgs
   rw[Gw (by omega) hr.1]at hf⊢
   exact .inr ⟨y,d,hy,hf,rfl⟩
 ·rintro(⟨t,d,hw,hf,rfl⟩|⟨t,d,hw,hf,rfl⟩)
  ·have hr:=hw.rng hF.arc hfs
   have h1:=hw.sh (M:=bR F G) (k:=1) fun a ha=>eN.2 (.inl ⟨a,ha,rfl⟩)
   have h2:Way (bR F G) 0 u v (t+1) (0+d):=Way.sil (t:=1+F.start) (eN.2 (.inr (.inl rfl))) (by rw[Int.add_comm 1];exact h1)
   rw[Int.zero_add]at h2
   refine⟨t+1,d,h2,?_⟩
   rw[Gv hr.1 (by omega)]
   exact⟨hf,rfl⟩
  ·have hr:=hw.rng hG.arc hgs
   have h1:=hw.sh (M:=bR F G) (k:=1+F.st) fun a ha=>eN.2 (.inr (.inr (.inl ⟨a,ha,rfl⟩)))
   have h2:Way (bR F G) 0 u v (t+(1+F.st)) (0+d):=Way.sil (t:=1+F.st+G.start) (eN.2 (.inr (.inr (.inr rfl)))) (by rw[Int.add_comm (1+F.st)];exact h1)
   rw[Int.zero_add]at h2
   refine⟨t+(1+F.st),d,h2,?_⟩
   rw[Gw (by omega) hr.1]
   exact⟨hf,rfl⟩
def dP (F G:TF):List Arc:=F.arcs.map (shA 1)++G.arcs.map (shA (1+F.st))++[cK 0 (1+F.start) 0]++cM 1 (1+F.st+G.start) F.fin F.fin.length
def hJ (F:TF):List Arc:=F.arcs.map (shA 1)++[cK 0 (1+F.start) 0]++cM 1 0 F.fin F.fin.length
theorem eQ {F G:TF} {a:Arc}:a∈dP F G <-> (∃b∈F.arcs,a=shA 1 b)\/(∃b∈G.arcs,a=shA (1+F.st) b)\/a=cK 0 (1+F.start) 0\/ ∃n,n<F.fin.length/\F.fin.getD n 0≠ -1/\a=cK (1+n) (1+F.st+G.start) (F.fin.getD n 0):=by
 unfold dP
 rw[List.mem_append,List.mem_append,List.mem_append,List.mem_map,List.mem_map,List.mem_singleton,wC]
 constructor
 ·rintro(((⟨b,hb,rfl⟩|⟨b,hb,rfl⟩)|rfl)|h)
  ·exact .inl ⟨b,hb,rfl⟩
  ·exact .inr (.inl ⟨b,hb,rfl⟩)
  ·exact .inr (.inr (.inl rfl))
  ·exact .inr (.inr (.inr h))
 ·rintro(⟨b,hb,rfl⟩|⟨b,hb,rfl⟩|rfl|h)
  ·exact .inl (.inl (.inl ⟨b,hb,rfl⟩))
  ·exact .inl (.inl (.inr ⟨b,hb,rfl⟩))
  ·exact .inl (.inr rfl)
  ·exact .inr h
theorem hH {F:TF} {a:Arc}:a∈hJ F <-> (∃b∈F.arcs,a=shA 1 b)\/a=cK 0 (1+F.start) 0\/ ∃n,n<F.fin.length/\F.fin.getD n 0≠ -1/\a=cK (1+n) 0 (F.fin.getD n 0):=by
 unfold hJ
 rw[List.mem_append,List.mem_append,List.mem_map,List.mem_singleton,wC]
 constructor
 ·rintro((⟨b,hb,rfl⟩|rfl)|h)
  ·exact .inl ⟨b,hb,rfl⟩
  ·exact .inr (.inl rfl)
  ·exact .inr (.inr h)
 ·rintro(⟨b,hb,rfl⟩|rfl|h)
  ·exact .inl (.inl ⟨b,hb,rfl⟩)
  ·exact .inl (.inr rfl)
  ·exact .inr h
theorem aAw {F G:TF} (hF:FOk F) (hG:FOk G) {s t:Int} {u v:List Int} {c:Int} (h:Way (dP F G) s u v t c):
  (∀x,s=x+(1+F.st)->0<=x-> ∃y,t=y+(1+F.st)/\Way G.arcs x u v y c)/\
  (∀x,s=x+1->0<=x->x<F.st->(∃y,t=y+1/\Way F.arcs x u v y c)\/ ∃u1 u2 v1 v2 y c1 c2,u=u1++u2/\v=v1++v2/\Way F.arcs x u1 v1 y c1/\F.fin.getD y.toNat 0≠ -1/\(∃z,t=z+(1+F.st)/\Way G.arcs G.start u2 v2 z c2)/\c=c1+F.fin.getD y.toNat 0+c2):=by
 have hst:=hF.st
 have hfl:=hF.finl
 induction h with
 |nil s=>exact⟨fun x hx _=>⟨x,hx,.nil x⟩,fun x hx _ _=> .inl ⟨x,hx,.nil x⟩⟩
 | @cons a u v t c ha h ih=>
   rcases eQ.1 ha with⟨b,hb,rfl⟩|⟨b,hb,rfl⟩|rfl|⟨n,hn,hnf,rfl⟩
   ·have hbo:=hF.arc b hb
    have:=hbo.f1
    have:=hbo.t0
    have:=hbo.t1
    refine⟨fun x hx h0=>?_,fun x hx h0 h1=>?_⟩
    ·unfold shA at hx;simp only at hx;omega
    ·have ex:b.f=x:=by unfold shA at hx;simp only at hx;omega
     subst ex
     rcases ih.2 b.t rfl (by omega) (by omega)with⟨y,e,hw⟩|⟨u1,u2,v1,v2,y,c1,c2,rfl,rfl,hw,hf,hz,rfl⟩
     ·exact .inl ⟨y,e,.cons hb hw⟩
     ·refine .inr ⟨lab b.i++u1,u2,lab b.o++v1,v2,y,b.w+c1,c2,by simp[shA],by simp[shA],.cons hb hw,hf,hz,?_⟩
      show b.w+_=_
      omega
   ·have hbo:=hG.arc b hb
    have:=hbo.f0
    have:=hbo.t0
    refine⟨fun x hx h0=>?_,fun x hx h0 h1=>?_⟩
    ·obtain⟨y,e,hw⟩:=ih.1 b.t rfl (by omega)
     have ex:b.f=x:=by unfold shA at hx;simp only at hx;omega
     subst ex
     exact⟨y,e,.cons hb hw⟩
    ·unfold shA at hx;simp only at hx;omega
   ·refine⟨fun x hx h0=>?_,fun x hx h0 h1=>?_⟩
    ·unfold cK at hx;simp only at hx;omega
    ·unfold cK at hx;simp only at hx;omega
   ·refine⟨fun x hx h0=>?_,fun x hx h0 h1=>?_⟩
    ·unfold cK at hx;simp only at hx;omega
    ·have ex:(n:Int)=x:=by unfold cK at hx;simp only at hx;omega
     subst ex
     obtain⟨z,e,hw⟩:=ih.1 G.start (by show(1+F.st+G.start)=_;omega) hG.start.1
     refine .inr ⟨[],u,[],v,n,0,c,by simp[cK,lab],by simp[cK,lab],.nil _,by simpa using hnf,⟨z,e,hw⟩,?_⟩
     show F.fin.getD n 0+c=0+F.fin.getD ((n:Int).toNat) 0+c
     simp
theorem Ka {l:List Int} {i:Int} (hg: ∀i,i<l.length->l.getD i 0= -1) (h0:0<=i) (h1:i<l.length):l.getD i.toNat 0= -1:=hg _ (by omega)
def aEa (P Q:List Int->List Int->Int->Prop) (u v:List Int) (c:Int):Prop:= ∃u1 u2 v1 v2 c1 c2,u=u1++u2/\v=v1++v2/\P u1 v1 c1/\Q u2 v2 c2/\c=c1+c2
theorem Vq {F G:TF} (hF:FOk F) (hG:FOk G) {l:List Int} (hl:l.length=F.fin.length) (hg: ∀i,i<l.length->l.getD i 0= -1) {u v:List Int} {c:Int}:WtL (dP F G) 0 (-1::(l++G.fin)) u v c <-> aEa (Wt F) (Wt G) u v c:=by
 have hfl:=hF.finl
 have hgl:=hG.finl
 have hfs:=hF.start
 have hgs:=hG.start
 have hst:=hF.st
 constructor
 ·rintro⟨t,d,hw,hf,rfl⟩
  have key: ∀s,s=0->Way (dP F G) s u v t d->t=0\/Way (dP F G) (1+F.start) u v t d:=by
   intro s hs h
   cases h with
   |nil=>exact .inl hs
   | @cons a u v t c ha h=>
     rcases eQ.1 ha with⟨b,hb,rfl⟩|⟨b,hb,rfl⟩|rfl|⟨n,hn,hnf,rfl⟩
     ·have:=(hF.arc b hb).f0
      unfold shA at hs;simp only at hs;omega
     ·have:=(hG.arc b hb).f0
      unfold shA at hs;simp only at hs;omega
     ·right;simpa[cK,lab]using h
     ·unfold cK at hs;simp only at hs;omega
  rcases key 0 rfl hw with rfl|h
  ·exact absurd rfl hf
  ·rcases(aAw hF hG h).2 F.start (by omega) hfs.1 hfs.2 with⟨y,rfl,hy⟩|⟨u1,u2,v1,v2,y,c1,c2,rfl,rfl,hy,hyf,⟨z,rfl,hz⟩,rfl⟩
   ·have hr:=hy.rng hF.arc hfs
    rw[Gv hr.1 (by omega),Ka hg hr.1 (by omega)]at hf
    exact absurd rfl hf
   ·have hr:=hz.rng hG.arc hgs
    rw[Gw (by omega) hr.1]at hf⊢
    exact⟨u1,u2,v1,v2,_,_,rfl,rfl,⟨y,c1,hy,hyf,rfl⟩,⟨z,c2,hz,hf,rfl⟩,by omega⟩
 ·rintro⟨u1,u2,v1,v2,c1,c2,rfl,rfl,⟨y,d1,hy,hyf,rfl⟩,⟨z,d2,hz,hzf,rfl⟩,rfl⟩
  have hry:=hy.rng hF.arc hfs
  have hrz:=hz.rng hG.arc hgs
  have w1:=hy.sh (M:=dP F G) (k:=1) fun a ha=>eQ.2 (.inl ⟨a,ha,rfl⟩)
  have w2:=hz.sh (M:=dP F G) (k:=1+F.st) fun a ha=>eQ.2 (.inr (.inl ⟨a,ha,rfl⟩))
  have w3:Way (dP F G) (y+1) u2 v2 (z+(1+F.st)) (F.fin.getD y.toNat 0+d2):=by
   refine Way.sil (t:=1+F.st+G.start) (eQ.2 (.inr (.inr (.inr ⟨y.toNat,by omega,hyf,?_⟩)))) (by rw[Int.add_comm (1+F.st)];exact w2)
   rw[show(1:Int)+(y.toNat:Int)=y+1 by omega]
  have w4:=w1.app w3
  have w5:Way (dP F G) 0 (u1++u2) (v1++v2) (z+(1+F.st)) (0+(d1+(F.fin.getD y.toNat 0+d2))):=Way.sil (t:=1+F.start) (eQ.2 (.inr (.inr (.inl rfl)))) (by rw[Int.add_comm 1];exact w4)
  refine⟨z+(1+F.st),_,w5,?_⟩
  rw[Gw (by omega) hrz.1]
  exact⟨hzf,by omega⟩
inductive Lu (P:List Int->List Int->Int->Prop):List Int->List Int->Int->Prop
 |nil:Lu P [] [] 0
 |cons {u1 v1 u2 v2:List Int} {c1 c2:Int} (h1:P u1 v1 c1) (h2:Lu P u2 v2 c2):Lu P (u1++u2) (v1++v2) (c1+c2)
theorem aB3 {F:TF} (hF:FOk F) {s t:Int} {u v:List Int} {c:Int} (h:Way (hJ F) s u v t c) (ht:t=0):
  (s=0->Lu (Wt F) u v c)/\
  (∀x,s=x+1->0<=x->x<F.st-> ∃u1 u2 v1 v2 y c1 c2,u=u1++u2/\v=v1++v2/\Way F.arcs x u1 v1 y c1/\F.fin.getD y.toNat 0≠ -1/\Lu (Wt F) u2 v2 c2/\c=c1+F.fin.getD y.toNat 0+c2):=by
 have hst:=hF.st
 have hfl:=hF.finl
 have hfs:=hF.start
 induction h with
 |nil s=>exact⟨fun _=> .nil,fun x hx _ _=>absurd hx (by omega)⟩
 | @cons a u v t c ha h ih=>
   have ih:=ih ht
   rcases hH.1 ha with⟨b,hb,rfl⟩|rfl|⟨n,hn,hnf,rfl⟩
   ·have hbo:=hF.arc b hb
    have:=hbo.f0
    have:=hbo.t0
    have:=hbo.t1
    refine⟨fun hx=>?_,fun x hx h0 h1=>?_⟩
    ·unfold shA at hx;simp only at hx;omega
    ·have ex:b.f=x:=by unfold shA at hx;simp only at hx;omega
     subst ex
     obtain⟨u1,u2,v1,v2,y,c1,c2,rfl,rfl,hw,hf,hz,rfl⟩:=ih.2 b.t rfl (by omega) (by omega)
     refine⟨lab b.i++u1,u2,lab b.o++v1,v2,y,b.w+c1,c2,by simp[shA],by simp[shA],.cons hb hw,hf,hz,?_⟩
     show b.w+_=_
     omega
   ·refine⟨fun hx=>?_,fun x hx h0 h1=>?_⟩
    ·obtain⟨u1,u2,v1,v2,y,c1,c2,rfl,rfl,hw,hf,hz,rfl⟩:=ih.2 F.start (by show 1+F.start=_;omega) hfs.1 hfs.2
     have:=Lu.cons (P:=Wt F) ⟨y,c1,hw,hf,rfl⟩ hz
     simpa[cK,lab]using this
    ·unfold cK at hx;simp only at hx;omega
   ·refine⟨fun hx=>?_,fun x hx h0 h1=>?_⟩
    ·unfold cK at hx;simp only at hx;omega
    ·have ex:(n:Int)=x:=by unfold cK at hx;simp only at hx;omega
     subst ex
     refine⟨[],u,[],v,n,0,c,by simp[cK,lab],by simp[cK,lab],.nil _,by simpa using hnf,ih.1 rfl,?_⟩
     show F.fin.getD n 0+c=0+F.fin.getD ((n:Int).toNat) 0+c
     simp
theorem aAA {F:TF} (hF:FOk F) {l:List Int} (hl:l.length=F.fin.length) (hg: ∀i,i<l.length->l.getD i 0= -1) {u v:List Int} {c:Int}:WtL (hJ F) 0 (0::l) u v c <-> Lu (Wt F) u v c:=by
 have hfl:=hF.finl
 have hfs:=hF.start
 have hst:=hF.st
 constructor
 ·rintro⟨t,d,hw,hf,rfl⟩
  have hr:0<=t/\t<1+F.st:=by
   refine hw.rng (st:=1+F.st) (fun a ha=>?_) (by omega)
   rcases hH.1 ha with⟨b,hb,rfl⟩|rfl|⟨n,hn,hnf,rfl⟩
   ·have h:=hF.arc b hb
    have:=h.f0;have:=h.f1;have:=h.t0;have:=h.t1
    exact⟨by show 0<=b.f+1;omega,by show b.f+1<_;omega,by show 0<=b.t+1;omega,by show b.t+1<_;omega,h.i0,h.o0,h.w0,h.w1⟩
   ·exact⟨by show(0:Int)<=0;omega,by show(0:Int)<_;omega,by show 0<=1+F.start;omega,by show 1+F.start<_;omega,by show(0:Int)<=0/\(0:Int)<=9;omega,by show(0:Int)<=0/\(0:Int)<=9;omega,by show(0:Int)<=0;omega,by show(0:Int)<=1000000000;omega⟩
   ·have h:=hF.fin _ (aB F.fin n 0 hn)
    exact⟨by show 0<=1+(n:Int);omega,by show 1+(n:Int)<_;omega,by show(0:Int)<=0;omega,by show(0:Int)<_;omega,by show(0:Int)<=0/\(0:Int)<=9;omega,by show(0:Int)<=0/\(0:Int)<=9;omega,by show 0<=F.fin.getD n 0;omega,by show F.fin.getD n 0<=_;omega⟩
  have ht:t=0:=by
   by_cases e:t=0
   ·exact e
   ·have e2:t.toNat=(t-1).toNat+1:=by omega
    rw[e2,List.getD_cons_succ,Ka hg (by omega) (by omega)]at hf
    exact absurd rfl hf
  subst ht
  have:=(aB3 hF hw rfl).1 rfl
  simpa using this
 ·intro h
  suffices H:Way (hJ F) 0 u v 0 c by exact⟨0,c,H,by simp,by simp⟩
  induction h with
  |nil=>exact .nil 0
  | @cons u1 v1 u2 v2 c1 c2 h1 h2 ih=>
    obtain⟨y,d1,hy,hyf,rfl⟩:=h1
    have hry:=hy.rng hF.arc hfs
    have w1:=hy.sh (M:=hJ F) (k:=1) fun a ha=>hH.2 (.inl ⟨a,ha,rfl⟩)
    have w3:Way (hJ F) (y+1) u2 v2 0 (F.fin.getD y.toNat 0+c2):=by
     refine Way.sil (t:=0) (hH.2 (.inr (.inr ⟨y.toNat,by omega,hyf,?_⟩))) ih
     rw[show(1:Int)+(y.toNat:Int)=y+1 by omega]
    have w5:Way (hJ F) 0 (u1++u2) (v1++v2) 0 (0+(d1+(F.fin.getD y.toNat 0+c2))):=Way.sil (t:=1+F.start) (hH.2 (.inr (.inl rfl))) (by rw[Int.add_comm 1];exact w1.app w3)
    rw[show d1+F.fin.getD y.toNat 0+c2=0+(d1+(F.fin.getD y.toNat 0+c2)) by omega]
    exact w5
theorem zU {st:Int} {fin:List Int} {raw zs:List Arc} (hst:1<=st/\st<=200) (hl:(fin.length:Int)=st) (hf: ∀n∈fin,-1<=n/\n<=1000000000) (hr: ∀a∈raw,nR st a) (hrl:raw.length<=3000) (h:bG raw zs) (cf ca:Nat):aL ⟨st,0,fin,zs,cf,ca⟩=0:=by
 refine Aa.2 ⟨⟨hst,⟨Int.le_refl _,by show(0:Int)<st;omega⟩,hl,hf,Nat.le_trans h.len hrl,fun a ha=>hr a (h.sub a ha)⟩,h.srt⟩
theorem yL {st far to:Int} {a:Arc} (h:nR st a) (h0:0<=far) (h1:far+st<=to):nR to (shA far a):=by
 have:=h.f0;have:=h.f1;have:=h.t0;have:=h.t1
 exact⟨by show 0<=a.f+far;omega,by show a.f+far<_;omega,by show 0<=a.t+far;omega,by show a.t+far<_;omega,h.i0,h.o0,h.w0,h.w1⟩
theorem pY {st f t w:Int} (hf:0<=f/\f<st) (ht:0<=t/\t<st) (hw:0<=w/\w<=1000000000):nR st (cK f t w):=
 ⟨hf.1,hf.2,ht.1,ht.2,by show(0:Int)<=0/\(0:Int)<=9;omega,by show(0:Int)<=0/\(0:Int)<=9;omega,hw.1,hw.2⟩
theorem Ak {F G:TF} (hF:FOk F) (hG:FOk G) (hs:F.st+G.st<=198) (ha:(F.arcs.length:Int)+G.arcs.length<=2500) {zs:List Arc} (h:bG (bR F G) zs) (cf ca:Nat):aL ⟨1+F.st+G.st,0,-1::(F.fin++G.fin),zs,cf,ca⟩=0:=by
 have f1:=hF.st
 have f2:=hF.finl
 have f3:=hF.start
 have g1:=hG.st
 have g2:=hG.finl
 have g3:=hG.start
 refine zU (by omega) (by simp;omega) (fun n hn=>?_) (fun a ha=>?_) (by simp[bR];omega) h cf ca
 ·rcases List.mem_cons.1 hn with rfl|hn
  ·omega
  ·rcases List.mem_append.1 hn with hn|hn
   ·exact hF.fin n hn
   ·exact hG.fin n hn
 ·rcases eN.1 ha with⟨b,hb,rfl⟩|rfl|⟨b,hb,rfl⟩|rfl
  ·exact yL (hF.arc b hb) (by omega) (by omega)
  ·exact pY (by omega) (by omega) (by omega)
  ·exact yL (hG.arc b hb) (by omega) (by omega)
  ·exact pY (by omega) (by omega) (by omega)
theorem Bi {F G:TF} (hF:FOk F) (hG:FOk G) (hs:F.st+G.st<=198) (ha:(F.arcs.length:Int)+G.arcs.length<=2500) {zs:List Arc} (h:bG (dP F G) zs) {l:List Int} (hl:l.length=F.fin.length) (hg: ∀i,i<l.length->l.getD i 0= -1) (cf ca:Nat):aL ⟨1+F.st+G.st,0,-1::(l++G.fin),zs,cf,ca⟩=0:=by
 have f1:=hF.st
 have f2:=hF.finl
 have f3:=hF.start
 have g1:=hG.st
 have g2:=hG.finl
 have g3:=hG.start
 have hel:=gY 1 (1+F.st+G.start) F.fin F.fin.length
 refine zU (by omega) (by simp;omega) (fun n hn=>?_) (fun a ha=>?_) (by simp[dP];omega) h cf ca
 ·rcases List.mem_cons.1 hn with rfl|hn
  ·omega
  ·rcases List.mem_append.1 hn with hn|hn
   ·obtain⟨i,hi,e⟩:=List.getElem_of_mem hn
    have:=hg i hi
    simp[List.getD,hi]at this
    omega
   ·exact hG.fin n hn
 ·rcases eQ.1 ha with⟨b,hb,rfl⟩|⟨b,hb,rfl⟩|rfl|⟨n,hn,hnf,rfl⟩
  ·exact yL (hF.arc b hb) (by omega) (by omega)
  ·exact yL (hG.arc b hb) (by omega) (by omega)
  ·exact pY (by omega) (by omega) (by omega)
  ·have:=hF.fin _ (aB F.fin n 0 hn)
   exact pY (by omega) (by omega) (by omega)
theorem Ew {F:TF} (hF:FOk F) (hs:F.st<=198) (ha:(F.arcs.length:Int)<=2500) {zs:List Arc} (h:bG (hJ F) zs) {l:List Int} (hl:l.length=F.fin.length) (hg: ∀i,i<l.length->l.getD i 0= -1) (cf ca:Nat):aL ⟨1+F.st,0,0::l,zs,cf,ca⟩=0:=by
 have f1:=hF.st
 have f2:=hF.finl
 have f3:=hF.start
 have hel:=gY 1 0 F.fin F.fin.length
 refine zU (by omega) (by simp;omega) (fun n hn=>?_) (fun a ha=>?_) (by simp[hJ];omega) h cf ca
 ·rcases List.mem_cons.1 hn with rfl|hn
  ·omega
  ·obtain⟨i,hi,e⟩:=List.getElem_of_mem hn
   have:=hg i hi
   simp[List.getD,hi]at this
   omega
 ·rcases hH.1 ha with⟨b,hb,rfl⟩|rfl|⟨n,hn,hnf,rfl⟩
  ·exact yL (hF.arc b hb) (by omega) (by omega)
  ·exact pY (by omega) (by omega) (by omega)
  ·have:=hF.fin _ (aB F.fin n 0 hn)
   exact pY (by omega) (by omega) (by omega)
theorem zH {a:Arc} {zs:List Arc} (h:bG [a] zs):zs=[a]:=h.uniq ⟨List.pairwise_singleton _ _,fun z hz=>hz,fun x hx=>⟨x,hx,Key.refl x,Int.le_refl _⟩⟩
theorem iX {i o:Int} {cf ca:Nat} {u v:List Int} {c:Int}:Wt ⟨2,0,[-1,1],[⟨0,i,o,1,5⟩],cf,ca⟩ u v c <-> u=lab i/\v=lab o/\c=6:=by
 constructor
 ·rintro⟨t,d,hw,hf,rfl⟩
  have key2: ∀s u v t d,Way [⟨0,i,o,1,5⟩] s u v t d->s≠0->s=t/\u=[]/\v=[]/\d=0:=by
   intro s u v t d h hs
   cases h with
   |nil=>exact⟨rfl,rfl,rfl,rfl⟩
   | @cons a u v t c ha h=>
     rw[List.mem_singleton]at ha
     subst ha
     exact absurd rfl hs
  have key: ∀s,Way [⟨0,i,o,1,5⟩] s u v t d->(s=t/\u=[]/\v=[]/\d=0)\/(s=0/\t=1/\u=lab i/\v=lab o/\d=5):=by
   intro s h
   cases h with
   |nil=>exact .inl ⟨rfl,rfl,rfl,rfl⟩
   | @cons a u v t c ha h=>
     rw[List.mem_singleton]at ha
     subst ha
     obtain⟨e1,rfl,rfl,rfl⟩:=key2 _ _ _ _ _ h (by show(1:Int)≠0;omega)
     exact .inr ⟨rfl,e1.symm,by simp,by simp,rfl⟩
  rcases key 0 hw with⟨rfl,_,_,_⟩|⟨_,rfl,rfl,rfl,rfl⟩
  ·exact absurd rfl hf
  ·exact⟨rfl,rfl,rfl⟩
 ·rintro⟨rfl,rfl,rfl⟩
  exact⟨1,5,by simpa using Way.one (L:= [⟨0,i,o,1,5⟩]) (a:=⟨0,i,o,1,5⟩) (by simp),by simp,by simp⟩
theorem cB.none:cB (fun _=>False) (-1):= .inl ⟨rfl,fun _ h=>h⟩
section
variable (P Q:List Int->List Int->Int->Prop) (u v:List Int)
variable {P Q u v}
end
section
variable {P:List Int->List Int->Int->Prop} {u v:List Int} {B:Int} {i o:Nat} {T:Nat->Nat->Int}
def up2 (T:Nat->Nat->Int) (a b:Nat) (n:Int):Nat->Nat->Int:=fun x y=>if x=a/\y=b then n else T x y
end
abbrev aW:List SC:= [.i 0,.i 0,.v (.slice none 0 0),.v (.slice none 0 0)]
structure Stp where
 i:Int
 o:Int
 w:Int
 p:Trip
def qV (G:TF) (p:Trip) (a:Arc):List Stp:=
 if a.f≠p.a then []else(if a.o=0/\p.c≠2 then [⟨a.i,0,a.w,⟨a.t,p.b,1⟩⟩]else [])++G.arcs.flatMap fun b=>if b.f=p.b/\a.o=b.i/\a.o≠0 then [⟨a.i,b.o,a.w+b.w,⟨a.t,b.t,0⟩⟩]else []
def sX (p:Trip) (b:Arc):List Stp:=if b.f=p.b/\b.i=0 then [⟨0,b.o,b.w,⟨p.a,b.t,2⟩⟩]else []
def eF (F G:TF) (p:Trip):List Stp:=F.arcs.flatMap (qV G p)++G.arcs.flatMap (sX p)
theorem vO {G:TF} {p:Trip} {a:Arc} {s:Stp}:s∈qV G p a <-> a.f=p.a/\((a.o=0/\p.c≠2/\s=⟨a.i,0,a.w,⟨a.t,p.b,1⟩⟩)\/ ∃b∈G.arcs,b.f=p.b/\a.o=b.i/\a.o≠0/\s=⟨a.i,b.o,a.w+b.w,⟨a.t,b.t,0⟩⟩):=by
 unfold qV
 by_cases h:a.f=p.a
 ·rw[if_neg (fun c=>c h),List.mem_append,List.mem_flatMap]
  constructor
  ·rintro(h1|⟨b,hb,h1⟩)
   ·split at h1
    ·rename_i c
     exact⟨h,.inl ⟨c.1,c.2,by simpa using h1⟩⟩
    ·cases h1
   ·split at h1
    ·rename_i c
     exact⟨h,.inr ⟨b,hb,c.1,c.2.1,c.2.2,by simpa using h1⟩⟩
    ·cases h1
  ·rintro⟨_,⟨h1,h2,rfl⟩|⟨b,hb,h1,h2,h3,rfl⟩⟩
   ·left;rw[if_pos ⟨h1,h2⟩];simp
   ·right;exact⟨b,hb,by rw[if_pos ⟨h1,h2,h3⟩];simp⟩
 ·rw[if_pos h]
  constructor
  ·intro h1;cases h1
  ·rintro⟨h1,_⟩;exact absurd h1 h
theorem fM {F G:TF} {p:Trip} {s:Stp}:s∈eF F G p <-> (∃a∈F.arcs,a.f=p.a/\a.o=0/\p.c≠2/\s=⟨a.i,0,a.w,⟨a.t,p.b,1⟩⟩)\/(∃a∈F.arcs,∃b∈G.arcs,a.f=p.a/\b.f=p.b/\a.o=b.i/\a.o≠0/\s=⟨a.i,b.o,a.w+b.w,⟨a.t,b.t,0⟩⟩)\/
  (∃b∈G.arcs,b.f=p.b/\b.i=0/\s=⟨0,b.o,b.w,⟨p.a,b.t,2⟩⟩):=by
 unfold eF
 rw[List.mem_append,List.mem_flatMap,List.mem_flatMap]
 constructor
 ·rintro(⟨a,ha,h⟩|⟨b,hb,h⟩)
  ·obtain⟨h1,⟨h2,h3,rfl⟩|⟨b,hb,h2,h3,h4,rfl⟩⟩:=vO.1 h
   ·exact .inl ⟨a,ha,h1,h2,h3,rfl⟩
   ·exact .inr (.inl ⟨a,ha,b,hb,h1,h2,h3,h4,rfl⟩)
  ·unfold sX at h
   split at h
   ·rename_i c
    exact .inr (.inr ⟨b,hb,c.1,c.2,by simpa using h⟩)
   ·cases h
 ·rintro(⟨a,ha,h1,h2,h3,rfl⟩|⟨a,ha,b,hb,h1,h2,h3,h4,rfl⟩|⟨b,hb,h1,h2,rfl⟩)
  ·exact .inl ⟨a,ha,vO.2 ⟨h1,.inl ⟨h2,h3,rfl⟩⟩⟩
  ·exact .inl ⟨a,ha,vO.2 ⟨h1,.inr ⟨b,hb,h2,h3,h4,rfl⟩⟩⟩
  ·refine .inr ⟨b,hb,?_⟩
   unfold sX
   rw[if_pos ⟨h1,h2⟩]
   simp
inductive nI (F G:TF):Trip->List Int->List Int->Trip->Int->Prop
 |nil (p:Trip):nI F G p [] [] p 0
 |cons {p:Trip} {s:Stp} {u v:List Int} {q:Trip} {c:Int} (hs:s∈eF F G p) (h:nI F G s.p u v q c):nI F G p (lab s.i++u) (lab s.o++v) q (s.w+c)
theorem nI.app {F G:TF} {p q r:Trip} {u v u' v':List Int} {c d:Int} (h:nI F G p u v q c) (h':nI F G q u' v' r d):nI F G p (u++u') (v++v') r (c+d):=by
 induction h with
 |nil p=>simpa using h'
 |cons hs h ih=>
  rw[List.append_assoc,List.append_assoc,Int.add_assoc]
  exact .cons hs (ih h')
theorem No {x:Int} (h:x≠0):lab x=[x]:=by unfold lab;rw[if_neg h]
theorem nI.two {F G:TF} {p q:Trip} {u v:List Int} {c:Int} (h:nI F G p u v q c): ∃w c1 c2,Way F.arcs p.a u w q.a c1/\Way G.arcs p.b w v q.b c2/\c=c1+c2:=by
 induction h with
 |nil p=>exact⟨[],0,0,.nil _,.nil _,rfl⟩
 |cons hs h ih=>
  obtain⟨w,c1,c2,h1,h2,rfl⟩:=ih
  rcases fM.1 hs with⟨a,ha,e1,e2,_,rfl⟩|⟨a,ha,b,hb,e1,e2,e3,e4,rfl⟩|⟨b,hb,e1,e2,rfl⟩
  ·refine⟨w,a.w+c1,c2,?_,by simpa[lab]using h2,by simp only;omega⟩
   have:=Way.cons ha h1
   rw[e1,e2]at this
   simpa[lab]using this
  ·refine⟨lab a.o++w,a.w+c1,b.w+c2,?_,?_,by simp only;omega⟩
   ·have:=Way.cons ha h1
    rw[e1]at this
    exact this
   ·have:=Way.cons hb h2
    rw[e2,<-e3]at this
    exact this
  ·refine⟨w,c1,b.w+c2,by simpa[lab]using h1,?_,by simp only;omega⟩
   have:=Way.cons hb h2
   rw[e1,e2]at this
   simpa[lab]using this
theorem Way.till {F G:TF} {b b':Int} {w v:List Int} {c:Int} (h:Way G.arcs b w v b' c): ∀(a k x:Int) (w':List Int),w=x::w'->x≠0-> ∃g∈G.arcs,∃k' v1 v2 d d2,g.i=x/\nI F G ⟨a,b,k⟩ [] v1 ⟨a,g.f,k'⟩ d/\Way G.arcs g.t w' v2 b' d2/\v=v1++(lab g.o++v2)/\c=d+(g.w+d2):=by
 induction h with
 |nil s=>intro a k x w' hw;cases hw
 | @cons g w v t c hg h ih=>
   intro a k x w' hw hx
   by_cases e:g.i=0
   ·rw[e]at hw
    have hw:w=x::w':=by simpa[lab]using hw
    obtain⟨g',hg',k',v1,v2,d,d2,h1,h2,h3,h4,h5⟩:=ih a 2 x w' hw hx
    refine⟨g',hg',k',lab g.o++v1,v2,g.w+d,d2,h1,?_,h3,by rw[h4,List.append_assoc],by omega⟩
    have:=nI.cons (F:=F) (G:=G) (p:=⟨a,g.f,k⟩) (fM.2 (.inr (.inr ⟨g,hg,rfl,e,rfl⟩))) h2
    simpa[lab]using this
   ·rw[No e]at hw
    simp only[List.cons_append,List.nil_append,List.cons.injEq]at hw
    obtain⟨rfl,rfl⟩:=hw
    exact⟨g,hg,k,[],v,0,c,rfl,.nil _,h,by simp,by omega⟩
theorem Way.alone {F G:TF} {b b':Int} {w v:List Int} {c:Int} (h:Way G.arcs b w v b' c): ∀(a k:Int),w=[]-> ∃k',nI F G ⟨a,b,k⟩ [] v ⟨a,b',k'⟩ c:=by
 induction h with
 |nil s=>intro a k _;exact⟨k,.nil _⟩
 | @cons g w v t c hg h ih=>
   intro a k hw
   have e:g.i=0:=by
    by_cases e:g.i=0
    ·exact e
    ·rw[No e]at hw;cases hw
   rw[e]at hw
   obtain⟨k',h1⟩:=ih a 2 (by simpa[lab]using hw)
   have:=nI.cons (F:=F) (G:=G) (p:=⟨a,g.f,k⟩) (fM.2 (.inr (.inr ⟨g,hg,rfl,e,rfl⟩))) h1
   exact⟨k',by simpa[lab]using this⟩
theorem Way.pair {F G:TF} {a a':Int} {u w:List Int} {c1:Int} (h:Way F.arcs a u w a' c1): ∀(b b' k:Int) (v:List Int) (c2:Int),k≠2->Way G.arcs b w v b' c2-> ∃k',nI F G ⟨a,b,k⟩ u v ⟨a',b',k'⟩ (c1+c2):=by
 induction h with
 |nil s=>
  intro b b' k v c2 _ hg
  obtain⟨k',h⟩:=hg.alone (F:=F) s k rfl
  exact⟨k',by simpa using h⟩
 | @cons f u w t c hf h ih=>
   intro b b' k v c2 hk hg
   by_cases e:f.o=0
   ·rw[e]at hg
    obtain⟨k',h1⟩:=ih b b' 1 v c2 (by omega) (by simpa[lab]using hg)
    have:=nI.cons (F:=F) (G:=G) (p:=⟨f.f,b,k⟩) (fM.2 (.inl ⟨f,hf,rfl,e,hk,rfl⟩)) h1
    rw[<-Int.add_assoc]at this
    exact⟨k',by simpa[lab]using this⟩
   ·rw[No e]at hg
    obtain⟨g,hgm,k1,v1,v2,d,d2,h1,h2,h3,rfl,rfl⟩:=hg.till (F:=F) f.f k f.o w rfl e
    obtain⟨k',h4⟩:=ih g.t b' 0 v2 d2 (by omega) h3
    have h5:=nI.cons (F:=F) (G:=G) (p:=⟨f.f,g.f,k1⟩) (fM.2 (.inr (.inl ⟨f,hf,g,hgm,rfl,rfl,h1.symm,e,rfl⟩))) h4
    have h6:=h2.app h5
    refine⟨k',?_⟩
    rw[show f.w+c+(d+(g.w+d2))=d+(f.w+g.w+(c+d2)) by omega]
    exact h6
def aDp (P Q:List Int->List Int->Int->Prop) (u v:List Int) (c:Int):Prop:= ∃w a b,P u w a/\Q w v b/\c=a+b
def PWt (F G:TF) (u v:List Int) (c:Int):Prop:= ∃q d,nI F G ⟨F.start,G.start,0⟩ u v q d/\F.fin.getD q.a.toNat 0≠ -1/\G.fin.getD q.b.toNat 0≠ -1/\c=d+(F.fin.getD q.a.toNat 0+G.fin.getD q.b.toNat 0)
theorem aBd {F G:TF} {u v:List Int} {c:Int}:PWt F G u v c <-> aDp (Wt F) (Wt G) u v c:=by
 constructor
 ·rintro⟨q,d,hw,h1,h2,rfl⟩
  obtain⟨w,c1,c2,g1,g2,rfl⟩:=hw.two
  exact⟨w,_,_,⟨q.a,c1,g1,h1,rfl⟩,⟨q.b,c2,g2,h2,rfl⟩,by omega⟩
 ·rintro⟨w,_,_,⟨a,c1,g1,h1,rfl⟩,⟨b,c2,g2,h2,rfl⟩,rfl⟩
  obtain⟨k,h⟩:=g1.pair (G:=G) G.start b 0 v c2 (by omega) g2
  exact⟨⟨a,b,k⟩,_,h,h1,h2,by simp only;omega⟩
structure Pe (F G:TF) (ps:List Trip) (raw:List Arc):Prop where
 first:ps.head?=some ⟨F.start,G.start,0⟩
 nd:ps.Nodup
 snd: ∀a∈raw,∃p∈ps,∃s∈eF F G p,s.p∈ps/\a=⟨ps.idxOf p,s.i,s.o,ps.idxOf s.p,s.w⟩
 cpl: ∀p∈ps,∀s∈eF F G p,s.p∈ps/\(⟨ps.idxOf p,s.i,s.o,ps.idxOf s.p,s.w⟩:Arc)∈raw
theorem Ns {ps:List Trip} {p:Trip} (hp:p∈ps):ps[ps.idxOf p]?=some p:=by
 have h:=List.idxOf_lt_length_iff.2 hp
 rw[List.getElem?_eq_getElem h,List.getElem_idxOf h]
theorem aBF {ps:List Trip} {p q:Trip} (hp:p∈ps) (hq:q∈ps) (h:ps.idxOf p=ps.idxOf q):p=q:=by
 have h1:=Ns hp
 have h2:=Ns hq
 rw[h,h2]at h1
 exact(Option.some.inj h1).symm
theorem Pe.way {F G:TF} {ps:List Trip} {raw:List Arc} (h:Pe F G ps raw) {p:Trip} (hp:p∈ps) {u v:List Int} {q:Trip} {c:Int} (hw:nI F G p u v q c):q∈ps/\Way raw (ps.idxOf p) u v (ps.idxOf q) c:=by
 induction hw with
 |nil p=>exact⟨hp,.nil _⟩
 | @cons p s u v q c hs hw ih=>
   obtain⟨h1,h2⟩:=h.cpl p hp s hs
   obtain⟨h3,h4⟩:=ih h1
   exact⟨h3,Way.cons h2 h4⟩
theorem Pe.back {F G:TF} {ps:List Trip} {raw:List Arc} (h:Pe F G ps raw) {n t:Int} {u v:List Int} {c:Int} (hw:Way raw n u v t c): ∀p∈ps,n=ps.idxOf p-> ∃q∈ps,t=ps.idxOf q/\nI F G p u v q c:=by
 induction hw with
 |nil s=>intro p hp e;exact⟨p,hp,e,.nil _⟩
 | @cons a u v t c ha hw ih=>
   intro p hp e
   obtain⟨p',hp',s,hs,hsp,rfl⟩:=h.snd a ha
   have:p'=p:=aBF hp' hp (by simp only at e;omega)
   subst this
   obtain⟨q,hq,e2,hw2⟩:=ih s.p hsp rfl
   exact⟨q,hq,e2,.cons hs hw2⟩
theorem Pe.wt {F G:TF} {ps:List Trip} {raw:List Arc} (h:Pe F G ps raw) {fin:List Int} (hf: ∀q∈ps,fin.getD (ps.idxOf q) 0=if F.fin.getD q.a.toNat 0≠ -1/\G.fin.getD q.b.toNat 0≠ -1 then F.fin.getD q.a.toNat 0+G.fin.getD q.b.toNat 0 else-1)
  (hF: ∀x∈F.fin,-1<=x) (hG: ∀x∈G.fin,-1<=x) {u v:List Int} {c:Int}:WtL raw 0 fin u v c <-> PWt F G u v c:=by
 have h0:(⟨F.start,G.start,0⟩:Trip)∈ps:=by
  cases hps:ps with
  |nil=>have:=h.first;rw[hps]at this;cases this
  |cons x l=>have:=h.first;rw[hps]at this;simp at this;simp[this]
 have e0:ps.idxOf (⟨F.start,G.start,0⟩:Trip)=0:=by
  cases hps:ps with
  |nil=>rw[hps]at h0;cases h0
  |cons x l=>have:=h.first;rw[hps]at this;simp at this;rw[this];simp
 have hpos: ∀(l:List Int) (n:Nat),(∀x∈l,-1<=x)-> -1<=l.getD n 0:=by
  intro l n hl
  by_cases hn:n<l.length
  ·exact hl _ (aB l n 0 hn)
  ·simp[List.getD,List.getElem?_eq_none (by omega:l.length<=n)]
 constructor
 ·rintro⟨t,d,hw,hfin,rfl⟩
  obtain⟨q,hq,rfl,hp⟩:=h.back hw _ h0 (by rw[e0];rfl)
  rw[Int.toNat_natCast]at hfin⊢
  rw[hf q hq]at hfin⊢
  split at hfin
  ·rename_i hc
   rw[if_pos hc]
   exact⟨q,d,hp,hc.1,hc.2,rfl⟩
  ·exact absurd rfl hfin
 ·rintro⟨q,d,hp,h1,h2,rfl⟩
  obtain⟨hq,hw⟩:=h.way h0 hp
  rw[e0]at hw
  refine⟨_,d,hw,?_⟩
  rw[Int.toNat_natCast,hf q hq,if_pos ⟨h1,h2⟩]
  have:=hpos F.fin q.a.toNat hF
  have:=hpos G.fin q.b.toNat hG
  exact⟨by omega,rfl⟩
def dE (bk:Bool) (a:Arc):Int:=if bk then a.t else a.f
def dW (bk:Bool) (a:Arc):Int:=if bk then a.f else a.t
def nxL (l:List Arc) (bk:Bool):Nat->Nat->List Int
 |0,_=> []
 |k+1,j=>if(j:Int)=dE bk (l.getD k aD)then nxL l bk k j++[dW bk (l.getD k aD)]else nxL l bk k j
theorem Gc {l:List Arc} {bk:Bool} {j:Nat} {y:Int}: ∀k,k<=l.length->(y∈nxL l bk k j <-> ∃i,i<k/\dE bk (l.getD i aD)=j/\dW bk (l.getD i aD)=y)
 |0,_=>by simp[nxL]
 |k+1,hk=>by
  have ih:=Gc (l:=l) (bk:=bk) (j:=j) (y:=y) k (by omega)
  unfold nxL
  by_cases e:(j:Int)=dE bk (l.getD k aD)
  ·rw[if_pos e,List.mem_append,ih,List.mem_singleton]
   constructor
   ·rintro(⟨i,h1,h2⟩|rfl)
    ·exact⟨i,by omega,h2⟩
    ·exact⟨k,by omega,e.symm,rfl⟩
   ·rintro⟨i,h1,h2,h3⟩
    by_cases q:i=k
    ·subst q;exact .inr h3.symm
    ·exact .inl ⟨i,by omega,h2,h3⟩
  ·rw[if_neg e,ih]
   constructor
   ·rintro⟨i,h1,h2⟩
    exact⟨i,by omega,h2⟩
   ·rintro⟨i,h1,h2,h3⟩
    by_cases q:i=k
    ·subst q;exact absurd h2.symm e
    ·exact⟨i,by omega,h2,h3⟩
theorem Ge {l:List Arc} {bk:Bool} {j:Nat}: ∀k,(nxL l bk k j).length<=k
 |0=>Nat.le_refl _
 |k+1=>by
  have:=Ge (l:=l) (bk:=bk) (j:=j) k
  unfold nxL
  split
  ·simp;omega
  ·omega
inductive Rch (l:List Arc) (bk:Bool) (first:List Int):Int->Prop
 |here {x:Int} (h:x∈first):Rch l bk first x
 |on {x:Int} {a:Arc} (h:Rch l bk first x) (ha:a∈l) (hs:dE bk a=x):Rch l bk first (dW bk a)
structure nQ (l:List Arc) (bk:Bool) (first:List Int) (n:Nat) (ms:List Bool) (st:List Int):Prop where
 len:ms.length=n
 rng: ∀x∈st,0<=x/\x<n
 snd: ∀j,j<n->ms.getD j false=true->Rch l bk first j
 sst: ∀x∈st,Rch l bk first x
 fst: ∀x∈first,ms.getD x.toNat false=true\/x∈st
 cpl: ∀j,j<n->ms.getD j false=true-> ∀y∈nxL l bk l.length j,ms.getD y.toNat false=true\/y∈st
section
variable {l:List Arc} {bk:Bool} {first:List Int} {n:Nat} {ms:List Bool} {st:List Int}
theorem nQ.start (hf: ∀x∈first,0<=x/\x<n):nQ l bk first n (List.replicate n false) first:=by
 have e: ∀j,(List.replicate n false).getD j false=false:=fun j=>by simp[List.getD,List.getElem?_replicate];split<;>rfl
 exact⟨by simp,hf,fun j _ h=>(by rw[e]at h;cases h),fun x hx=> .here hx,fun x hx=> .inr hx,fun j _ h=>(by rw[e]at h;cases h)⟩
theorem Qy (hl: ∀a∈l,0<=dE bk a/\dE bk a<n/\0<=dW bk a/\dW bk a<n) {j:Nat} (h:Rch l bk first j) {y:Int} (hy:y∈nxL l bk l.length j):Rch l bk first y/\0<=y/\y<n:=by
 obtain⟨i,h1,h2,rfl⟩:=(Gc l.length (Nat.le_refl _)).1 hy
 have hm:=aB l i aD h1
 have:=hl _ hm
 exact⟨.on h hm h2,this.2.2.1,this.2.2.2⟩
theorem nQ.pass {x:Int} (h:nQ l bk first n ms (st++[x])) (hx:ms.getD x.toNat false=true):nQ l bk first n ms st:=
 ⟨h.len,fun y hy=>h.rng y (by simp[hy]),h.snd,fun y hy=>h.sst y (by simp[hy]),fun y hy=>by
  rcases h.fst y hy with q|q
  ·exact .inl q
  ·rcases List.mem_append.1 q with q|q
   ·exact .inr q
   ·rw[List.mem_singleton]at q;subst q;exact .inl hx,fun j hj hm y hy=>by
  rcases h.cpl j hj hm y hy with q|q
  ·exact .inl q
  ·rcases List.mem_append.1 q with q|q
   ·exact .inr q
   ·rw[List.mem_singleton]at q;subst q;exact .inl hx⟩
theorem Dx (ms:List Bool) (i j:Nat) (hi:i<ms.length):(ms.set i true).getD j false=if j=i then true else ms.getD j false:=by
 simp only[List.getD,List.getElem?_set]
 by_cases e:i=j
 ·subst e;simp[hi]
 ·simp[e,Ne.symm e]
theorem nQ.mark (hl: ∀a∈l,0<=dE bk a/\dE bk a<n/\0<=dW bk a/\dW bk a<n) {x:Int} (h:nQ l bk first n ms (st++[x])):nQ l bk first n (ms.set x.toNat true) (st++nxL l bk l.length x.toNat):=by
 have hxr:=h.rng x (by simp)
 have hln:=h.len
 have hx:=h.sst x (by simp)
 have ex:((x.toNat:Nat):Int)=x:=by omega
 have hg: ∀j,(ms.set x.toNat true).getD j false=if j=x.toNat then true else ms.getD j false:=fun j=>Dx ms _ j (by omega)
 have hxn:Rch l bk first (x.toNat:Nat):=by rw[ex];exact hx
 refine⟨by simp[hln],fun y hy=>?_,fun j hj hm=>?_,fun y hy=>?_,fun y hy=>?_,fun j hj hm y hy=>?_⟩
 ·rcases List.mem_append.1 hy with hy|hy
  ·exact h.rng y (by simp[hy])
  ·exact(Qy hl hxn hy).2
 ·rw[hg]at hm
  split at hm
  ·rename_i e;rw[e,ex];exact hx
  ·exact h.snd j hj hm
 ·rcases List.mem_append.1 hy with hy|hy
  ·exact h.sst y (by simp[hy])
  ·exact(Qy hl hxn hy).1
 ·rw[hg]
  rcases h.fst y hy with q|q
  ·left;split
   ·rfl
   ·exact q
  ·rcases List.mem_append.1 q with q|q
   ·exact .inr (by simp[q])
   ·rw[List.mem_singleton]at q;subst q;left;rw[if_pos rfl]
 ·rw[hg]at hm⊢
  split at hm
  ·rename_i e;subst e;exact .inr (by simp[hy])
  ·rcases h.cpl j hj hm y hy with q|q
   ·left;split
    ·rfl
    ·exact q
   ·rcases List.mem_append.1 q with q|q
    ·exact .inr (by simp[q])
    ·rw[List.mem_singleton]at q;subst q;left;rw[if_pos rfl]
theorem nQ.done (hl: ∀a∈l,0<=dE bk a/\dE bk a<n/\0<=dW bk a/\dW bk a<n) (hf: ∀x∈first,0<=x/\x<n) (h:nQ l bk first n ms []) {j:Nat} (hj:j<n):ms.getD j false=true <-> Rch l bk first j:=by
 refine⟨h.snd j hj,fun hr=>?_⟩
 have key: ∀x,Rch l bk first x->0<=x/\x<n/\ms.getD x.toNat false=true:=by
  intro x hx
  induction hx with
  |here hx=>
   have:=hf _ hx
   rcases h.fst _ hx with q|q
   ·exact⟨this.1,this.2,q⟩
   ·cases q
  | @on x a hr ha hs ih=>
    obtain⟨h1,h2,h3⟩:=ih
    have hb:=hl a ha
    obtain⟨i,hi,e⟩:=List.getElem_of_mem ha
    have e2:l.getD i aD=a:=by simp[List.getD,hi,e]
    have hm:dW bk a∈nxL l bk l.length x.toNat:=(Gc l.length (Nat.le_refl _)).2 ⟨i,hi,by rw[e2,hs];omega,by rw[e2]⟩
    rcases h.cpl x.toNat (by omega) h3 _ hm with q|q
    ·exact⟨hb.2.2.1,hb.2.2.2,q⟩
    ·cases q
 have:=(key j hr).2.2
 simpa using this
end
def yZ (L:Nat->Nat) (ms:List Bool):Nat->Nat
 |0=>0
 |k+1=>yZ L ms k+if ms.getD k false=true then 0 else L k
theorem Ix {L:Nat->Nat} {ms:List Bool} {i:Nat} (hi:i<ms.length) (hm:ms.getD i false≠true): ∀k,yZ L (ms.set i true) k+(if i<k then L i else 0)=yZ L ms k
 |0=>by simp[yZ]
 |k+1=>by
  have ih:=Ix hi hm k (L:=L)
  unfold yZ
  rw[Dx ms i k hi]
  by_cases e:k=i
  ·subst e
   rw[if_neg (by omega)]at ih
   rw[if_pos rfl,if_pos rfl,if_pos (by omega),if_neg hm]
   omega
  ·rw[if_neg e]
   generalize (if ms.getD k false=true then 0 else L k)=z
   by_cases e2:i<k
   ·rw[if_pos e2]at ih
    rw[if_pos (by omega)]
    omega
   ·rw[if_neg e2]at ih
    rw[if_neg (by omega)]
    omega
def cin (n:Nat) (p:Nat->Bool):Nat:=(List.range n).countP p
theorem fD (n:Nat) (p:Nat->Bool):cin (n+1) p=cin n p+(if p n=true then 1 else 0):=by
 unfold cin
 rw[List.range_succ,List.countP_append,List.countP_singleton]
theorem sG (n:Nat) (p:Nat->Bool):cin n p<=n:=by
 have:=List.countP_le_length (p:=p) (l:=List.range n)
 simpa[cin]using this
theorem kD {n:Nat} {p q:Nat->Bool} (h: ∀i,i<n->p i=q i):cin n p=cin n q:=by
 induction n with
 |zero=>rfl
 |succ n ih=>rw[fD,fD,ih (fun i hi=>h i (by omega)),h n (by omega)]
theorem Rw {n k:Nat} {p q:Nat->Bool} (hk:k<n) (hp:p k=true) (hq:q k=false) (h: ∀i,i≠k->p i=q i):cin n p=cin n q+1:=by
 induction n with
 |zero=>omega
 |succ n ih=>
  rw[fD,fD]
  by_cases e:k=n
  ·subst e
   rw[kD (p:=p) (q:=q) fun i hi=>h i (by omega),hp,hq]
   simp
  ·rw[ih (by omega),h n (fun c=>e c.symm)]
   omega
theorem Ax {n:Nat} {p:Nat->Bool}:cin n p=0 <-> ∀i,i<n->p i=false:=by
 unfold cin
 rw[List.countP_eq_zero]
 constructor
 ·intro h i hi
  have:=h i (List.mem_range.2 hi)
  simpa using this
 ·intro h a ha
  simp[h a (List.mem_range.1 ha)]
theorem Hf {n:Nat} {p:Nat->Bool}:cin n p=n <-> ∀i,i<n->p i=true:=by
 induction n with
 |zero=>simp[cin]
 |succ n ih=>
  rw[fD]
  have:=sG n p
  constructor
  ·intro h i hi
   by_cases hp:p n=true
   ·rw[if_pos hp]at h
    by_cases e:i=n
    ·subst e;exact hp
    ·exact ih.1 (by omega) i (by omega)
   ·rw[if_neg hp]at h;omega
  ·intro h
   rw[if_pos (h n (by omega)),ih.2 fun i hi=>h i (by omega)]
def eX (l:List Arc):Nat->Int->Bool
 |0,_=>true
 |k+1,v=>l.any fun a=>a.t==v&&eX l k a.f
def dS (l:List Arc) (n:Nat):Bool:=(List.range n).any fun v=>eX l n (v:Int)
structure Kh (l:List Arc) (n:Nat) (R st:List Int) (c:List Int):Prop where
 len:c.length=n
 rng: ∀v∈R++st,0<=v/\v<n
 nd:(R++st).Nodup
 cnt: ∀v:Nat,v<n->c.getD v 0=(cin l.length fun i=>(l.getD i aD).t==(v:Int)&& !decide ((l.getD i aD).f∈R):Nat)
 zer: ∀v:Nat,v<n->(c.getD v 0=0 <-> (v:Int)∈R++st)
 top: ∀a∈l,∀i:Nat,R[i]?=some a.t-> ∃j:Nat,j<i/\R[j]?=some a.f
structure KhM (l:List Arc) (n:Nat) (R:List Int) (x:Int) (st:List Int) (c:List Int) (k:Nat):Prop where
 len:c.length=n
 rng: ∀v∈R++(x::st),0<=v/\v<n
 nd:(R++(x::st)).Nodup
 cnt: ∀v:Nat,v<n->c.getD v 0=(cin l.length fun i=>(l.getD i aD).t==(v:Int)&& !decide ((l.getD i aD).f∈R)&& !(decide (i<k)&&(l.getD i aD).f==x):Nat)
 zer: ∀v:Nat,v<n->(c.getD v 0=0 <-> (v:Int)∈R++(x::st))
 top: ∀a∈l,∀i:Nat,(R++[x])[i]?=some a.t-> ∃j:Nat,j<i/\(R++[x])[j]?=some a.f
section
variable {l:List Arc} {n:Nat} {R st c:List Int} {x:Int} {k:Nat}
theorem Kh.pop (h:Kh l n R (st++[x]) c):KhM l n R x st c 0:=by
 have hp:(R++(st++[x])).Perm (R++(x::st)):=List.Perm.append_left R (List.perm_append_comm (l₁:=st) (l₂:= [x]))
 have hx:=h.rng x (by simp)
 have hxn:x.toNat<n:=by omega
 have hx0:((x.toNat:Nat):Int)=x:=by omega
 refine⟨h.len,fun v hv=>h.rng v (hp.mem_iff.2 hv),hp.nodup_iff.1 h.nd,fun v hv=>?_,fun v hv=>?_,fun a ha i hi=>?_⟩
 ·rw[h.cnt v hv]
  congr 1
  apply kD
  intro i _
  simp
 ·rw[h.zer v hv];exact hp.mem_iff
 ·have hz:c.getD x.toNat 0=0:=(h.zer _ hxn).2 (by rw[hx0];simp)
  rw[h.cnt _ hxn,hx0]at hz
  have hz0:=Ax.1 (Int.ofNat_eq_zero.1 hz)
  by_cases hi2:i<R.length
  ·rw[List.getElem?_append_left hi2]at hi
   obtain⟨j,hj,e⟩:=h.top a ha i hi
   exact⟨j,hj,by rw[List.getElem?_append_left (by omega)];exact e⟩
  ·have hi3:i=R.length:=by
    have:=(List.getElem?_eq_some_iff.1 hi).1
    simp at this
    omega
   subst hi3
   rw[List.getElem?_append_right (Nat.le_refl _)]at hi
   simp only[Nat.sub_self,List.getElem?_cons_zero,Option.some.injEq]at hi
   obtain⟨j,hj,e⟩:=List.mem_iff_getElem.1 ha
   have:=hz0 j hj
   simp only[List.getD,List.getElem?_eq_getElem hj,Option.getD_some,e,hi,beq_self_eq_true,Bool.true_and,Bool.not_eq_false',decide_eq_true_eq]at this
   obtain⟨m,hm,e2⟩:=List.mem_iff_getElem.1 this
   exact⟨m,hm,by rw[List.getElem?_append_left hm,List.getElem?_eq_getElem hm,e2]⟩
theorem KhM.other (h:KhM l n R x st c k) (hf:(l.getD k aD).f≠x):KhM l n R x st c (k+1):=by
 refine⟨h.len,h.rng,h.nd,fun v hv=>?_,h.zer,h.top⟩
 rw[h.cnt v hv]
 congr 1
 apply kD
 intro i _
 by_cases e:i=k
 ·subst e
  simp only[beq_eq_false_iff_ne.2 hf,Bool.and_false]
 ·have:decide (i<k+1)=decide (i<k):=by
   apply decide_eq_decide.2;omega
  rw[this]
theorem KhM.hit (h:KhM l n R x st c k) (hk:k<l.length) (hf:(l.getD k aD).f=x) (ht:0<=(l.getD k aD).t/\(l.getD k aD).t<n):
  0<c.getD (l.getD k aD).t.toNat 0/\KhM l n R x (if c.getD (l.getD k aD).t.toNat 0-1=0 then st++[(l.getD k aD).t]else st) (c.set (l.getD k aD).t.toNat (c.getD (l.getD k aD).t.toNat 0-1)) (k+1):=by
 generalize hT:(l.getD k aD).t=t at*
 have htn:t.toNat<n:=by omega
 have ht0:((t.toNat:Nat):Int)=t:=by omega
 have hxR:x∉R:=by
  have:=h.nd
  rw[List.nodup_append]at this
  intro hx
  exact this.2.2 x hx x (by simp) rfl
 have hc:=h.cnt _ htn
 have hone:(cin l.length fun i=>(l.getD i aD).t==((t.toNat:Nat):Int)&& !decide ((l.getD i aD).f∈R)&& !(decide (i<k)&&(l.getD i aD).f==x))=(cin l.length fun i=>(l.getD i aD).t==((t.toNat:Nat):Int)&& !decide ((l.getD i aD).f∈R)&& !(decide (i<k+1)&&(l.getD i aD).f==x))+1:=by
  apply Rw hk
  ·simp only[hT,ht0,hf,hxR,beq_self_eq_true,decide_false,Bool.not_false,Nat.lt_irrefl,Bool.false_and,Bool.and_self]
  ·simp only[hf,beq_self_eq_true,Nat.lt_succ_self,decide_true,Bool.and_self,Bool.not_true,Bool.and_false]
  ·intro i hi
   have:decide (i<k+1)=decide (i<k):=by
    apply decide_eq_decide.2;omega
   rw[this]
 have hpos:0<c.getD t.toNat 0:=by rw[hc,hone];omega
 refine⟨hpos,?_⟩
 have hset: ∀v:Nat,v<n->(c.set t.toNat (c.getD t.toNat 0-1)).getD v 0=if v=t.toNat then c.getD t.toNat 0-1 else c.getD v 0:=by
  intro v hv
  simp only[List.getD,List.getElem?_set]
  by_cases e:t.toNat=v
  ·subst e;simp[h.len,hv]
  ·rw[if_neg e,if_neg (fun x=>e x.symm)]
 have htD:t∉R++(x::st):=by
  intro hm
  have:=(h.zer _ htn).2 (by rw[ht0];exact hm)
  omega
 have hcnt: ∀v:Nat,v<n->(c.set t.toNat (c.getD t.toNat 0-1)).getD v 0=(cin l.length fun i=>(l.getD i aD).t==(v:Int)&& !decide ((l.getD i aD).f∈R)&& !(decide (i<k+1)&&(l.getD i aD).f==x):Nat):=by
  intro v hv
  rw[hset v hv]
  by_cases e:v=t.toNat
  ·rw[if_pos e,hc,hone,e];omega
  ·rw[if_neg e,h.cnt v hv]
   congr 1
   apply kD
   intro i _
   by_cases e2:i=k
   ·subst e2
    have:((l.getD i aD).t==(v:Int))=false:=by
     rw[beq_eq_false_iff_ne,hT];omega
    rw[this];rfl
   ·have:decide (i<k+1)=decide (i<k):=by
     apply decide_eq_decide.2;omega
    rw[this]
 split
 ·rename_i h0
  refine⟨by simp[h.len],?_,?_,hcnt,?_,h.top⟩
  ·intro v hv
   have hv2:v∈(R++(x::st))++[t]:=by simpa using hv
   rcases List.mem_append.1 hv2 with hv|hv
   ·exact h.rng v hv
   ·simp at hv;subst hv;omega
  ·have:(R++(x::(st++[t])))=(R++(x::st))++[t]:=by simp
   rw[this,List.nodup_append]
   refine⟨h.nd,by simp,fun a ha b hb=>?_⟩
   simp at hb
   subst hb
   exact fun e=>htD (e▸ha)
  ·intro v hv
   have:(R++(x::(st++[t])))=(R++(x::st))++[t]:=by simp
   rw[hset v hv,this,List.mem_append]
   by_cases e:v=t.toNat
   ·rw[if_pos e]
    constructor
    ·intro _;right;simp;omega
    ·intro _;exact h0
   ·rw[if_neg e,h.zer v hv]
    constructor
    ·intro h;exact .inl h
    ·rintro(h|h)
     ·exact h
     ·simp at h;omega
 ·rename_i h0
  refine⟨by simp[h.len],h.rng,h.nd,hcnt,?_,h.top⟩
  intro v hv
  rw[hset v hv]
  by_cases e:v=t.toNat
  ·rw[if_pos e]
   constructor
   ·intro h;exact absurd h h0
   ·intro hm;rw[e,ht0]at hm;exact absurd hm htD
  ·rw[if_neg e];exact h.zer v hv
theorem KhM.done (h:KhM l n R x st c l.length):Kh l n (R++[x]) st c:=by
 have e:R++[x]++st=R++(x::st):=by simp
 refine⟨h.len,fun v hv=>h.rng v (by rw[<-e];exact hv),by rw[e];exact h.nd,fun v hv=>?_,fun v hv=>by rw[e];exact h.zer v hv,h.top⟩
 rw[h.cnt v hv]
 congr 1
 apply kD
 intro i hi
 have:((l.getD i aD).f∈R++[x]) <-> ((l.getD i aD).f∈R\/(l.getD i aD).f=x):=by simp
 rw[show decide ((l.getD i aD).f∈R++[x])=(decide ((l.getD i aD).f∈R)||(l.getD i aD).f==x) by
  rw[decide_eq_decide.2 this,Bool.decide_or];congr 1]
 simp only[hi,decide_true,Bool.true_and,Bool.not_or,Bool.and_assoc]
def jG (n:Nat) (R:List Int):Nat:=cin n fun v=>decide ((v:Int)∈R)
theorem mC (n:Nat) (R:List Int):jG n R<=n:=sG _ _
theorem Dw {n:Nat} {R R':List Int} {x:Int} (hx:0<=x/\x<n) (hxR:x∉R) (hm: ∀v,v∈R' <-> v∈R\/v=x):jG n R'=jG n R+1:=by
 have hx0:((x.toNat:Nat):Int)=x:=by omega
 unfold jG
 apply Rw (k:=x.toNat) (by omega)
 ·rw[hx0];exact decide_eq_true ((hm x).2 (.inr rfl))
 ·rw[hx0];exact decide_eq_false hxR
 ·intro i hi
  apply decide_eq_decide.2
  rw[hm]
  constructor
  ·rintro(h|h)
   ·exact h
   ·omega
  ·exact .inl
theorem tV {n:Nat}: ∀ {R:List Int},R.Nodup->(∀v∈R,0<=v/\v<n)->R.length=jG n R
 | [],_,_=>by
   unfold jG
   rw[Ax.2 fun i _=>by simp]
   rfl
 |x::R,hnd,hr=>by
  rw[List.nodup_cons]at hnd
  rw[Dw (R:=R) (hr x (by simp)) hnd.1 (fun v=>by simp[or_comm]),List.length_cons,tV hnd.2 fun v hv=>hr v (by simp[hv])]
theorem KhM.gone (h:KhM l n R x st c k):jG n (R++[x])=jG n R+1:=by
 have hx:=h.rng x (by simp)
 have hxR:x∉R:=by
  have:=h.nd
  rw[List.nodup_append]at this
  intro hx
  exact this.2.2 x hx x (by simp) rfl
 exact Dw hx hxR fun v=>by simp
theorem Kh.round (h:Kh l n R [] c) (hr: ∀a∈l,(0<=a.f/\a.f<n)/\0<=a.t/\a.t<n):decide (jG n R<n)=dS l n:=by
 by_cases hg:jG n R<n
 ·rw[decide_eq_true hg]
  have hex: ∃v,v<n/\((v:Nat):Int)∉R:=by
   refine Classical.byContradiction fun hc=>?_
   have:jG n R=n:=Hf.2 fun i hi=>by
    simp only[decide_eq_true_eq]
    exact Classical.byContradiction fun hn=>hc ⟨i,hi,hn⟩
   omega
  have hall: ∀k (v:Nat),v<n->((v:Nat):Int)∉R->eX l k (v:Int)=true:=by
   intro k
   induction k with
   |zero=>intro v _ _;rfl
   |succ k ih=>
    intro v hv hn
    have hz:c.getD v 0≠0:=fun e=>hn (by simpa using (h.zer v hv).1 e)
    rw[h.cnt v hv]at hz
    have hex2: ∃i,i<l.length/\((l.getD i aD).t==(v:Int)&& !decide ((l.getD i aD).f∈R))=true:=by
     refine Classical.byContradiction fun hc=>hz ?_
     have:(cin l.length fun i=>(l.getD i aD).t==(v:Int)&& !decide ((l.getD i aD).f∈R))=0:=Ax.2 fun i hi=>by
      cases hb:((l.getD i aD).t==(v:Int)&& !decide ((l.getD i aD).f∈R))with
      |false=>rfl
      |true=>exact absurd ⟨i,hi,hb⟩ hc
     rw[this];rfl
    obtain⟨i,hi,hb⟩:=hex2
    simp only[Bool.and_eq_true,beq_iff_eq,Bool.not_eq_true',decide_eq_false_iff_not]at hb
    have ham:=aB l i aD hi
    have hr1:=(hr _ ham).1
    have hf0:(((l.getD i aD).f.toNat:Nat):Int)=(l.getD i aD).f:=by omega
    have:=ih (l.getD i aD).f.toNat (by omega) (by rw[hf0];exact hb.2)
    rw[hf0]at this
    unfold eX
    rw[List.any_eq_true]
    exact⟨_,ham,by rw[this,hb.1];simp⟩
  obtain⟨v,hv,hn⟩:=hex
  unfold dS
  symm
  rw[List.any_eq_true]
  exact⟨v,List.mem_range.2 hv,hall n v hv hn⟩
 ·rw[decide_eq_false hg]
  have hge:jG n R=n:=by have:=mC n R;omega
  have hin: ∀v:Nat,v<n->(v:Int)∈R:=fun v hv=>by
   have:=Hf.1 hge v hv
   simpa using this
  have hrl:R.length<=n:=by
   have hnd:R.Nodup:=by have:=h.nd;simpa using this
   rw[tV hnd fun v hv=>h.rng v (by simpa using hv)]
   exact mC n R
  have hlt: ∀k (v:Int),eX l k v=true-> ∀i,R[i]?=some v->k<=i:=by
   intro k
   induction k with
   |zero=>intro v _ i _;omega
   |succ k ih=>
    intro v hv i hi
    unfold eX at hv
    rw[List.any_eq_true]at hv
    obtain⟨a,ha,hb⟩:=hv
    simp only[Bool.and_eq_true,beq_iff_eq]at hb
    obtain⟨j,hj,e⟩:=h.top a ha i (by rw[hi,hb.1])
    have:=ih a.f hb.2 j e
    omega
  symm
  unfold dS
  rw[List.any_eq_false]
  intro v hv
  have hv:=List.mem_range.1 hv
  intro hb
  obtain⟨i,hi,e⟩:=List.mem_iff_getElem.1 (hin v hv)
  have:=hlt n v hb i (by rw[List.getElem?_eq_getElem hi,e])
  omega
end
abbrev CM:=Int->Option Int
def uS (m:CM) (t v:Int):CM:=fun u=>if u=t then(match m t with|some o=>if v<o then some v else some o|none=>some v)else m u
def fU (b v:Int):Int:=if b= -1\/v<b then v else b
def sbA (c:Int) (x:Duo) (st:CM×Int) (a:Arc):CM×Int:=if a.f=x.a/\a.i=c then(uS st.1 a.t (x.b+a.w),fU st.2 (x.b+a.w))else st
def sbX (F:TF) (c:Int) (st:CM×Int) (x:Duo):CM×Int:=F.arcs.foldl (sbA c x) st
def sbR (F:TF) (s:List Duo) (c:Int):CM×Int:=s.foldl (sbX F c) (fun _=>none,-1)
def sbB (F:TF) (s:List Duo) (c:Int):Int:=(sbR F s c).2
def sbE (m:CM) (b:Int) (t:Nat):Option Duo:=(m t).map fun v=>⟨t,v-b⟩
def sbL (m:CM) (b:Int) (n:Nat):List Duo:=(List.range n).filterMap (sbE m b)
def sbS (F:TF) (s:List Duo) (c:Int):List Duo:=sbL (sbR F s c).1 (sbR F s c).2 F.st.toNat
theorem rZ {α β:Type} (f:β->α->β) (b:β) (l:List α) (d:α) (k:Nat) (hk:k<l.length):(l.take (k+1)).foldl f b=f ((l.take k).foldl f b) (l.getD k d):=by
 rw[List.take_add_one,List.foldl_append]
 simp[List.getD,hk]
theorem Xm (m:CM) (b:Int) (n:Nat):sbL m b (n+1)=match m n with|some v=>sbL m b n++[⟨n,v-b⟩]|none=>sbL m b n:=by
 unfold sbL
 rw[List.range_succ,List.filterMap_append]
 unfold sbE
 cases h:m (n:Int)with
 |some v=>simp[h]
 |none=>simp[h]
theorem Qd (m:CM) (b:Int) (n:Nat):(sbL m b n).length<=n:=by
 have:=List.length_filterMap_le (sbE m b) (List.range n)
 simpa[sbL]using this
theorem Fj {m:CM} {b:Int} {n:Nat} {e:Duo}:e∈sbL m b n <-> ∃t v,t<n/\m (t:Int)=some v/\e=⟨t,v-b⟩:=by
 unfold sbL sbE
 simp only[List.mem_filterMap,List.mem_range,Option.map_eq_some_iff]
 constructor
 ·rintro⟨t,ht,v,hv,rfl⟩;exact⟨t,v,ht,hv,rfl⟩
 ·rintro⟨t,v,ht,hv,rfl⟩;exact⟨t,ht,v,hv,rfl⟩
structure uM (B:Int) (st:CM×Int):Prop where
 c: ∀t v,st.1 t=some v->0<=v/\v<=B/\st.2≠ -1/\st.2<=v
 b: -1<=st.2/\st.2<=B
 e:st.2≠ -1-> ∃t,st.1 t=some st.2
theorem uM.start {B:Int} (hB:0<=B):uM B (fun _=>none,-1):=⟨fun t v h=>(by cases h),⟨by simp,by simp;omega⟩,fun h=>absurd rfl h⟩
theorem uM.step {B:Int} {c:Int} {x:Duo} {st:CM×Int} {a:Arc} (h:uM B st) (h0:0<=x.b+a.w) (h1:x.b+a.w<=B):uM B (sbA c x st a):=by
 unfold sbA
 split
 ·generalize x.b+a.w=v at*
  have hb:=h.b
  have hB:fU st.2 v=v/\(st.2= -1\/v<st.2)\/fU st.2 v=st.2/\st.2≠ -1/\st.2<=v:=by
   unfold fU
   split
   ·rename_i h2;exact .inl ⟨rfl,h2⟩
   ·rename_i h2;exact .inr ⟨rfl,by omega,by omega⟩
  have hle:fU st.2 v<=v/\fU st.2 v≠ -1/\ -1<=fU st.2 v/\fU st.2 v<=B:=by omega
  have hkeep: ∀t o,st.1 t=some o->fU st.2 v<=o:=fun t o ho=>by
   have:=h.c t o ho
   omega
  refine⟨fun t o ho=>?_,⟨hle.2.2.1,hle.2.2.2⟩,fun _=>?_⟩
  ·simp only[uS]at ho
   split at ho
   ·split at ho
    ·rename_i o' ho'
     have:=h.c _ _ ho'
     have:=hkeep _ _ ho'
     split at ho<;>cases ho<;>exact⟨by omega,by omega,hle.2.1,by omega⟩
    ·cases ho
     exact⟨h0,h1,hle.2.1,hle.1⟩
   ·have:=h.c _ _ ho
    have:=hkeep _ _ ho
    exact⟨by omega,by omega,hle.2.1,by omega⟩
  ·rcases hB with⟨e,h2⟩|⟨e,h2,h3⟩
   ·refine⟨a.t,?_⟩
    simp only[e]
    unfold uS
    rw[if_pos rfl]
    split
    ·rename_i o ho
     have:=h.c _ _ ho
     rw[if_pos (by omega)]
    ·rfl
   ·obtain⟨t,ht⟩:=h.e h2
    simp only[e]
    unfold uS
    by_cases e2:t=a.t
    ·refine⟨t,?_⟩
     rw[if_pos e2,<-e2,ht]
     simp only
     split
     ·rename_i h4;omega
     ·rfl
    ·exact⟨t,by rw[if_neg e2];exact ht⟩
 ·exact h
def sC (F:TF) (r:Int) (x:Duo):Int:=if F.fin.getD x.a.toNat 0≠ -1/\(r= -1\/x.b+F.fin.getD x.a.toNat 0<r)then x.b+F.fin.getD x.a.toNat 0 else r
def bQ (F:TF) (s:List Duo):Int:=s.foldl (sC F) (-1)
structure SOk (F:TF) (B:Int) (s:List Duo):Prop where
 len:s.length<=F.st
 rng: ∀e∈s,(0<=e.a/\e.a<F.st)/\0<=e.b/\e.b<=B
theorem SOk.mono {F:TF} {B C:Int} {s:List Duo} (h:SOk F B s) (hBC:B<=C):SOk F C s:=⟨h.len,fun e he=>by have:=h.rng e he;omega⟩
section
variable {F:TF} {B:Int} {s:List Duo} {c:Int}
theorem Xk {st:CM×Int} {x:Duo} (hw: ∀a∈F.arcs,0<=a.w/\a.w<=1000000000) (h:uM (B+1000000000) st) (h0:0<=x.b) (h1:x.b<=B) (k:Nat):uM (B+1000000000) ((F.arcs.take k).foldl (sbA c x) st):=by
 have: ∀(l:List Arc),(∀a∈l,0<=a.w/\a.w<=1000000000)-> ∀st,uM (B+1000000000) st->uM (B+1000000000) (l.foldl (sbA c x) st):=by
  intro l
  induction l with
  |nil=>intro _ st h;exact h
  |cons a l ih=>
   intro hl st h
   have:=hl a (by simp)
   exact ih (fun a ha=>hl a (by simp[ha])) _ (h.step (by omega) (by omega))
 exact this _ (fun a ha=>hw a (List.mem_of_mem_take ha)) _ h
theorem Mn (hs:SOk F B s) (hB:0<=B) (hw: ∀a∈F.arcs,0<=a.w/\a.w<=1000000000) (k:Nat):uM (B+1000000000) ((s.take k).foldl (sbX F c) (fun _=>none,-1)):=by
 have: ∀(l:List Duo),(∀e∈l,0<=e.b/\e.b<=B)-> ∀st,uM (B+1000000000) st->uM (B+1000000000) (l.foldl (sbX F c) st):=by
  intro l
  induction l with
  |nil=>intro _ st h;exact h
  |cons e l ih=>
   intro hl st h
   have he:=hl e (by simp)
   refine ih (fun a ha=>hl a (by simp[ha])) _ ?_
   have:=Xk (F:=F) (c:=c) (x:=e) hw h he.1 he.2 F.arcs.length
   rwa [List.take_length]at this
 exact this _ (fun a ha=>(hs.rng a (List.mem_of_mem_take ha)).2) _ (uM.start (by omega))
theorem Mm (hs:SOk F B s) (hB:0<=B) (hst:0<=F.st) (hw: ∀a∈F.arcs,0<=a.w/\a.w<=1000000000):SOk F (B+1000000000) (sbS F s c)/\ -1<=sbB F s c/\sbB F s c<=B+1000000000:=by
 have h:=Mn (c:=c) hs hB hw s.length
 rw[List.take_length]at h
 refine⟨⟨?_,?_⟩,h.b⟩
 ·have:=Qd (sbR F s c).1 (sbR F s c).2 F.st.toNat
  unfold sbS
  omega
 ·intro e he
  obtain⟨t,v,ht,hv,rfl⟩:=Fj.1 he
  have h2:=h.c _ _ hv
  have h3:=h.b
  simp only
  refine⟨⟨by omega,by omega⟩,?_,?_⟩
  ·have:(sbR F s c).2<=v:=h2.2.2.2
   omega
  ·have h4: -1<=(sbR F s c).2:=h3.1
   have h5:(sbR F s c).2≠ -1:=h2.2.2.1
   omega
end
theorem Cy {D:List Int} {l:List Arc} {b:Arc}:b∈dD D l <-> ∃a∈l,D.getD a.f.toNat 0≠ -1/\D.getD a.t.toNat 0≠ -1/\b=⟨a.f,a.i,a.o,a.t,a.w+(D.getD a.t.toNat 0-D.getD a.f.toNat 0)⟩:=by
 unfold dD
 rw[List.mem_filterMap]
 constructor
 ·rintro⟨a,ha,h⟩
  unfold tH at h
  split at h
  ·cases h
  ·rename_i hh
   cases h
   exact⟨a,ha,fun c=>hh (.inl c),fun c=>hh (.inr c),rfl⟩
 ·rintro⟨a,ha,h1,h2,rfl⟩
  refine⟨a,ha,?_⟩
  unfold tH
  rw[if_neg (fun c=>by rcases c with c|c;exact h1 c;exact h2 c)]
def mkP (l:List Arc) (bk:Bool) (ms:List Bool):Nat->List Bool
 |0=>ms
 |k+1=>(mkP l bk ms k).set (dW bk (l.getD k aD)).toNat ((mkP l bk ms k).getD (dW bk (l.getD k aD)).toNat false||(mkP l bk ms k).getD (dE bk (l.getD k aD)).toNat false)
def itM (l:List Arc) (bk:Bool) (ms:List Bool):Nat->List Bool
 |0=>ms
 |n+1=>mkP l bk (itM l bk ms n) l.length
theorem xP (l:List Arc) (bk:Bool) (ms:List Bool) (k:Nat):(mkP l bk ms k).length=ms.length:=by
 induction k with
 |zero=>rfl
 |succ k ih=>simp[mkP,ih]
theorem mV (l:List Arc) (bk:Bool) (ms:List Bool) (n:Nat):(itM l bk ms n).length=ms.length:=by
 induction n with
 |zero=>rfl
 |succ n ih=>simp[itM,xP,ih]
section
variable {l:List Arc} {bk:Bool} {n:Nat}
theorem uX (ms:List Bool) (i j:Nat) (b:Bool) (hi:i<ms.length):(ms.set i b).getD j false=if j=i then b else ms.getD j false:=by
 simp only[List.getD,List.getElem?_set]
 by_cases e:i=j
 ·subst e;simp[hi]
 ·rw[if_neg e,if_neg (fun c=>e c.symm)]
theorem oZ {ms:List Bool} (hms:ms.length=n) (hl: ∀a∈l,0<=dE bk a/\dE bk a<n/\0<=dW bk a/\dW bk a<n) {k:Nat} (hk:k<l.length) (j:Nat):
  (mkP l bk ms (k+1)).getD j false=((mkP l bk ms k).getD j false||(j==(dW bk (l.getD k aD)).toNat&&(mkP l bk ms k).getD (dE bk (l.getD k aD)).toNat false)):=by
 have ha:=hl _ (aB l k aD hk)
 have hlen:=xP l bk ms k
 show((mkP l bk ms k).set _ _).getD j false=_
 rw[uX _ _ _ _ (by omega)]
 by_cases e:j=(dW bk (l.getD k aD)).toNat
 ·rw[if_pos e,<-e,beq_self_eq_true,Bool.true_and]
 ·rw[if_neg e,beq_eq_false_iff_ne.2 e,Bool.false_and,Bool.or_false]
theorem tS {ms:List Bool} (hms:ms.length=n) (hl: ∀a∈l,0<=dE bk a/\dE bk a<n/\0<=dW bk a/\dW bk a<n) {j:Nat}: ∀k,k<=l.length->ms.getD j false=true->(mkP l bk ms k).getD j false=true
 |0,_,h=>h
 |k+1,hk,h=>by rw[oZ hms hl (by omega),tS hms hl k (by omega) h,Bool.true_or]
def nK (l:List Arc) (bk:Bool) (ms:List Bool):Prop:= ∀a∈l,ms.getD (dE bk a).toNat false=true->ms.getD (dW bk a).toNat false=true
theorem zJ {ms:List Bool} (hms:ms.length=n) (hl: ∀a∈l,0<=dE bk a/\dE bk a<n/\0<=dW bk a/\dW bk a<n) (h:nK l bk ms): ∀k,k<=l.length-> ∀j,(mkP l bk ms k).getD j false=ms.getD j false
 |0,_,_=>rfl
 |k+1,hk,j=>by
  have ih:=zJ hms hl h k (by omega)
  rw[oZ hms hl (by omega),ih,ih]
  cases hb:(j==(dW bk (l.getD k aD)).toNat&&ms.getD (dE bk (l.getD k aD)).toNat false)with
  |false=>rw[Bool.or_false]
  |true=>
   rw[Bool.and_eq_true,beq_iff_eq]at hb
   rw[hb.1,h _ (aB l k aD (by omega)) hb.2]
   rfl
theorem Yy {ms:List Bool} (hms:ms.length=n) (hl: ∀a∈l,0<=dE bk a/\dE bk a<n/\0<=dW bk a/\dW bk a<n):nK l bk ms\/ ∃j,j<n/\ms.getD j false=false/\(mkP l bk ms l.length).getD j false=true:=by
 by_cases h:nK l bk ms
 ·exact .inl h
 ·right
  unfold nK at h
  obtain⟨a,h⟩:=Classical.not_forall.1 h
  obtain⟨ha,h⟩:=Classical.not_imp.1 h
  obtain⟨h1,h2⟩:=Classical.not_imp.1 h
  have hr:=hl a ha
  refine⟨(dW bk a).toNat,by omega,by simpa using h2,?_⟩
  obtain⟨k,hk,rfl⟩:=List.mem_iff_getElem.1 ha
  have e:l[k]=l.getD k aD:=by simp[List.getD,hk]
  rw[e]at h1 h2⊢
  have hmono: ∀d,k+1+d<=l.length->(mkP l bk ms (k+1+d)).getD (dW bk (l.getD k aD)).toNat false=true:=by
   intro d
   induction d with
   |zero=>
    intro _
    rw[Nat.add_zero,oZ hms hl hk,tS hms hl k (by omega) h1]
    simp
   |succ d ih=>
    intro hd
    rw[<-Nat.add_assoc,oZ hms hl (by omega),ih (by omega),Bool.true_or]
  have:=hmono (l.length-(k+1)) (by omega)
  rwa [show k+1+(l.length-(k+1))=l.length by omega]at this
def aCP (n:Nat) (ms:List Bool):Nat:=cin n fun j=>ms.getD j false
theorem Kx {p q:Nat->Bool}: ∀ {n:Nat},(∀i,i<n->p i=true->q i=true)->cin n p<=cin n q
 |0,_=>Nat.le_refl _
 |n+1,h=>by
  have:=Kx (n:=n) fun i hi=>h i (by omega)
  rw[fD,fD]
  by_cases hp:p n=true
  ·rw[if_pos hp,if_pos (h n (by omega) hp)];omega
  ·rw[if_neg hp];omega
theorem Ay {p q:Nat->Bool}: ∀ {n:Nat},(∀i,i<n->p i=true->q i=true)-> ∀ {j:Nat},j<n->p j=false->q j=true->cin n p+1<=cin n q
 |0,_,_,h,_,_=>by omega
 |n+1,h,j,hj,h1,h2=>by
  rw[fD,fD]
  by_cases e:j=n
  ·subst e
   have:=Kx (p:=p) (q:=q) (n:=j) fun i hi=>h i (by omega)
   rw[if_neg (by rw[h1];exact Bool.false_ne_true),if_pos h2]
   omega
  ·have:=Ay (n:=n) (fun i hi=>h i (by omega)) (show j<n by omega) h1 h2
   by_cases hp:p n=true
   ·rw[if_pos hp,if_pos (h n (by omega) hp)];omega
   ·rw[if_neg hp];omega
theorem Nq {ms:List Bool} (hms:ms.length=n) (hl: ∀a∈l,0<=dE bk a/\dE bk a<n/\0<=dW bk a/\dW bk a<n):nK l bk (itM l bk ms n):=by
 have key: ∀k,nK l bk (itM l bk ms k)\/k<=aCP n (itM l bk ms k):=by
  intro k
  induction k with
  |zero=>exact .inr (Nat.zero_le _)
  |succ k ih=>
   have hlen:(itM l bk ms k).length=n:=by rw[mV,hms]
   by_cases hc:nK l bk (itM l bk ms k)
   ·left
    intro a ha h
    unfold itM at h⊢
    rw[zJ hlen hl hc _ (Nat.le_refl _)]at h⊢
    exact hc a ha h
   ·right
    rcases Yy hlen hl with h|⟨j,hj,h1,h2⟩
    ·exact absurd h hc
    ·rcases ih with ih|ih
     ·exact absurd ih hc
     ·have:=Ay (p:=fun j=>(itM l bk ms k).getD j false) (q:=fun j=>(itM l bk ms (k+1)).getD j false) (fun i hi h=>tS hlen hl _ (Nat.le_refl _) h) hj h1 h2
      unfold aCP at ih⊢
      omega
 rcases key n with h|h
 ·exact h
 ·have hle:=sG n fun j=>(itM l bk ms n).getD j false
  have hall:=Hf.1 (show cin n (fun j=>(itM l bk ms n).getD j false)=n by unfold aCP at h;omega)
  intro a ha _
  have:=hl a ha
  exact hall _ (by omega)
theorem Do {ms:List Bool} {first:List Int} (hms:ms.length=n) (hl: ∀a∈l,0<=dE bk a/\dE bk a<n/\0<=dW bk a/\dW bk a<n) (h: ∀j,j<n->ms.getD j false=true->Rch l bk first j): ∀k,k<=l.length-> ∀j,j<n->(mkP l bk ms k).getD j false=true->Rch l bk first j
 |0,_,j,hj,hm=>h j hj hm
 |k+1,hk,j,hj,hm=>by
  have ih:=Do hms hl h k (by omega)
  rw[oZ hms hl (by omega),Bool.or_eq_true]at hm
  rcases hm with hm|hm
  ·exact ih j hj hm
  ·rw[Bool.and_eq_true,beq_iff_eq]at hm
   have ha:=aB l k aD (by omega)
   have hr:=hl _ ha
   have h1:=ih _ (by omega) hm.2
   have e1:(((dE bk (l.getD k aD)).toNat:Nat):Int)=dE bk (l.getD k aD):=by omega
   have e2:((j:Nat):Int)=dW bk (l.getD k aD):=by rw[hm.1];omega
   rw[e2]
   exact .on h1 ha e1.symm
theorem Ri {ms:List Bool} {first:List Int} (hms:ms.length=n) (hl: ∀a∈l,0<=dE bk a/\dE bk a<n/\0<=dW bk a/\dW bk a<n) (hf: ∀x∈first,0<=x/\x<n) (h: ∀j:Nat,j<n->(ms.getD j false=true <-> (j:Int)∈first)) {j:Nat} (hj:j<n):
  (itM l bk ms n).getD j false=true <-> Rch l bk first j:=by
 constructor
 ·have: ∀k j,j<n->(itM l bk ms k).getD j false=true->Rch l bk first j:=by
   intro k
   induction k with
   |zero=>intro j hj hm;exact .here ((h j hj).1 hm)
   |succ k ih=>
    intro j hj hm
    exact Do (by rw[mV,hms]) hl ih _ (Nat.le_refl _) j hj hm
  exact this n j hj
 ·intro hr
  have hcl:=Nq (ms:=ms) hms hl
  have hmo: ∀k j,ms.getD j false=true->(itM l bk ms k).getD j false=true:=by
   intro k
   induction k with
   |zero=>intro j h;exact h
   |succ k ih=>intro j h;exact tS (by rw[mV,hms]) hl _ (Nat.le_refl _) (ih j h)
  have: ∀x,Rch l bk first x->(itM l bk ms n).getD x.toNat false=true:=by
   intro x hx
   induction hx with
   | @here x hx=>
     have:=hf x hx
     exact hmo n _ ((h x.toNat (by omega)).2 (by rw[show((x.toNat:Nat):Int)=x by omega];exact hx))
   |on _ ha hs ih=>exact hcl _ ha (by rw[hs];exact ih)
  have h2:=this j hr
  simpa using h2
end
def oX (l:List Int) (m:Int):Int:=l.foldl (fun m x=>if m<x then x else m) m
theorem lY: ∀(l:List Int) (m:Int),m<=oX l m/\ ∀x∈l,x<=oX l m
 | [],m=>⟨Int.le_refl _,fun x h=>(by cases h)⟩
 |y::l,m=>by
  obtain⟨h1,h2⟩:=lY l (if m<y then y else m)
  have e:oX (y::l) m=oX l (if m<y then y else m):=rfl
  rw[e]
  refine⟨?_,fun x hx=>?_⟩
  ·split at h1<;>split<;>omega
  ·rcases List.mem_cons.1 hx with rfl|hx
   ·split at h1<;>split<;>omega
   ·exact h2 x hx
theorem zI {B:Int}: ∀(l:List Int) (m:Int),m<=B->(∀x∈l,x<=B)->oX l m<=B
 | [],m,h,_=>h
 |y::l,m,h,hl=>by
  have e:oX (y::l) m=oX l (if m<y then y else m):=rfl
  rw[e]
  refine zI l _ ?_ fun x hx=>hl x (by simp[hx])
  have:=hl y (by simp)
  split<;>omega
def lI (F:TF):Int:=oX F.fin (oX (F.arcs.map (·.w)) 0)
theorem Dn {F:TF} {a:Arc} (h:a∈F.arcs):a.w<=lI F:=by
 have h1:=(lY (F.arcs.map (·.w)) 0).2 a.w (List.mem_map.2 ⟨a,h,rfl⟩)
 have h2:=(lY F.fin (oX (F.arcs.map (·.w)) 0)).1
 unfold lI
 omega
theorem Dm {F:TF} {x:Int} (h:x∈F.fin):x<=lI F:=(lY F.fin _).2 x h
theorem Pu (c:UInt8): ∀(p r:List UInt8),(∀x∈p,x≠c)->spl c (p++c::r)=p::spl c r
 | [],r,_=>by rw[List.nil_append,oE,if_pos rfl]
 |x::p,r,h=>by
  rw[List.cons_append,oE,if_neg (h x (by simp)),Pu c p r (fun y hy=>h y (by simp[hy]))]
theorem Pv (c:UInt8): ∀(p:List UInt8),(∀x∈p,x≠c)->spl c p=[p]
 | [],_=>rfl
 |x::p,h=>by rw[oE,if_neg (h x (by simp)),Pv c p (fun y hy=>h y (by simp[hy]))]
end Go.Fw
